/- Names: numbers read to the base sixteen. -/
import Derived.Test.YtlnafmibopkilaaDoorUf
import Derived.Lib.SmallJoins
import Derived.Deep.Cut
namespace Go.Proofs.YtlnafmibopkilaaDoor
open Go Go.Lib Go.RowKit

def loC (c : Nat) : Nat := (bits .or .u8 c 32).toNat
set_option maxRecDepth 100000 in
theorem lo_int (c : Nat) (h : c < 256) : bits .or .u8 c 32 = (loC c : Int) ∧ loC c ≤ 255 := by
  have := (by decide : ∀ c : Fin 256, 0 ≤ bits .or .u8 (c.1 : Int) 32 ∧ bits .or .u8 (c.1 : Int) 32 ≤ 255) ⟨c, h⟩
  unfold loC
  simp only at this
  omega
def digitU (c : Nat) : Option Nat :=
  if 48 ≤ c ∧ c ≤ 57 then some (c - 48) else if 97 ≤ loC c ∧ loC c ≤ 102 then some (loC c - 87) else none
def parseH (max : Nat) : Nat → List UInt8 → Option Nat
  | n, [] => some n
  | n, c :: l => match digitU c.toNat with
    | none => none
    | some d => if max < n * 16 + d then none else parseH max (n * 16 + d) l
def parseU (max : Nat) (l : List UInt8) : Option Nat := if l = [] then none else parseH max 0 l
theorem parseH_at (max n : Nat) (s : ByteArray) (k : Nat) (h : k < s.size) : parseH max n (tl s k) = match digitU (s[k]'h).toNat with
    | none => none
    | some d => if max < n * 16 + d then none else parseH max (n * 16 + d) (tl s (k + 1)) := by
  have e : tl s k = (s[k]'h) :: tl s (k + 1) := by
    unfold tl
    have h2 : k < s.data.toList.length := by simpa using h
    rw [List.drop_eq_getElem_cons h2]
    rfl
  rw [e]
  rfl

theorem str_list (s : ByteArray) : s.toList = s.data.toList := by
  have h := extract_toList s 0 s.size
  simp at h
  rw [h, List.take_of_length_le (by simp)]
theorem str_ne (s : ByteArray) (h : ¬ s.size = 0) : s.toList.isEmpty = false := by
  rw [str_list s]
  cases h2 : s.data.toList with
  | nil =>
    exfalso
    apply h
    have h3 : s.data.toList.length = s.size := by simp
    rw [h2] at h3
    simpa using h3.symm
  | cons a l => rfl
theorem str_nil (s : ByteArray) (h : s.size = 0) : s.toList.isEmpty = true := by
  have e : s = ⟨#[]⟩ := by
    apply ByteArray.ext
    exact Array.eq_empty_of_size_eq_zero h
  rw [e, str_list]
  rfl

/-- What ParseUint hands back. -/
def PU (max : Nat) (p : Option Nat) (x err : Value) : Prop :=
  (∃ n, p = some n ∧ n ≤ max ∧ x = .int .u64 n ∧ err = .nilIface) ∨ (p = none ∧ ((x = .int .u64 0 ∧ err = .iface 93 (.int .i64 2)) ∨ (x = .int .u64 max ∧ err = .iface 93 (.int .i64 1))))
theorem PU.syn {max : Nat} {p : Option Nat} (h : p = none) : PU max p (.int .u64 0) (.iface 93 (.int .i64 2)) := .inr ⟨h, .inl ⟨rfl, rfl⟩⟩
theorem PU.rng {max : Nat} {p : Option Nat} (h : p = none) : PU max p (.int .u64 max) (.iface 93 (.int .i64 1)) := .inr ⟨h, .inr ⟨rfl, rfl⟩⟩
theorem PU.ok {max : Nat} {p : Option Nat} {n : Nat} (h : p = some n) (hn : n ≤ max) : PU max p (.int .u64 n) .nilIface := .inl ⟨n, h, hn, rfl, rfl⟩

set_option maxRecDepth 1000000 in
set_option maxHeartbeats 4000000 in
theorem parse8_in (s : ByteArray) (w : World) (hs : s.size ≤ 140737488351232) :
    Calls Tryd.prog 60 #[.string s, .int .i64 16, .int .i64 8] w fun e w' => (∃ x err, e = .returned (.tuple #[x, err]) ∧ PU 255 (parseU 255 s.data.toList) x err) ∧ Below w.heap.size w w' := by
  by_cases h0 : s.size = 0
  · have es : s = ⟨#[]⟩ := by
      apply ByteArray.ext
      exact Array.eq_empty_of_size_eq_zero h0
    subst es
    refine (Tryd.internal_strconv_ParseUint_empty 16 8 w).mono ?_
    rintro e w' ⟨rfl, rfl⟩
    exact ⟨⟨_, _, rfl, .inr ⟨rfl, .inl ⟨rfl, rfl⟩⟩⟩, Below.refl _ _⟩
  · have hcv := Lib.run_convert_string_bytes (P := Tryd.prog) w 9 51 5 s (u := .string) Tryd.underlying9 Tryd.underlying51 Tryd.underlying5
    have hnn := str_ne s h0
    have hpu : parseU 255 s.data.toList = parseH 255 0 (tl s 0) := by
      unfold parseU
      rw [if_neg]
      · rfl
      · intro e
        have h2 : s.data.toList.length = s.size := by simp
        rw [e] at h2
        simp at h2
        omega
    have HPU := Lib.hid hpu; clear hpu
    have HB := Lib.hid (Go.Joins.below_bytesWorld w.heap.size w 5 s (Nat.le_refl _))
    go_enter Tryd.func60, Tryd.ntmps60
    obtain ⟨W1, hW1⟩ : ∃ W1, W1 = bytesWorld w 5 s := ⟨_, rfl⟩
    have hB : ∀ k (h : k < s.size), W1.cell? ⟨w.heap.size, k, none⟩ = some (.int .u8 ((s[k]'h).toNat : Int)) := by
      intro k hlt
      have hc := Lib.bytesWorld_cell w 5 s k hlt
      have hce : (s.data.toList.getD k 0).toNat = (s[k]'hlt).toNat := by
        have h2 : k < s.data.toList.length := by simpa using hlt
        rw [List.getD_eq_getElem?_getD, List.getElem?_eq_getElem h2]
        rfl
      rw [hce] at hc
      rw [hW1]
      exact hc
    have HB2 := Lib.hid (And.intro (hW1 ▸ HB.out : Below w.heap.size w W1) hB); clear hB
    rw [← hW1] at hcv
    clear hW1 HB
    go_wp2_with fail
    go_loopw [12, 13, 101] (fun un n i wr => ∃ (k m : Nat) (a : Int), un = .bool false ∧ n = .int .u64 a ∧ i = .int .i64 k ∧ k ≤ s.size ∧ Hid (a = m ∧ m ≤ 255 ∧ parseH 255 m (tl s k) = parseU 255 s.data.toList) ∧ wr = W1) (fun _ _ i _ => s.size - (RowKit.intOf i).toNat)
    case atStart => exact ⟨0, 0, 0, rfl, rfl, rfl, by omega, Lib.hid ⟨rfl, by omega, HPU.out.symm⟩, rfl⟩
    case round =>
      obtain ⟨k, m, a, rfl, rfl, rfl, hk, HP, rfl⟩ := hrel
      have a0 : 0 ≤ a := by have := HP.out.1; omega
      have a1 : a ≤ 255 := by have := HP.out.1; have := HP.out.2.1; omega
      by_cases hlt : k < s.size
      · have hc := HB2.out.2 k hlt
        have hcl := (s[k]'hlt).toNat_lt
        have hat := parseH_at 255 m s k hlt
        obtain ⟨c, hcc⟩ : ∃ c, c = (s[k]'hlt).toNat := ⟨_, rfl⟩
        rw [← hcc] at hc hcl hat
        clear hcc
        obtain ⟨hlo, hlo2⟩ := lo_int c (by omega)
        have hul := fun W => Tryd.internal_strconv_lower (c : Int) W
        rw [hlo] at hul
        obtain ⟨ci, hci⟩ : ∃ ci : Int, ci = c := ⟨_, rfl⟩
        obtain ⟨li, hli⟩ : ∃ li : Int, li = loC c := ⟨_, rfl⟩
        rw [← hci] at hc hul
        rw [← hli] at hul
        have c0 : 0 ≤ ci := by omega
        have c1 : ci ≤ 255 := by omega
        have l0 : 0 ≤ li := by omega
        have l1 : li ≤ 255 := by omega
        have HC := Lib.hid (And.intro hci (And.intro hli hat)); clear hci hli hat hlo hlo2 hcl
        by_cases hd1 : 48 ≤ ci ∧ ci ≤ 57
        · have hdg : digitU c = some (c - 48) := by unfold digitU; rw [if_pos (by have := HC.out.1; omega)]
          obtain ⟨g1, g2⟩ := hd1
          have HX := Lib.hid hul; clear hul
          by_cases hov : 255 < a * 16 + (ci - 48)
          · have hno : parseU 255 s.data.toList = none := by
              rw [← HP.out.2.2, HC.out.2.2, hdg]
              exact if_pos (by have := HP.out.1; have := HC.out.1; omega)
            have HNO := Lib.hid hno; clear hno hdg
            go_wp2_with fail
            go_ret2
            exact ⟨⟨_, _, rfl, PU.rng HNO.out⟩, HB2.out.1⟩
          · have hy : parseH 255 (m * 16 + (c - 48)) (tl s (k + 1)) = parseU 255 s.data.toList := by
              rw [← HP.out.2.2, HC.out.2.2, hdg]
              exact (if_neg (by have := HP.out.1; have := HC.out.1; omega)).symm
            have hov2 : a * 16 + (ci - 48) ≤ 255 := by omega
            have HY := Lib.hid hy; clear hy hdg hov
            go_wp2_with fail
            go_roundw
            case rel => exact ⟨k + 1, m * 16 + (c - 48), a * 16 + (ci - 48), rfl, by first | rfl | (congr 1; omega), by go_num, by omega, Lib.hid ⟨by have := HP.out.1; have := HC.out.1; omega, by have := HP.out.1; have := HC.out.1; omega, HY.out⟩, by simp⟩
            case measure => simp [RowKit.intOf]; omega
        · have hci : ci < 48 ∨ (57 < ci ∧ (ci == 95) = false) ∨ ci = 95 := by
            by_cases h95 : ci = 95
            · exact .inr (.inr h95)
            · have : (ci == 95) = false := by simpa using h95
              rcases (by omega : ci < 48 ∨ 57 < ci) with h | h
              · exact .inl h
              · exact .inr (.inl ⟨h, this⟩)
          have HUL := Lib.hid hul; clear hul
          by_cases hl : 97 ≤ li ∧ li ≤ 102
          · have hdg : digitU c = some (loC c - 87) := by
              unfold digitU
              rw [if_neg (by have := HC.out.1; omega), if_pos (by have := HC.out.2.1; omega)]
            obtain ⟨g1, g2⟩ := hl
            have g3 : li ≤ 122 := by omega
            by_cases hov : 255 < a * 16 + (li - 97 + 10)
            · have hno : parseU 255 s.data.toList = none := by
                rw [← HP.out.2.2, HC.out.2.2, hdg]
                exact if_pos (by have := HP.out.1; have := HC.out.2.1; omega)
              have HNO := Lib.hid hno; clear hno hdg hd1
              rcases hci with hci | ⟨hci, h95⟩ | rfl
              all_goals
                go_wp2_with (go_at_call 68; refine (HUL.out _).mono ?_; rintro e w' ⟨rfl, rfl⟩)
                go_ret2
                exact ⟨⟨_, _, rfl, PU.rng HNO.out⟩, HB2.out.1⟩
            · have hy : parseH 255 (m * 16 + (loC c - 87)) (tl s (k + 1)) = parseU 255 s.data.toList := by
                rw [← HP.out.2.2, HC.out.2.2, hdg]
                exact (if_neg (by have := HP.out.1; have := HC.out.2.1; omega)).symm
              have hov2 : a * 16 + (li - 97 + 10) ≤ 255 := by omega
              have HY := Lib.hid hy; clear hy hdg hov hd1
              rcases hci with hci | ⟨hci, h95⟩ | rfl
              all_goals
                go_wp2_with (go_at_call 68; refine (HUL.out _).mono ?_; rintro e w' ⟨rfl, rfl⟩)
                go_roundw
                case rel => exact ⟨k + 1, m * 16 + (loC c - 87), a * 16 + (li - 97 + 10), rfl, by first | rfl | (congr 1; omega), by go_num, by omega, Lib.hid ⟨by have := HP.out.1; have := HC.out.2.1; omega, by have := HP.out.1; have := HC.out.2.1; omega, HY.out⟩, by simp⟩
                case measure => simp [RowKit.intOf]; omega
          · have hdg : digitU c = none := by
              unfold digitU
              rw [if_neg (by have := HC.out.1; omega), if_neg (by have := HC.out.2.1; omega)]
            have hno : parseU 255 s.data.toList = none := by
              rw [← HP.out.2.2, HC.out.2.2, hdg]
            have HNO := Lib.hid hno; clear hno hdg hd1
            have hl3 : li < 97 ∨ ((97 ≤ li ∧ 122 < li) ∨ (97 ≤ li ∧ li ≤ 122 ∧ 16 ≤ li - 97 + 10)) := by omega
            clear hl
            rcases hci with hci | ⟨hci, h95⟩ | rfl
            all_goals
              rcases hl3 with h3 | ⟨h3, h4⟩ | ⟨h3, h4, h5⟩
              all_goals
                go_wp2_with (go_at_call 68; refine (HUL.out _).mono ?_; rintro e w' ⟨rfl, rfl⟩)
                go_ret2
                exact ⟨⟨_, _, rfl, PU.syn HNO.out⟩, HB2.out.1⟩
      · have hend : parseU 255 s.data.toList = some m := by
          rw [← HP.out.2.2, tl_end s k hlt]
          rfl
        have HE := Lib.hid hend; clear hend
        go_wp2_with fail
        go_ret2
        exact ⟨⟨_, _, rfl, by rw [HP.out.1]; exact PU.ok HE.out HP.out.2.1⟩, HB2.out.1⟩

end Go.Proofs.YtlnafmibopkilaaDoor
