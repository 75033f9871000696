/- Names: the order of two texts, by a walk. -/
import Derived.Test.YtlnafmibopkilaaDoorUp
import Derived.Test.YtlnafmibopkilaaDoorUw
namespace Go.Proofs.YtlnafmibopkilaaDoor
open Go Go.Lib Go.RowKit

theorem compare_rune (x y : Nat) (w : World) : Calls Tryd.prog 30 #[.int .i32 x, .int .i32 y] w fun e w' => e = .returned (.int .i64 (compareInt x y)) ∧ w' = w := by
  rcases (by omega : x < y ∨ y < x ∨ x = y) with h | h | h
  · have e : compareInt x y = -1 := by unfold compareInt; rw [if_pos (by omega)]
    rw [e]
    have h2 : (x : Int) < y := by omega
    go_enter Tryd.func30, Tryd.ntmps30
    go_wp2
    go_ret
    exact ⟨rfl, rfl⟩
  · have e : compareInt x y = 1 := by unfold compareInt; rw [if_neg (by omega), if_pos (by omega)]
    rw [e]
    have h2 : (y : Int) < x := by omega
    go_enter Tryd.func30, Tryd.ntmps30
    go_wp2
    go_ret
    exact ⟨rfl, rfl⟩
  · subst h
    have e : compareInt x x = 0 := by unfold compareInt; rw [if_neg (by omega), if_neg (by omega)]
    rw [e]
    go_enter Tryd.func30, Tryd.ntmps30
    go_wp2
    go_ret
    exact ⟨rfl, rfl⟩

theorem or_any (x y : Int) (W : World) : Calls Tryd.prog 29 #[.slice (some ⟨W.heap.size, 0, none⟩) 2 2] (W.alloc (.cells #[.int .i64 x, .int .i64 y] 3)) fun e w' => e = .returned (.int .i64 (if x = 0 then y else x)) ∧ w' = W.alloc (.cells #[.int .i64 x, .int .i64 y] 3) := by
  obtain ⟨V, hV⟩ : ∃ V, V = W.alloc (.cells #[.int .i64 x, .int .i64 y] 3) := ⟨_, rfl⟩
  have hb : V.heap[W.heap.size]? = some (.cells #[.int .i64 x, .int .i64 y] 3 (0, 0)) := by rw [hV]; exact blk_new W _
  have h0 : V.cell? ⟨W.heap.size, 0, none⟩ = some (.int .i64 x) := by rw [blk_cell hb]; rfl
  have h1 : V.cell? ⟨W.heap.size, 1, none⟩ = some (.int .i64 y) := by rw [blk_cell hb]; rfl
  rw [← hV]
  clear hb hV
  generalize W.heap.size = g at *
  have HH := Lib.hid (And.intro h0 h1); clear h0 h1
  go_enter Tryd.func29, Tryd.ntmps29
  go_wp2_with fail
  go_loopw [8] (fun i wr => ∃ (k : Nat), k ≤ 2 ∧ i = .int .i64 k ∧ Hid ((1 ≤ k → x = 0) ∧ (2 ≤ k → y = 0)) ∧ wr = V) (fun i _ => 2 - (RowKit.intOf i).toNat)
  case atStart => exact ⟨0, by omega, rfl, Lib.hid ⟨fun h => absurd h (by omega), fun h => absurd h (by omega)⟩, rfl⟩
  case round =>
    obtain ⟨k, hk, rfl, HK, rfl⟩ := hrel
    rcases (by omega : k = 0 ∨ k = 1 ∨ k = 2) with rfl | rfl | rfl
    · have h0 := HH.out.1
      by_cases hx : x = 0
      · subst hx
        go_wp2_with fail
        go_roundw
        case rel => exact ⟨1, by omega, by go_num, Lib.hid ⟨fun _ => by first | rfl | trivial, fun h => absurd h (by omega)⟩, by simp⟩
        case measure => simp [RowKit.intOf]
      · have hx2 : (x == 0) = false := by simpa using hx
        go_wp2_with fail
        go_ret
        exact ⟨rfl, rfl⟩
    · have h1 := HH.out.2
      have hx : x = 0 := HK.out.1 (by omega)
      subst hx
      by_cases hy : y = 0
      · subst hy
        go_wp2_with fail
        go_roundw
        case rel => exact ⟨2, by omega, by go_num, Lib.hid ⟨fun _ => by first | rfl | trivial, fun _ => by first | rfl | trivial⟩, by simp⟩
        case measure => simp [RowKit.intOf]
      · have hy2 : (y == 0) = false := by simpa using hy
        go_wp2_with fail
        go_ret
        exact ⟨rfl, rfl⟩
    · have hx : x = 0 := HK.out.1 (by omega)
      have hy : y = 0 := HK.out.2 (by omega)
      subst hx
      subst hy
      go_wp2_with fail
      go_ret
      exact ⟨rfl, rfl⟩

def cmpS (x y : List UInt8) : Int := if Op.bytesLess x y = true then -1 else if x = y then 0 else 1
theorem compare_str (x y : ByteArray) (w : World) : Calls Tryd.prog 32 #[.string x, .string y] w fun e w' => e = .returned (.int .i64 (cmpS x.data.toList y.data.toList)) ∧ w' = w := by
  unfold cmpS
  rw [← str_list x, ← str_list y]
  by_cases h1 : Op.bytesLess x.toList y.toList = true
  · rw [if_pos h1]
    go_enter Tryd.func32, Tryd.ntmps32
    go_wp2
    go_ret
    exact ⟨rfl, rfl⟩
  · rw [if_neg h1]
    have h1f : Op.bytesLess x.toList y.toList = false := by simpa using h1
    by_cases h2 : x.toList = y.toList
    · rw [if_pos h2]
      have h2f : (x.toList == y.toList) = true := by simpa using h2
      clear h2 h1
      go_enter Tryd.func32, Tryd.ntmps32
      go_wp2
      go_ret
      exact ⟨rfl, rfl⟩
    · rw [if_neg h2]
      have h2f : (x.toList == y.toList) = false := by simpa using h2
      clear h2 h1
      go_enter Tryd.func32, Tryd.ntmps32
      go_wp2
      go_ret
      exact ⟨rfl, rfl⟩

def ordF (x y : List UInt8) : Nat → List UInt8 → List UInt8 → Int
  | 0, _, _ => 0
  | f + 1, a, b =>
    if a = [] ∨ b = [] then (if compareInt a.length b.length = 0 then cmpS x y else compareInt a.length b.length)
    else if (if compareInt (decodeL a).1 (decodeL b).1 = 0 then compareInt (decodeL a).2 (decodeL b).2 else compareInt (decodeL a).1 (decodeL b).1) = 0 then ordF x y f (a.drop (decodeL a).2) (b.drop (decodeL b).2)
    else (if compareInt (decodeL a).1 (decodeL b).1 = 0 then compareInt (decodeL a).2 (decodeL b).2 else compareInt (decodeL a).1 (decodeL b).1)
/-- Which of two texts comes first. -/
def orderP (x y : List UInt8) : Int := ordF x y (x.length + 1) x y

theorem dec_str (r : ByteArray) (h : 0 < r.size) : decodeGo r = decodeL r.data.toList := by
  unfold decodeGo
  rw [if_neg (by omega), ← tl_dec]
  rfl
theorem dec_run (r : ByteArray) (w : World) (hT : Tabs w) (h : 0 < r.size) : Calls Tryd.prog 28 #[.string r] w fun e w' => e = .returned (.tuple #[.int .i32 (decodeL r.data.toList).1, .int .i64 (decodeL r.data.toList).2]) ∧ Below w.heap.size w w' := by
  rw [← dec_str r h]
  exact Tryd.utf8_DecodeRuneInString r w hT.u8

theorem bdrew {B : Nat} {u v : World} (h : Below B u v) : Below B u v.drew := ⟨h.os, h.tape, h.output, h.size, h.block⟩

def strSz : Value → Nat
  | .string r => r.size
  | _ => 0

set_option maxRecDepth 100000 in
set_option maxHeartbeats 4000000 in
theorem order_any (x y : ByteArray) (w : World) (hT : Tabs w) (hx : x.size ≤ 140737488351232) (hy : y.size ≤ 140737488351232) :
    Calls Tryd.prog 19 #[.string x, .string y] w fun e w' => e = .returned (.int .i64 (orderP x.data.toList y.data.toList)) ∧ Below w.heap.size w w' := by
  obtain ⟨P, hP⟩ : ∃ P, P = orderP x.data.toList y.data.toList := ⟨_, rfl⟩
  rw [← hP]
  have HP := Lib.hid hP.symm; clear hP
  go_enter Tryd.func19, Tryd.ntmps19
  go_wp2_with fail
  go_loopw [0, 1] (fun u v wr => ∃ (a b : ByteArray) (f : Nat), u = .string a ∧ v = .string b ∧ Below w.heap.size w wr ∧ Hid (ordF x.data.toList y.data.toList f a.data.toList b.data.toList = P) ∧ a.size < f ∧ a.size ≤ x.size ∧ b.size ≤ y.size) (fun u _ _ => strSz u)
  case atStart => exact ⟨x, y, x.data.toList.length + 1, rfl, rfl, Below.refl _ _, HP, by simp, by omega, by omega⟩
  case round =>
    obtain ⟨a, b, f, rfl, rfl, hbw, HU, hf, ha, hb⟩ := hrel
    by_cases h0 : a.size = 0 ∨ b.size = 0
    · have hU : P = if compareInt a.size b.size = 0 then cmpS x.data.toList y.data.toList else compareInt a.size b.size := by
        rw [← HU.out]
        obtain ⟨g, rfl⟩ : ∃ g, f = g + 1 := ⟨f - 1, by omega⟩
        have hnil : a.data.toList = [] ∨ b.data.toList = [] := by
          rcases h0 with h | h
          · exact .inl (List.eq_nil_of_length_eq_zero (by simpa using h))
          · exact .inr (List.eq_nil_of_length_eq_zero (by simpa using h))
        have h1 : a.data.toList.length = a.size := by simp
        have h2 : b.data.toList.length = b.size := by simp
        rw [ordF, if_pos hnil, h1, h2]
      have HU2 := Lib.hid hU; clear hU
      have hcs := fun W => compare_str x y W
      have hci := fun W => Tryd.cmp_Compare_int (a.size : Int) (b.size : Int) W
      generalize cmpS x.data.toList y.data.toList = c2 at *
      generalize compareInt (a.size : Int) (b.size : Int) = c1 at *
      have HCC := Lib.hid (And.intro hcs hci); clear hcs hci
      rcases (by omega : a.size = 0 ∨ (0 < a.size ∧ b.size = 0)) with hz | ⟨hz, hz2⟩
      · have hae := str_nil a hz
        clear hz h0
        go_wp2_with fail
        go_at_call 31
        refine (HCC.out.2 _).mono ?_
        rintro e w1 ⟨rfl, rfl⟩
        go_wp2_with fail
        go_at_call 32
        refine (HCC.out.1 _).mono ?_
        rintro e w1 ⟨rfl, rfl⟩
        go_wp2_with fail
        go_at_call 29
        refine (or_any c1 c2 w1).mono ?_
        rintro e w1 ⟨rfl, rfl⟩
        rw [← HU2.out]
        go_wp2_with fail
        go_ret
        exact ⟨rfl, hbw.alloc hbw.size _⟩
      · have hae := str_ne a (by omega)
        have hbe := str_nil b hz2
        clear hz hz2 h0
        go_wp2_with fail
        go_at_call 31
        refine (HCC.out.2 _).mono ?_
        rintro e w1 ⟨rfl, rfl⟩
        go_wp2_with fail
        go_at_call 32
        refine (HCC.out.1 _).mono ?_
        rintro e w1 ⟨rfl, rfl⟩
        go_wp2_with fail
        go_at_call 29
        refine (or_any c1 c2 w1).mono ?_
        rintro e w1 ⟨rfl, rfl⟩
        rw [← HU2.out]
        go_wp2_with fail
        go_ret
        exact ⟨rfl, hbw.alloc hbw.size _⟩
    · have ha0 : 0 < a.size := by omega
      have hb0 : 0 < b.size := by omega
      have hae := str_ne a (by omega)
      have hbe := str_ne b (by omega)
      have hane : a.data.toList ≠ [] := by intro e; have h2 : a.data.toList.length = a.size := by simp
                                           rw [e] at h2; simp at h2; omega
      have hbne : b.data.toList ≠ [] := by intro e; have h2 : b.data.toList.length = b.size := by simp
                                           rw [e] at h2; simp at h2; omega
      have hwa := decodeL_le a.data.toList hane
      have hwb := decodeL_le b.data.toList hbne
      have hpa := dw_pos a.data.toList hane
      have hla : a.data.toList.length = a.size := by simp
      have hlb : b.data.toList.length = b.size := by simp
      rw [hla] at hwa
      rw [hlb] at hwb
      have hstep : ∀ d, d = (if compareInt (decodeL a.data.toList).1 (decodeL b.data.toList).1 = 0 then compareInt (decodeL a.data.toList).2 (decodeL b.data.toList).2 else compareInt (decodeL a.data.toList).1 (decodeL b.data.toList).1) → (d = 0 → ordF x.data.toList y.data.toList (f - 1) (a.extract (decodeL a.data.toList).2 a.size).data.toList (b.extract (decodeL b.data.toList).2 b.size).data.toList = P) ∧ (d ≠ 0 → d = P) := by
        intro d hd
        have h := HU.out
        obtain ⟨g, rfl⟩ : ∃ g, f = g + 1 := ⟨f - 1, by omega⟩
        unfold ordF at h
        rw [if_neg (by simp [hane, hbne]), ← hd] at h
        refine ⟨fun e => ?_, fun e => ?_⟩
        · rw [if_pos e] at h
          rw [extract_tl, extract_tl]
          exact h
        · rw [if_neg e] at h
          exact h
      clear hla hlb hane hbne
      have hda := fun W hT => dec_run a W hT ha0
      have hdb := fun W hT => dec_run b W hT hb0
      generalize decodeL a.data.toList = da at *
      generalize decodeL b.data.toList = db at *
      obtain ⟨ra, wa⟩ := da
      obtain ⟨rb, wb⟩ := db
      simp only at hwa hwb hpa hstep hda hdb
      have HS := Lib.hid (And.intro hstep (And.intro hda hdb)); clear hstep hda hdb
      go_wp2_with fail
      go_at_call 28
      refine (HS.out.2.1 _ (hT.below hbw)).mono ?_
      rintro e w1 ⟨rfl, hb1⟩
      have HB1 := Lib.hid (hbw.trans (hb1.mono hbw.size)); clear hb1
      go_wp2_with fail
      go_at_call 28
      refine (HS.out.2.2 _ (hT.below HB1.out)).mono ?_
      rintro e w2 ⟨rfl, hb2⟩
      have HB2 := Lib.hid (HB1.out.trans (hb2.mono HB1.out.size)); clear hb2
      go_wp2_with fail
      go_at_call 30
      refine (compare_rune _ _ _).mono ?_
      have h2 := HS.out.1 _ rfl
      generalize compareInt (ra : Int) (rb : Int) = c1 at *
      rintro e w3 ⟨rfl, rfl⟩
      go_wp2_with fail
      go_at_call 31
      refine (Tryd.cmp_Compare_int _ _ _).mono ?_
      generalize compareInt (wa : Int) (wb : Int) = c2 at *
      rintro e w4 ⟨rfl, rfl⟩
      have H2 := Lib.hid h2; clear h2
      go_wp2_with fail
      go_at_call 29
      refine (or_any c1 c2 w4).mono ?_
      have h2 := H2.out
      generalize (if c1 = 0 then c2 else c1) = d at *
      rintro e w5 ⟨rfl, rfl⟩
      have H3 := Lib.hid h2; clear h2
      by_cases hd : d = 0
      · subst hd
        go_wp2_with fail
        go_region
        all_goals
          go_wp2_with fail
          go_roundw
          case rel => exact ⟨a.extract wa a.size, b.extract wb b.size, f - 1, rfl, rfl, by first | exact HB2.out.alloc HB2.out.size _ | exact bdrew (HB2.out.alloc HB2.out.size _), Lib.hid (H3.out.1 (by first | rfl | trivial)), by simp; omega, by simp; omega, by simp; omega⟩
          case measure => simp [strSz]; omega
      · have hd2 : (d == 0) = false := by simpa using hd
        go_wp2_with fail
        go_ret
        exact ⟨congrArg (fun z => Ending.returned (Value.int .i64 z)) (H3.out.2 hd), HB2.out.alloc HB2.out.size _⟩

end Go.Proofs.YtlnafmibopkilaaDoor
