/- Names: Unquote, by a walk. -/
import Derived.Test.YtlnafmibopkilaaDoorUs
namespace Go.Proofs.YtlnafmibopkilaaDoor
open Go Go.Lib Go.RowKit

def unqF : Nat → List UInt8 → List UInt8 → Option (List UInt8)
  | 0, _, acc => some acc
  | f + 1, l, acc => match l with
    | [] => some acc
    | c :: t => if c ≠ 92 then unqF f t (acc ++ [c]) else if (escP (c :: t)).2 = 0 then none else unqF f ((c :: t).drop (escP (c :: t)).2) (acc ++ (escP (c :: t)).1)
/-- The bytes that a quoted text stands for, ahead of the look whether it is just their quoted text. -/
def unqP (l acc : List UInt8) : Option (List UInt8) := unqF l.length l acc
theorem unqF_nil : ∀ f acc, unqF f [] acc = some acc
  | 0, _ => rfl
  | _ + 1, _ => rfl

theorem enc_size (r : Int) : (Utf8.encode r).data.toList.length ≤ 4 := by
  have h : ∀ c : Nat, (if c < 0x80 then (⟨#[UInt8.ofNat c]⟩ : ByteArray)
    else if c < 0x800 then ⟨#[UInt8.ofNat (0xC0 + c / 64), UInt8.ofNat (0x80 + c % 64)]⟩
    else if c < 0x10000 then ⟨#[UInt8.ofNat (0xE0 + c / 4096), UInt8.ofNat (0x80 + c / 64 % 64), UInt8.ofNat (0x80 + c % 64)]⟩
    else ⟨#[UInt8.ofNat (0xF0 + c / 262144), UInt8.ofNat (0x80 + c / 4096 % 64), UInt8.ofNat (0x80 + c / 64 % 64), UInt8.ofNat (0x80 + c % 64)]⟩).data.toList.length ≤ 4 := by
    intro c
    repeat' split
    all_goals simp
  exact h _
theorem three_ok (x : List UInt8) (d L : Nat) (h1 : x.length ≤ 4) (h2 : 0 < d) (h3 : d + 3 ≤ L) : (x, d + 3).1.length ≤ (x, d + 3).2 ∧ (x, d + 3).2 ≤ L ∧ 2 ≤ (x, d + 3).2 := by
  simp only
  omega
theorem esc_ok (l : List UInt8) (h : (escP l).2 ≠ 0) : (escP l).1.length ≤ (escP l).2 ∧ (escP l).2 ≤ l.length ∧ 2 ≤ (escP l).2 := by
  unfold escP at *
  by_cases h1 : hasPrefix l [92, 92] = true
  · rw [if_pos h1] at *
    rw [prefix_bool, decide_eq_true_eq] at h1
    obtain ⟨t, rfl⟩ := h1
    simp
  · rw [if_neg h1] at *
    by_cases h2 : hasPrefix l [92, 120] = true ∧ 4 ≤ l.length
    · rw [if_pos h2] at *
      cases hp : parseU 255 ((l.drop 2).take 2) with
      | none => rw [hp] at h; exact absurd rfl h
      | some n => exact ⟨by simp, h2.2, by simp⟩
    · rw [if_neg h2] at *
      by_cases h3 : hasPrefix l [92, 117] = true
      · rw [if_pos h3] at *
        rw [prefix_bool, decide_eq_true_eq] at h3
        obtain ⟨t, rfl⟩ := h3
        cases hp : parseU 4294967295 (digL (([92, 117] ++ t).drop 2)) with
        | none => rw [hp] at h; exact absurd rfl h
        | some n =>
          rw [hp] at h
          simp only at h ⊢
          by_cases h4 : 0 ≤ cutI (([92, 117] ++ t).drop 2) ∧ n ≤ 1114111
          · rw [if_pos h4]
            have hd : (digL (([92, 117] ++ t).drop 2)) ≠ [] := by
              intro e
              rw [e] at hp
              simp [parseU] at hp
            have hd0 : 0 < (digL (([92, 117] ++ t).drop 2)).length := List.length_pos_iff.2 hd
            have hl : (digL (([92, 117] ++ t).drop 2)).length + 3 ≤ ([92, 117] ++ t).length := by
              unfold digL
              rw [if_pos h4.1]
              have := cutI_lt _ h4.1
              simp at this ⊢
              omega
            have he := enc_size n
            exact three_ok _ _ _ he hd0 hl
          · rw [if_neg h4] at h
            exact absurd rfl h
      · rw [if_neg h3] at h
        exact absurd rfl h

theorem unqF_fuel : ∀ (n m : Nat) (l acc : List UInt8), l.length ≤ n → l.length ≤ m → unqF n l acc = unqF m l acc
  | 0, m, l, acc, hn, _ => by
    have : l = [] := List.eq_nil_of_length_eq_zero (by omega)
    subst this
    rw [unqF_nil, unqF_nil]
  | n + 1, 0, l, acc, _, hm => by
    have : l = [] := List.eq_nil_of_length_eq_zero (by omega)
    subst this
    rw [unqF_nil, unqF_nil]
  | n + 1, m + 1, l, acc, hn, hm => by
    cases l with
    | nil => rfl
    | cons c t =>
      simp only [unqF]
      by_cases h1 : c ≠ 92
      · rw [if_pos h1, if_pos h1]
        exact unqF_fuel n m _ _ (by simp at hn; omega) (by simp at hm; omega)
      · rw [if_neg h1, if_neg h1]
        by_cases h2 : (escP (c :: t)).2 = 0
        · rw [if_pos h2, if_pos h2]
        · rw [if_neg h2, if_neg h2]
          have h3 := esc_ok _ h2
          exact unqF_fuel n m _ _ (by simp at hn ⊢; omega) (by simp at hm ⊢; omega)
theorem unqP_char (c : UInt8) (t acc : List UInt8) (h : c ≠ 92) : unqP (c :: t) acc = unqP t (acc ++ [c]) := by
  unfold unqP
  simp only [List.length_cons, unqF]
  rw [if_pos h]
theorem unqP_esc (t acc : List UInt8) : unqP (92 :: t) acc = if (escP (92 :: t)).2 = 0 then none else unqP ((92 :: t).drop (escP (92 :: t)).2) (acc ++ (escP (92 :: t)).1) := by
  unfold unqP
  simp only [List.length_cons, unqF]
  rw [if_neg (by simp)]
  by_cases h2 : (escP (92 :: t)).2 = 0
  · rw [if_pos h2, if_pos h2]
  · rw [if_neg h2, if_neg h2]
    have h3 := esc_ok _ h2
    exact unqF_fuel _ _ _ _ (by simp at h3 ⊢; omega) (by simp)

def strLen : Value → Nat
  | .string r => r.size
  | _ => 0

theorem list_of (r : ByteArray) (h : 0 < r.size) : r.data.toList = (r[0]'h) :: (r.extract 1 r.size).data.toList := by
  rw [extract_tl]
  have h2 : 0 < r.data.toList.length := by simpa using h
  have h3 := List.drop_eq_getElem_cons h2
  rw [List.drop_zero] at h3
  exact h3

def UR (p : Option (List UInt8)) (s : List UInt8) : Ending :=
  match p with
  | none => .returned (.tuple #[.string ⟨#[]⟩, .int .i64 3])
  | some out => if quoteP out = s then .returned (.tuple #[.string ⟨out.toArray⟩, .int .i64 0]) else .returned (.tuple #[.string ⟨#[]⟩, .int .i64 3])

theorem UR_some (out s : List UInt8) : UR (some out) s = if quoteP out = s then .returned (.tuple #[.string ⟨out.toArray⟩, .int .i64 0]) else .returned (.tuple #[.string ⟨#[]⟩, .int .i64 3]) := rfl

set_option maxRecDepth 1000000 in
set_option maxHeartbeats 4000000 in
theorem unquote_any (s : ByteArray) (w : World) (hT : Tabs w) (hs : s.size ≤ 1000000000) :
    Calls Tryd.prog 22 #[.string s] w fun e w' => e = UR (unqP s.data.toList []) s.data.toList ∧ Below w.heap.size w w' := by
  obtain ⟨P, hP⟩ : ∃ P, P = unqP s.data.toList [] := ⟨_, rfl⟩
  rw [← hP]
  have HP := Lib.hid hP.symm; clear hP
  go_enter Tryd.func22, Tryd.ntmps22
  go_wp2_with fail
  go_loopw [5] (fun v wr => ∃ (r : ByteArray) (acc : List UInt8), v = .string r ∧ Lib.IsBuilderF 53 5 w.heap.size w.heap.size (Lib.byteCells acc) wr ∧ Below w.heap.size w wr ∧ w.heap.size < wr.heap.size ∧ Hid (unqP r.data.toList acc = P) ∧ acc.length + r.size ≤ s.size) (fun v _ => strLen v)
  case atStart =>
    refine ⟨s, [], rfl, Lib.IsBuilderF.of (Lib.fresh_isBuilder 53 5 w), (Below.refl _ w).alloc (Nat.le_refl _) _, by simp, HP, by simp⟩
  case round =>
    obtain ⟨r, acc, rfl, hI, hbw, hsz, HU, hal⟩ := hrel
    have HI := Lib.hid hI; clear hI
    by_cases h0 : r.size = 0
    · have hem := str_nil r h0
      have hout : P = some acc := by
        rw [← HU.out]
        have e : r.data.toList = [] := List.eq_nil_of_length_eq_zero (by simpa using h0)
        rw [e]
        rfl
      subst hout
      have hal2 : acc.length ≤ 1000000000 := by omega
      go_wp2_with fail
      go_at_call 37
      refine (Tryd.Builder_String_any_k w.heap.size w.heap.size acc _ HI.out (by omega)).mono ?_
      rintro e W1 ⟨rfl, hI2, b1, k1⟩
      have HI2 := Lib.hid hI2; clear hI2
      have hq := quote_any ⟨acc.toArray⟩ W1 (by show acc.length ≤ _; omega) (hT.below (hbw.trans b1))
      have hqq : ((⟨(quoteP acc).toArray⟩ : ByteArray).toList == s.toList) = decide (quoteP acc = s.data.toList) := by
        rw [str_list, str_list]
        by_cases h : quoteP acc = s.data.toList
        · simp [h]
        · simp [h]
      have HQ := Lib.hid hq; clear hq
      have hqr : (quoteP acc == s.toList) = decide (quoteP acc = s.data.toList) := by
        rw [str_list]
        by_cases h : quoteP acc = s.data.toList
        · simp [h]
        · simp [h]
      by_cases hd : quoteP acc = s.data.toList
      · rw [decide_eq_true hd] at hqq hqr
        go_wp2_with fail
        go_at_call 21
        refine HQ.out.mono ?_
        rintro e W2 ⟨rfl, b2⟩
        have HI3 := Lib.hid (kept HI2.out b2)
        go_wp2_with fail
        go_at_call 37
        refine (Tryd.Builder_String_any_k w.heap.size w.heap.size acc _ HI3.out (by have := b1.size; have := b2.size; omega)).mono ?_
        rintro e W3 ⟨rfl, _, b3, _⟩
        go_wp2_with fail
        go_ret2
        refine ⟨?_, ((hbw.trans b1).trans (b2.mono (by have := b1.size; omega))).trans b3⟩
        rw [UR_some, if_pos hd]
        rfl
      · rw [decide_eq_false hd] at hqq hqr
        go_wp2_with fail
        go_at_call 21
        refine HQ.out.mono ?_
        rintro e W2 ⟨rfl, b2⟩
        go_wp2_with fail
        go_ret2
        refine ⟨?_, (hbw.trans b1).trans (b2.mono (by have := b1.size; omega))⟩
        rw [UR_some, if_neg hd]
        rfl
    · have hne := str_ne r h0
      have hr0 : 0 < r.size := by omega
      have hl := list_of r hr0
      by_cases hc : r[0] = 92
      · have HE := escape_any r wr (hT.below hbw) (by omega) hr0
        have hcc : ((r[0].toNat : Int) == 92) = true := by rw [hc]; rfl
        have hstep : unqP r.data.toList acc = if (escP r.data.toList).2 = 0 then none else unqP (r.data.toList.drop (escP r.data.toList).2) (acc ++ (escP r.data.toList).1) := by
          rw [hl, hc]
          exact unqP_esc _ _
        have hok := esc_ok r.data.toList
        have hrl : r.data.toList.length = r.size := by simp
        rw [hrl] at hok
        clear hrl hl
        rw [hstep] at HU
        clear hstep
        have hxd : ∀ k, r.data.toList.drop k = (r.extract k r.size).data.toList := fun k => (extract_tl r k).symm
        have HXD := Lib.hid hxd; clear hxd
        unfold Esc at HE
        generalize escP r.data.toList = R at *
        obtain ⟨t, n⟩ := R
        simp only at HE hok HU
        have HEE := Lib.hid HE; clear HE
        go_wp2_with fail
        go_at_call 38
        refine HEE.out.mono ?_
        rintro e w1 ⟨rfl, hb⟩
        by_cases hn : n = 0
        · subst hn
          have hnone : P = none := by rw [← HU.out]; rfl
          subst hnone
          go_wp2_with fail
          go_ret2
          exact ⟨rfl, hbw.trans (hb.mono (by omega))⟩
        · have hn2 : ((n : Int) == 0) = false := by simpa using hn
          obtain ⟨o1, o2, o3⟩ := hok hn
          have hI1 := kept HI.out hb
          have HI1 := Lib.hid hI1; clear hI1
          go_wp2_with fail
          go_at_call 33
          refine (writeString_any w.heap.size w.heap.size _ ⟨t.toArray⟩ _ HI1.out (by rw [Lib.byteCells_length]; show acc.length + t.length ≤ _; omega) (by have := hb.size; omega)).mono ?_
          rintro e W1 ⟨rfl, h1, b1, k1⟩
          go_wp2_with fail
          go_roundw
          case rel =>
            refine ⟨_, acc ++ t, rfl, by rw [Lib.byteCells_append]; exact h1, (hbw.trans (hb.mono (by omega))).trans b1, by have := b1.size; have := hb.size; omega, Lib.hid ?_, by simp; omega⟩
            rw [← HXD.out, ← HU.out, if_neg hn]
          case measure => simp [strLen]; omega
      · have hcn : ((r[0].toNat : Int) == 92) = false := by
          have h2 : ¬ r[0].toNat = 92 := fun e => hc (UInt8.toNat_inj.1 e)
          simp
          omega
        go_wp2_with fail
        go_at_call 34
        refine (writeByte_any w.heap.size w.heap.size _ _ _ HI.out (by rw [Lib.byteCells_length]; omega) (by omega)).mono ?_
        rintro e W1 ⟨rfl, h1, b1, k1⟩
        go_wp2_with fail
        go_roundw
        case rel =>
          refine ⟨_, acc ++ [r[0]], rfl, by rw [Lib.byteCells_append]; exact h1, hbw.trans b1, by have := b1.size; have := HI.out; omega, Lib.hid ?_, by simp; omega⟩
          rw [← HU.out, hl, unqP_char _ _ _ hc]
        case measure => simp [strLen]; omega

end Go.Proofs.YtlnafmibopkilaaDoor
