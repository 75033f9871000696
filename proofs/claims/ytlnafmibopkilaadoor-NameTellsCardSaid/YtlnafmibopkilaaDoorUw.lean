/- Names: the walks of what is told rune by rune. -/
import Derived.Test.YtlnafmibopkilaaDoorUm
import Derived.Test.YtlnafmibopkilaaDoorChecked
import Derived.Test.YtlnafmibopkilaaDoorShelf
import Derived.WalkKit
import Derived.Lib.Hide
import Derived.Lib.OthersKept
import Derived.BigCall
namespace Go.Proofs.YtlnafmibopkilaaDoor
open Go Go.Lib Go.RowKit

theorem runes_len : ∀ (n : Nat) (l : List UInt8), (runesF n l).length ≤ l.length
  | 0, _ => by simp [runesF]
  | n + 1, l => by
    by_cases h : l = []
    · simp [runesF, h]
    · have := runes_len n (l.drop (decodeL l).2)
      have hw := dw_pos l h
      have hl : 0 < l.length := List.length_pos_iff.2 h
      simp only [runesF, if_neg h, List.length_cons]
      rw [List.length_drop] at this
      omega
theorem count_le (l : List UInt8) : countP l ≤ l.length := runes_len _ _

set_option maxHeartbeats 1000000 in
theorem count_any (s : ByteArray) (w : World) (hs : s.size ≤ 140737488351232) :
    Calls Tryd.prog 13 #[.string s] w fun e w' => e = .returned (.int .i64 (countP s.data.toList)) ∧ Below w.heap.size w w' := by
  have hcl : countP s.data.toList ≤ 140737488351232 := Nat.le_trans (count_le _) (by simpa using hs)
  go_enter Tryd.func13, Tryd.ntmps13
  go_wp2
  go_loopw [2] (fun v wr => ∃ (pos k : Nat), v = .int .i64 k ∧ wr.heap[w.heap.size]? = some (.stringIter s pos) ∧ Below w.heap.size w wr ∧ k + (runes (tl s pos)).length = countP s.data.toList) (fun _ wr => s.size - wr.iterPos w.heap.size)
  case atStart => exact ⟨0, 0, rfl, World.iter_heap w s 0, (Below.refl _ w).alloc (Nat.le_refl _) _, by rw [Nat.zero_add]; rfl⟩
  case round =>
    obtain ⟨pos, k, rfl, hit, hbw, hk⟩ := hrel
    by_cases hp : pos < s.size
    · have hnx : ∀ ty, (Instr.next (.pointer (some ⟨w.heap.size, 0, none⟩)) true ty).run Tryd.prog wr = _ := fun ty => Lib.run_next_any_at wr w.heap.size s pos ty hit hp
      have hwd := decode_width_pos s pos hp
      have hit2 := Lib.iterAt_heap wr w.heap.size s pos (pos + (Utf8.decode s pos).2) hit
      have hbw2 := Lib.below_iterAt hbw (k := w.heap.size) (Nat.le_refl _) s (pos + (Utf8.decode s pos).2)
      rw [runes_at s pos hp, List.length_cons] at hk
      go_wp2
      go_roundw
      case rel => exact ⟨pos + (Utf8.decode s pos).2, k + 1, by go_num, hit2, hbw2, by omega⟩
      case measure =>
        simp only [World.iterPos, hit2, hit]
        omega
    · have hnx : ∀ ty, (Instr.next (.pointer (some ⟨w.heap.size, 0, none⟩)) true ty).run Tryd.prog wr = _ := fun ty => Lib.run_next_end_at wr w.heap.size s pos ty hit hp
      rw [runes_end s pos hp, List.length_nil] at hk
      go_wp2
      go_ret
      exact ⟨by rw [← hk]; rfl, hbw⟩

theorem letter_any (r : Nat) (w : World) : Calls Tryd.prog 25 #[.int .i32 r] w fun e w' => e = .returned (.bool (letterP r)) ∧ w' = w := by
  go_enter Tryd.func25, Tryd.ntmps25
  go_wp2
  all_goals
    go_ret
    refine ⟨?_, rfl⟩
    show Ending.returned (Value.bool _) = Ending.returned (Value.bool _)
    refine congrArg (fun b => Ending.returned (Value.bool b)) ?_
    try simp only [beq_iff_eq, beq_eq_false_iff_ne, ne_eq] at *
    rw [Bool.eq_iff_iff]
    simp [letterP]
    try omega

theorem prefix_bool (l p : List UInt8) : hasPrefix l p = decide (p <+: l) := by
  unfold hasPrefix
  by_cases h : p <+: l
  · rw [decide_eq_true h]; exact List.isPrefixOf_iff_prefix.2 h
  · rw [decide_eq_false h]
    cases h2 : p.isPrefixOf l
    · rfl
    · exact absurd (List.isPrefixOf_iff_prefix.1 h2) h

theorem extract_tl (s : ByteArray) (p : Nat) : (s.extract p s.size).data.toList = tl s p := by
  rw [extract_data, List.take_of_length_le (by simp)]
  rfl

theorem broken_any (s : ByteArray) (p r : Nat) (w : World) (hp : p ≤ s.size) (hs : s.size ≤ 140737488351232) : Calls Tryd.prog 27 #[.string s, .int .i64 p, .int .i32 r] w fun e w' => e = .returned (.bool (brokenP r (tl s p))) ∧ w' = w := by
  by_cases h : r = 65533
  · subst h
    have hb : brokenP 65533 (tl s p) = !(hasPrefix (tl s p) [239, 191, 189]) := by rw [prefix_bool]; simp [brokenP]
    rw [hb]
    have hx := extract_tl s p
    have hc := fun W => Tryd.strings_HasPrefix (s.extract p s.size) ⟨#[239, 191, 189]⟩ W
    rw [hx] at hc
    generalize tl s p = T at *
    go_enter Tryd.func27, Tryd.ntmps27
    go_wp2_with fail
    go_at_call 43
    refine (hc _).mono ?_
    rintro e w1 ⟨rfl, rfl⟩
    go_wp2_with fail
    go_ret
    exact ⟨rfl, rfl⟩
  · have hb : brokenP r (tl s p) = false := by simp [brokenP, h]
    rw [hb]
    have hh : ((r : Int) == 65533) = false := by simp; omega
    go_enter Tryd.func27, Tryd.ntmps27
    go_wp2_with fail
    go_ret
    exact ⟨rfl, rfl⟩

set_option maxHeartbeats 1000000 in
theorem right_any (s : ByteArray) (w : World) (hs : s.size ≤ 140737488351232) :
    Calls Tryd.prog 11 #[.string s] w fun e w' => e = .returned (.bool (rightP s.data.toList)) ∧ Below w.heap.size w w' := by
  have hcl : countP s.data.toList ≤ 140737488351232 := Nat.le_trans (count_le _) (by simpa using hs)
  go_enter Tryd.func11, Tryd.ntmps11
  go_wp2_with fail
  go_loopw [3] (fun v wr => ∃ (pos k : Nat), v = .int .i64 k ∧ wr.heap[w.heap.size]? = some (.stringIter s pos) ∧ Below w.heap.size w wr ∧ k + (runes (tl s pos)).length = countP s.data.toList ∧ ((runes (tl s pos)).all fun p => letterP p.1) = ((runes s.data.toList).all fun p => letterP p.1)) (fun _ wr => s.size - wr.iterPos w.heap.size)
  case atStart => exact ⟨0, 0, rfl, World.iter_heap w s 0, (Below.refl _ w).alloc (Nat.le_refl _) _, by rw [Nat.zero_add]; rfl, rfl⟩
  case round =>
    obtain ⟨pos, k, rfl, hit, hbw, hk, ha⟩ := hrel
    by_cases hp : pos < s.size
    · have hnx : ∀ ty, (Instr.next (.pointer (some ⟨w.heap.size, 0, none⟩)) true ty).run Tryd.prog wr = _ := fun ty => Lib.run_next_any_at wr w.heap.size s pos ty hit hp
      have hwd := decode_width_pos s pos hp
      have hit2 := Lib.iterAt_heap wr w.heap.size s pos (pos + (Utf8.decode s pos).2) hit
      have hbw2 := Lib.below_iterAt hbw (k := w.heap.size) (Nat.le_refl _) s (pos + (Utf8.decode s pos).2)
      rw [runes_at s pos hp, List.length_cons] at hk
      rw [runes_at s pos hp, List.all_cons] at ha
      go_wp2_with fail
      go_at_call 25
      refine (letter_any _ _).mono ?_
      rintro e w1 ⟨rfl, rfl⟩
      by_cases hl : letterP (Utf8.decode s pos).1 = true
      · rw [hl] at ha ⊢
        rw [Bool.true_and] at ha
        go_wp2_with fail
        go_roundw
        case rel => exact ⟨pos + (Utf8.decode s pos).2, k + 1, by go_num, hit2, hbw2, by omega, ha⟩
        case measure =>
          simp only [World.iterPos, hit2, hit]
          omega
      · have hl2 : letterP (Utf8.decode s pos).1 = false := by simpa using hl
        rw [hl2] at ha ⊢
        have hr : rightP s.data.toList = false := by unfold rightP; rw [← ha]; simp
        go_wp2_with fail
        go_ret
        exact ⟨congrArg (fun b => Ending.returned (Value.bool b)) hr.symm, hbw2⟩
    · have hnx : ∀ ty, (Instr.next (.pointer (some ⟨w.heap.size, 0, none⟩)) true ty).run Tryd.prog wr = _ := fun ty => Lib.run_next_end_at wr w.heap.size s pos ty hit hp
      rw [runes_end s pos hp, List.length_nil] at hk
      rw [runes_end s pos hp, List.all_nil] at ha
      have hr : rightP s.data.toList = (decide (1 ≤ k) && decide (k ≤ 16)) := by
        unfold rightP
        rw [← ha]
        have e : (runes s.data.toList).length = k := by unfold countP at hk; omega
        rw [e, Bool.true_and]
      have HA := Lib.hid hr; clear ha hr
      go_wp2
      all_goals
        go_ret
        refine ⟨?_, hbw⟩
        show Ending.returned (Value.bool _) = Ending.returned (Value.bool _)
        refine congrArg (fun b => Ending.returned (Value.bool b)) ?_
        rw [HA.out]
        rw [Bool.eq_iff_iff]
        simp
        try omega

set_option maxHeartbeats 1000000 in
theorem valid_any (s : ByteArray) (w : World) (hs : s.size ≤ 140737488351232) :
    Calls Tryd.prog 15 #[.string s] w fun e w' => e = .returned (.bool (validP s.data.toList)) ∧ Below w.heap.size w w' := by
  go_enter Tryd.func15, Tryd.ntmps15
  go_wp2_with fail
  go_loopw [] (fun wr => ∃ (pos : Nat), wr.heap[w.heap.size]? = some (.stringIter s pos) ∧ Below w.heap.size w wr ∧ validP (tl s pos) = validP s.data.toList) (fun wr => s.size - wr.iterPos w.heap.size)
  case atStart => exact ⟨0, World.iter_heap w s 0, (Below.refl _ w).alloc (Nat.le_refl _) _, rfl⟩
  case round =>
    obtain ⟨pos, hit, hbw, ha⟩ := hrel
    by_cases hp : pos < s.size
    · have hnx : ∀ ty, (Instr.next (.pointer (some ⟨w.heap.size, 0, none⟩)) true ty).run Tryd.prog wr = _ := fun ty => Lib.run_next_any_at wr w.heap.size s pos ty hit hp
      have hwd := decode_width_pos s pos hp
      have hit2 := Lib.iterAt_heap wr w.heap.size s pos (pos + (Utf8.decode s pos).2) hit
      have hbw2 := Lib.below_iterAt hbw (k := w.heap.size) (Nat.le_refl _) s (pos + (Utf8.decode s pos).2)
      have hbr := broken_bad (tl s pos) (tl_ne s pos hp)
      rw [tl_dec] at hbr
      have hv : validP (tl s pos) = (!badP (tl s pos) && validP (tl s (pos + (Utf8.decode s pos).2))) := by
        unfold validP badP
        rw [runes_at s pos hp, List.all_cons, tl_dec]
      rw [hv] at ha
      go_wp2_with fail
      go_at_call 27
      refine (broken_any s pos _ _ (by omega) hs).mono ?_
      rw [hbr]
      rintro e w1 ⟨rfl, rfl⟩
      by_cases hl : badP (tl s pos) = true
      · rw [hl] at ha ⊢
        go_wp2_with fail
        go_ret
        exact ⟨congrArg (fun b => Ending.returned (Value.bool b)) ha, hbw2⟩
      · have hl2 : badP (tl s pos) = false := by simpa using hl
        rw [hl2] at ha ⊢
        rw [Bool.not_false, Bool.true_and] at ha
        go_wp2_with fail
        go_roundw
        case rel => exact ⟨pos + (Utf8.decode s pos).2, hit2, hbw2, ha⟩
        case measure =>
          simp only [World.iterPos, hit2, hit]
          omega
    · have hnx : ∀ ty, (Instr.next (.pointer (some ⟨w.heap.size, 0, none⟩)) true ty).run Tryd.prog wr = _ := fun ty => Lib.run_next_end_at wr w.heap.size s pos ty hit hp
      have hv : validP (tl s pos) = true := by unfold validP; rw [runes_end s pos hp]; rfl
      rw [hv] at ha
      have HA := Lib.hid ha; clear ha hv
      go_wp2_with fail
      go_ret
      exact ⟨congrArg (fun b => Ending.returned (Value.bool b)) HA.out, hbw⟩

def cutS (s : ByteArray) (n : Int) : ByteArray := s.extract 0 (cutN s.data.toList n)
theorem wsum_append (a b : List (Nat × Nat)) : wsum (a ++ b) = wsum a + wsum b := by
  induction a with
  | nil => simp [wsum]
  | cons p a ih => simp only [List.cons_append, wsum, ih]; omega
theorem drop_succ_of {α} (l : List α) (k : Nat) (x : α) (t : List α) (h : l.drop k = x :: t) : l.drop (k + 1) = t ∧ l.take (k + 1) = l.take k ++ [x] ∧ k < l.length := by
  have hk : k < l.length := by
    rcases Nat.lt_or_ge k l.length with h2 | h2
    · exact h2
    · rw [List.drop_eq_nil_of_le h2] at h; cases h
  rw [List.drop_eq_getElem_cons hk] at h
  injection h with h1 h2
  exact ⟨h2, by rw [← h1, List.take_succ_eq_append_getElem hk], hk⟩

set_option maxHeartbeats 1000000 in
theorem cut_any (s : ByteArray) (n : Int) (w : World) (hs : s.size ≤ 140737488351232) (hn : n ≤ 9223372036854775807) :
    Calls Tryd.prog 17 #[.string s, .int .i64 n] w fun e w' => e = .returned (.string (cutS s n)) ∧ Below w.heap.size w w' := by
  by_cases h1 : n < 1
  · have hc : cutS s n = ⟨#[]⟩ := by
      unfold cutS cutN
      rw [Int.toNat_of_nonpos (by omega)]
      simp [wsum]
      rfl
    rw [hc]
    go_enter Tryd.func17, Tryd.ntmps17
    go_wp2_with fail
    go_ret
    exact ⟨rfl, Below.refl _ _⟩
  · go_enter Tryd.func17, Tryd.ntmps17
    go_wp2_with fail
    go_loopw [1] (fun v wr => ∃ (pos k : Nat), v = .int .i64 (n - k) ∧ (k : Int) ≤ n ∧ pos ≤ s.size ∧ wr.heap[w.heap.size]? = some (.stringIter s pos) ∧ Below w.heap.size w wr ∧ runes (tl s pos) = (runes s.data.toList).drop k ∧ pos = wsum ((runes s.data.toList).take k)) (fun _ wr => s.size - wr.iterPos w.heap.size)
    case atStart => exact ⟨0, 0, by simp, by omega, by omega, World.iter_heap w s 0, (Below.refl _ w).alloc (Nat.le_refl _) _, rfl, rfl⟩
    case round =>
      obtain ⟨pos, k, rfl, hkn, hps, hit, hbw, hk, ha⟩ := hrel
      have HA := Lib.hid (And.intro hk ha); clear hk ha
      by_cases hp : pos < s.size
      · have hnx : ∀ ty, (Instr.next (.pointer (some ⟨w.heap.size, 0, none⟩)) true ty).run Tryd.prog wr = _ := fun ty => Lib.run_next_any_at wr w.heap.size s pos ty hit hp
        have hwd := decode_width_pos s pos hp
        have hdl : pos + (Utf8.decode s pos).2 ≤ s.size := by
          have h := decodeL_le (tl s pos) (tl_ne s pos hp)
          rw [tl_dec, tl_len] at h
          omega
        have hit2 := Lib.iterAt_heap wr w.heap.size s pos (pos + (Utf8.decode s pos).2) hit
        have hbw2 := Lib.below_iterAt hbw (k := w.heap.size) (Nat.le_refl _) s (pos + (Utf8.decode s pos).2)
        by_cases hz : n - k = 0
        · rw [hz]
          have hc : s.extract 0 pos = cutS s n := by
            unfold cutS cutN
            rw [show n.toNat = k by omega, ← HA.out.2]
          have HC := Lib.hid hc; clear hc
          go_wp2_with fail
          go_ret
          exact ⟨congrArg (fun b => Ending.returned (Value.string b)) HC.out, hbw2⟩
        · have hz2 : (n - (k : Int) == 0) = false := by simpa using hz
          obtain ⟨e1, e2, e3⟩ := drop_succ_of _ k _ _ ((HA.out.1.symm).trans (runes_at s pos hp))
          have e4 : pos + (Utf8.decode s pos).2 = wsum ((runes s.data.toList).take (k + 1)) := by
            rw [e2, wsum_append, ← HA.out.2]
            simp [wsum]
          have HE := Lib.hid (And.intro e1 e4); clear e1 e2 e3 e4
          go_wp2_with fail
          go_roundw
          case rel => exact ⟨pos + (Utf8.decode s pos).2, k + 1, by go_num, by omega, hdl, hit2, hbw2, HE.out.1.symm, HE.out.2⟩
          case measure =>
            simp only [World.iterPos, hit2, hit]
            omega
      · have hnx : ∀ ty, (Instr.next (.pointer (some ⟨w.heap.size, 0, none⟩)) true ty).run Tryd.prog wr = _ := fun ty => Lib.run_next_end_at wr w.heap.size s pos ty hit hp
        have hc : s = cutS s n := by
          have e0 := HA.out.1
          rw [runes_end s pos hp] at e0
          have e1 : (runes s.data.toList).length ≤ k := by
            have := congrArg List.length e0
            simp at this
            omega
          unfold cutS cutN
          rw [List.take_of_length_le (by omega)]
          have e2 := HA.out.2
          rw [List.take_of_length_le e1] at e2
          rw [← e2, show pos = s.size by omega]
          simp
        have HC := Lib.hid hc; clear hc
        go_wp2_with fail
        go_ret
        exact ⟨congrArg (fun b => Ending.returned (Value.string b)) HC.out, hbw⟩

end Go.Proofs.YtlnafmibopkilaaDoor
