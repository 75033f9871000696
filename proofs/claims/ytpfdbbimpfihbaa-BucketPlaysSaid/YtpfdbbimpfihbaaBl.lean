/- The reference's bucket, by walks. -/
import Derived.Test.YtpfdbbimpfihbaaBk
namespace Go.Proofs.Ytpfdbbimpfihbaa
open Go.RowKit

def IsW (w : World) (g : Nat) (b r l t : Int) : Prop := w.heap[g]? = some (.cells #[.int .i64 b, .int .i64 r, .int .i64 l, .int .i64 t] 33 (0, 0))
theorem IsW.fr {w w' : World} {g : Nat} {b r l t : Int} {S : Nat → Prop} (h : IsW w g b r l t) (hf : Fr S w w') (hs : ¬ S g) : IsW w' g b r l t := hf.blk h hs
theorem IsW.lt {w : World} {g : Nat} {b r l t : Int} (h : IsW w g b r l t) : g < w.heap.size := blk_lt h

set_option maxHeartbeats 400000 in
theorem wtake_any (g : Nat) (b r l t : Int) (w : World) (h : IsW w g b r l t) (hk : OkB b r l t) :
    Calls Try.prog 11 #[.pointer (some ⟨g, 0, none⟩)] w fun e w' => e = .returned (.bool (tkB l)) ∧ IsW w' g b r (tkL l) (tkT l t) ∧ Fr (· = g) w w' := by
  have hc2 := (blk_cell h 2).trans rfl
  have hc3 := (blk_cell h 3).trans rfl
  have hf2 := blk_frozen h 2
  have hf3 := blk_frozen h 3
  have H := Lib.hid h
  clear h
  obtain ⟨k1, k2, k3, k4, k5, k6, k7, k8⟩ := hk
  by_cases hl : 1 ≤ l
  · have hl0 : (l == 0) = false := by simp; omega
    go_enter Try.func11, Try.ntmps11
    go_wp2
    go_ret
    refine ⟨by simp [tkB, hl], ?_, ((Fr.refl _ _).setCell (by simp) _).setCell (by simp) _⟩
    simp only [tkL, tkT, if_pos hl]
    simpa [IsW] using blk_set (blk_set H.out 2 (.int .i64 (l - 1))) 3 (.int .i64 (t + 1))
  · obtain rfl : l = 0 := by omega
    go_enter Try.func11, Try.ntmps11
    go_wp2
    go_ret
    exact ⟨rfl, H.out, Fr.refl _ _⟩

set_option maxHeartbeats 400000 in
theorem wtick_any (g : Nat) (b r l t : Int) (w : World) (h : IsW w g b r l t) (hk : OkB b r l t) :
    Calls Try.prog 13 #[.pointer (some ⟨g, 0, none⟩)] w fun e w' => e = .returned (.tuple #[]) ∧ IsW w' g b r (tiL b r l) t ∧ Fr (· = g) w w' := by
  have hc0 := (blk_cell h 0).trans rfl
  have hc1 := (blk_cell h 1).trans rfl
  have hc2 := (blk_cell h 2).trans rfl
  have hf2 := blk_frozen h 2
  have H := Lib.hid h
  clear h
  obtain ⟨k1, k2, k3, k4, k5, k6, k7, k8⟩ := hk
  by_cases hl : b < l + r
  · go_enter Try.func13, Try.ntmps13
    go_wp2
    go_region
    go_wp2
    go_region
    go_wp2
    go_end0
    refine ⟨rfl, ?_, ((((Fr.refl _ _).setCell (by simp) _).setCell (by simp) _).drewN 2)⟩
    show IsW ((w.setCell ⟨g, 2, none⟩ (.int .i64 (l + r))).setCell ⟨g, 2, none⟩ (.int .i64 b)) g b r (tiL b r l) t
    rw [tiL, if_pos hl]
    simpa [IsW] using blk_set (blk_set H.out 2 (.int .i64 (l + r))) 2 (.int .i64 b)
  · go_enter Try.func13, Try.ntmps13
    go_wp2
    go_region
    go_wp2
    go_region
    go_wp2
    go_end0
    refine ⟨rfl, ?_, ((Fr.refl _ _).setCell (by simp) _).drewN 2⟩
    show IsW (w.setCell ⟨g, 2, none⟩ (.int .i64 (l + r))) g b r (tiL b r l) t
    rw [tiL, if_neg (by omega)]
    simpa [IsW] using blk_set H.out 2 (.int .i64 (l + r))

set_option maxHeartbeats 400000 in
theorem wnew_good (b r : Int) (w : World) (h1 : 0 ≤ b) (h2 : b ≤ 1000) (h3 : 0 ≤ r) (h4 : r ≤ 1000) :
    Calls Try.prog 9 #[.int .i64 b, .int .i64 r] w fun e w' => e = .returned (.tuple #[.pointer (some ⟨w.heap.size, 0, none⟩), .bool true]) ∧ IsW w' w.heap.size b r b 0 ∧ w'.heap.size = w.heap.size + 1 ∧ Fr (fun _ => False) w w' := by
  go_enter Try.func9, Try.ntmps9
  go_wp2
  go_ret2
  exact ⟨rfl, blk_new _ _, by simp, (Fr.refl _ _).alloc _⟩

set_option maxHeartbeats 400000 in
theorem wnew_bad (b r : Int) (w : World) (h : b < 0 ∨ 1000 < b ∨ r < 0 ∨ 1000 < r) :
    Calls Try.prog 9 #[.int .i64 b, .int .i64 r] w fun e w' => e = .returned (.tuple #[.pointer none, .bool false]) ∧ w = w' := by
  have H := Lib.hid h
  clear h
  go_enter Try.func9, Try.ntmps9
  go_wp2
  all_goals
    first
      | (exfalso; have := H.out; omega)
      | (go_ret2
         exact ⟨rfl, rfl⟩)

set_option maxHeartbeats 1000000 in
theorem plays_any (b r : Int) (a : Option Addr) (n c : Nat) (xs : List Bool) (w : World) (hx : RdB w a n xs) :
    Calls Try.prog 3 #[.int .i64 b, .int .i64 r, .slice a n c] w fun e w' => e = .returned (.bool true) ∧ Fr (fun _ => False) w w' := by
  have hm : n ≤ 9223372036854775807 := by have := hx.2.1; unfold maxLen at this; exact this
  by_cases hn : 500 < n
  · go_enter Try.func3, Try.ntmps3
    go_wp2_with fail
    go_at_call 7
    refine (awake_any _).mono ?_
    rintro e w1 ⟨rfl, hf1⟩
    go_wp2_with fail
    go_at_call 7
    refine (awake_any _).mono ?_
    rintro e w2 ⟨rfl, hf2⟩
    go_wp2_with fail
    go_ret
    exact ⟨rfl, hf1.trans hf2⟩
  · by_cases hg : b < 0 ∨ 1000 < b ∨ r < 0 ∨ 1000 < r
    · have HG := Lib.hid hg
      clear hg
      go_enter Try.func3, Try.ntmps3
      go_wp2_with fail
      go_at_call 7
      refine (awake_any _).mono ?_
      rintro e w1 ⟨rfl, hf1⟩
      go_wp2_with fail
      go_at_call 8
      refine (new_bad _ _ _ HG.out).mono ?_
      rintro e w2 ⟨rfl, rfl⟩
      go_wp2_with fail
      go_at_call 9
      refine (wnew_bad _ _ _ HG.out).mono ?_
      rintro e w2 ⟨rfl, rfl⟩
      go_wp2_with fail
      go_ret
      exact ⟨rfl, hf1⟩
    · go_enter Try.func3, Try.ntmps3
      go_wp2_with fail
      go_at_call 7
      refine (awake_any _).mono ?_
      rintro e w1 ⟨rfl, hf1⟩
      go_wp2_with fail
      go_at_call 8
      refine (new_good _ _ _ (by omega) (by omega) (by omega) (by omega)).mono ?_
      rintro e w2 ⟨rfl, hb2, hz2, hf2⟩
      have H2 := Lib.hid (And.intro hb2 (And.intro hz2 hf2)); clear hb2 hz2 hf2
      go_wp2_with fail
      go_at_call 9
      refine (wnew_good _ _ _ (by omega) (by omega) (by omega) (by omega)).mono ?_
      rintro e w3 ⟨rfl, hb3, hz3, hf3⟩
      have H3 := Lib.hid (And.intro hb3 (And.intro hz3 hf3)); clear hb3 hz3 hf3
      go_wp2_with fail
      have hfw : Fr (fun _ => False) w w3 := hf1.trans (H2.out.2.2.trans H3.out.2.2)
      have HFW := Lib.hid hfw
      have HX := Lib.hid hx
      have hs2 : w1.heap.size < w2.heap.size := H2.out.1.lt
      have hne : w1.heap.size ≠ w2.heap.size := by omega
      have hs1 : w.heap.size ≤ w1.heap.size := hf1.size
      have HB : Hid (IsB w3 w1.heap.size b r b 0) := Lib.hid (H2.out.1.fr H3.out.2.2 (by simp))
      have HW : Hid (IsW w3 w2.heap.size b r b 0) := Lib.hid H3.out.1
      have HZ := Lib.hid (And.intro hs1 hs2)
      clear hfw hx H2 H3 hf1 hs1 hs2
      go_loopw [59] (fun i wr => ∃ (k : Nat) (l t : Int), k ≤ n ∧ i = .int .i64 k ∧ IsB wr w1.heap.size b r l t ∧ IsW wr w2.heap.size b r l t ∧ OkB b r l t ∧ t ≤ k ∧ Fr (fun _ => False) w wr) (fun i _ => n - (intOf i).toNat)
      case atStart => exact ⟨0, b, 0, by omega, rfl, HB.out, HW.out, by unfold OkB; omega, by omega, HFW.out⟩
      case round =>
        obtain ⟨k, l, t, hk, rfl, hb, hw, hok, htk, hf⟩ := hrel
        have HR := Lib.hid (And.intro hb (And.intro hw (And.intro hok (And.intro htk hf))))
        have hkk : (k : Int) ≤ 500 := by omega
        clear hb hw hok htk hf
        by_cases hlt : k < n
        · obtain ⟨ad, ea, hc⟩ := (HX.out.fr HR.out.2.2.2.2).at hlt
          subst ea
          by_cases ht : xs.getD k false = true
          · rw [ht] at hc
            go_wp2_with fail
            go_at_call 10
            refine (take_any _ _ _ _ _ _ HR.out.1 HR.out.2.2.1).mono ?_
            rintro e w4 ⟨rfl, hb4, hf4⟩
            have H4 := Lib.hid (And.intro hb4 hf4); clear hb4 hf4
            go_wp2_with fail
            go_at_call 11
            refine (wtake_any _ _ _ _ _ _ (HR.out.2.1.fr H4.out.2 (by have := HZ.out.2; omega)) HR.out.2.2.1).mono ?_
            rintro e w5 ⟨rfl, hb5, hf5⟩
            have HH : Hid (IsB w5 w1.heap.size b r (tkL l) (tkT l t) ∧ IsW w5 w2.heap.size b r (tkL l) (tkT l t) ∧ OkB b r (tkL l) (tkT l t) ∧ tkT l t ≤ k + 1 ∧ Fr (fun _ => False) w w5) :=
              Lib.hid ⟨H4.out.1.fr hf5 (by have := HZ.out.2; omega), hb5, HR.out.2.2.1.take (by have := HR.out.2.2.2.1; omega), by have := HR.out.2.2.2.1; unfold tkT; split <;> omega,
                (HR.out.2.2.2.2.own H4.out.2 (by rintro _ rfl; exact HZ.out.1)).own hf5 (by rintro _ rfl; have := HZ.out; omega)⟩
            clear hb5 hf5 H4
            go_wp2_with fail
            have hcl := (blk_cell HH.out.2.1 2).trans rfl
            have hct := (blk_cell HH.out.2.1 3).trans rfl
            go_quiet ((first | (go_at_call 14; exact Calls.quiet_of_same (left_q _ _ _ _ _ _ HH.out.1 _)) | (go_at_call 15; exact Calls.quiet_of_same (taken_q _ _ _ _ _ _ HH.out.1 _))))
            go_wp2_with fail
            go_roundw
            case rel => exact ⟨k + 1, _, _, by omega, by go_num, HH.out.1, HH.out.2.1, HH.out.2.2.1, by have := HH.out.2.2.2.1; omega, HH.out.2.2.2.2.drewN _⟩
            case measure => simp [intOf]; omega
          · have ht' : xs.getD k false = false := by simpa using ht
            rw [ht'] at hc
            clear ht ht'
            go_wp2_with fail
            go_at_call 12
            refine (tick_any _ _ _ _ _ _ HR.out.1 HR.out.2.2.1).mono ?_
            rintro e w4 ⟨rfl, hb4, hf4⟩
            have H4 := Lib.hid (And.intro hb4 hf4); clear hb4 hf4
            go_wp2_with fail
            go_at_call 13
            refine (wtick_any _ _ _ _ _ _ (HR.out.2.1.fr H4.out.2 (by have := HZ.out.2; omega)) HR.out.2.2.1).mono ?_
            rintro e w5 ⟨rfl, hb5, hf5⟩
            have HH : Hid (IsB w5 w1.heap.size b r (tiL b r l) t ∧ IsW w5 w2.heap.size b r (tiL b r l) t ∧ OkB b r (tiL b r l) t ∧ t ≤ k + 1 ∧ Fr (fun _ => False) w w5) :=
              Lib.hid ⟨H4.out.1.fr hf5 (by have := HZ.out.2; omega), hb5, HR.out.2.2.1.tick, by have := HR.out.2.2.2.1; omega,
                (HR.out.2.2.2.2.own H4.out.2 (by rintro _ rfl; exact HZ.out.1)).own hf5 (by rintro _ rfl; have := HZ.out; omega)⟩
            clear hb5 hf5 H4
            go_wp2_with fail
            have hcl := (blk_cell HH.out.2.1 2).trans rfl
            have hct := (blk_cell HH.out.2.1 3).trans rfl
            go_quiet ((first | (go_at_call 14; exact Calls.quiet_of_same (left_q _ _ _ _ _ _ HH.out.1 _)) | (go_at_call 15; exact Calls.quiet_of_same (taken_q _ _ _ _ _ _ HH.out.1 _))))
            go_wp2_with fail
            go_roundw
            case rel => exact ⟨k + 1, _, _, by omega, by go_num, HH.out.1, HH.out.2.1, HH.out.2.2.1, by have := HH.out.2.2.2.1; omega, HH.out.2.2.2.2.drewN _⟩
            case measure => simp [intOf]; omega
        · go_wp2
          go_ret
          exact ⟨rfl, HR.out.2.2.2.2⟩

end Go.Proofs.Ytpfdbbimpfihbaa
