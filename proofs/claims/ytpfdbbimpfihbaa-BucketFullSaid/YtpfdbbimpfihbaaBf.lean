/- BucketFull, by a walk. -/
import Derived.Test.YtpfdbbimpfihbaaBk
namespace Go.Proofs.Ytpfdbbimpfihbaa
open Go.RowKit

theorem take_row {B R l t k : Int} (h : OkB B R l t) (hr : t = k ∧ l = B - k ∨ t = B ∧ l = 0 ∧ B ≤ k) : tkT l t = k + 1 ∧ tkL l = B - (k + 1) ∨ tkT l t = B ∧ tkL l = 0 ∧ B ≤ k + 1 := by
  unfold OkB at h
  by_cases h1 : 1 ≤ l
  · simp only [tkT, tkL, if_pos h1]; omega
  · simp only [tkT, tkL, if_neg h1]; omega
theorem tick_row {B R l t j : Int} (h : OkB B R l t) (h1 : 1 ≤ R) (hr : j ≤ l ∨ l = B) : j + 1 ≤ tiL B R l ∨ tiL B R l = B := by
  unfold OkB at h
  unfold tiL; split <;> omega

set_option maxHeartbeats 1000000 in
theorem full_any (b r n : Int) (w : World) :
    Calls Try.prog 5 #[.int .i64 b, .int .i64 r, .int .i64 n] w fun e w' => e = .returned (.bool true) ∧ Fr (fun _ => False) w w' := by
  go_enter Try.func5, Try.ntmps5
  go_wp2_with fail
  have b1 := umod_bd b 50 (by omega) (by omega)
  have r1 := umod_bd r 10 (by omega) (by omega)
  have n1 := umod_bd n 60 (by omega) (by omega)
  generalize wrap64 ((IntKind.u64.wrap b).tmod 50) = B at *
  generalize wrap64 ((IntKind.u64.wrap r).tmod 10) = R0 at *
  generalize wrap64 ((IntKind.u64.wrap n).tmod 60) = N at *
  have r2 : 1 ≤ wrap64 (1 + R0) ∧ wrap64 (1 + R0) ≤ 10 := by unfold wrap64; omega
  clear r1
  generalize wrap64 (1 + R0) = R at *
  obtain ⟨b2, b3⟩ := b1
  obtain ⟨r3, r4⟩ := r2
  obtain ⟨n2, n3⟩ := n1
  go_at_call 8
  refine (new_good _ _ _ (by omega) (by omega) (by omega) (by omega)).mono ?_
  rintro e w2 ⟨rfl, hb2, hz2, hf2⟩
  have H2 := Lib.hid (And.intro hb2 (And.intro hz2 hf2)); clear hb2 hz2 hf2
  go_wp2_with fail
  go_loopw [30] (fun i wr => ∃ (k : Int) (l t : Int), 0 ≤ k ∧ k ≤ N ∧ i = .int .i64 k ∧ IsB wr w.heap.size B R l t ∧ OkB B R l t ∧ (t = k ∧ l = B - k ∨ t = B ∧ l = 0 ∧ B ≤ k) ∧ Fr (fun _ => False) w wr) (fun i _ => (N - (intOf i)).toNat)
  case atStart => exact ⟨0, B, 0, by omega, by omega, rfl, H2.out.1, by unfold OkB; omega, by omega, H2.out.2.2⟩
  case round =>
    obtain ⟨k, l, t, hk0, hk, rfl, hb, hok, htk, hf⟩ := hrel
    have HR := Lib.hid (And.intro hb (And.intro hok (And.intro htk hf)))
    clear hb hok htk hf
    by_cases hlt : k < N
    · go_wp2_with fail
      go_at_call 10
      refine (take_any _ _ _ _ _ _ HR.out.1 HR.out.2.1).mono ?_
      rintro e w4 ⟨rfl, hb4, hf4⟩
      have H4 := Lib.hid (And.intro hb4 hf4); clear hb4 hf4
      go_wp2_with fail
      go_roundw
      case rel => exact ⟨k + 1, _, _, by omega, by omega, by go_num, H4.out.1, HR.out.2.1.take (by have := HR.out.2.2.1; omega), take_row HR.out.2.1 HR.out.2.2.1, HR.out.2.2.2.own H4.out.2 (by rintro _ rfl; exact Nat.le_refl _)⟩
      case measure => simp [intOf]; omega
    · obtain rfl : k = N := by omega
      go_wp2_with fail
      go_loopw [36] (fun i wr => ∃ (j : Int) (l : Int), 0 ≤ j ∧ j ≤ B ∧ i = .int .i64 j ∧ IsB wr w.heap.size B R l t ∧ OkB B R l t ∧ (j ≤ l ∨ l = B) ∧ Fr (fun _ => False) w wr) (fun i _ => (B - (intOf i)).toNat)
      case atStart => exact ⟨0, l, by omega, by omega, rfl, HR.out.1, HR.out.2.1, by have := HR.out.2.1; unfold OkB at this; omega, HR.out.2.2.2⟩
      case round =>
        obtain ⟨j, m, hj0, hj, rfl, hb, hok, hjl, hf⟩ := hrel
        have HQ := Lib.hid (And.intro hb (And.intro hok (And.intro hjl hf)))
        clear hb hok hjl hf
        by_cases hjt : j < B
        · go_wp2_with fail
          go_at_call 12
          refine (tick_any _ _ _ _ _ _ HQ.out.1 HQ.out.2.1).mono ?_
          rintro e w4 ⟨rfl, hb4, hf4⟩
          have H4 := Lib.hid (And.intro hb4 hf4); clear hb4 hf4
          go_wp2_with fail
          go_roundw
          case rel => exact ⟨j + 1, _, by omega, by omega, by go_num, H4.out.1, HQ.out.2.1.tick, tick_row HQ.out.2.1 r3 HQ.out.2.2.1, HQ.out.2.2.2.own H4.out.2 (by rintro _ rfl; exact Nat.le_refl _)⟩
          case measure => simp [intOf]; omega
        · have hmB : m = B := by have := HQ.out.2.1; have := HQ.out.2.2.1; unfold OkB at *; omega
          subst hmB
          have HT : Hid (t = if k < m then k else m) := Lib.hid (by have := HR.out.2.1; have := HR.out.2.2.1; unfold OkB at *; split <;> omega)
          go_wp2_with fail
          go_at_call 12
          refine (tick_nil _).mono ?_
          rintro e w5 ⟨rfl, rfl⟩
          go_wp2_with fail
          go_at_call 7
          refine (awake_any _).mono ?_
          rintro e w6 ⟨rfl, hf6⟩
          have HK : Hid (IsB w6 w.heap.size m R m t ∧ Fr (fun _ => False) w w6) := Lib.hid ⟨HQ.out.1.fr hf6 (by simp), HQ.out.2.2.2.trans hf6⟩
          clear hf6
          go_wp2_with fail
          go_at_call 14
          refine (left_any _ _ _ _ _ _ HK.out.1).mono ?_
          rintro e w7 ⟨rfl, rfl⟩
          go_wp2_with fail
          go_at_call 15
          refine (taken_any _ _ _ _ _ _ HK.out.1).mono ?_
          rintro e w7 ⟨rfl, rfl⟩
          have hq1 : k < m → (t == k) = true := fun h => by rw [HT.out, if_pos h]; simp
          have hq2 : m ≤ k → (t == m) = true := fun h => by rw [HT.out, if_neg (by omega)]; simp
          by_cases hkm : k < m
          · have hq := hq1 hkm
            clear hq1 hq2
            go_wp2_with fail
            go_at_call 10
            refine (take_nil _).mono ?_
            rintro e w5 ⟨rfl, rfl⟩
            go_wp2_with fail
            go_at_call 14
            refine (left_nil _).mono ?_
            rintro e w5 ⟨rfl, rfl⟩
            go_wp2_with fail
            go_at_call 15
            refine (taken_nil _).mono ?_
            rintro e w5 ⟨rfl, rfl⟩
            go_wp2_with fail
            go_ret
            exact ⟨rfl, HK.out.2⟩
          · have hq := hq2 (by omega)
            clear hq1 hq2
            go_wp2_with fail
            go_at_call 10
            refine (take_nil _).mono ?_
            rintro e w5 ⟨rfl, rfl⟩
            go_wp2_with fail
            go_at_call 14
            refine (left_nil _).mono ?_
            rintro e w5 ⟨rfl, rfl⟩
            go_wp2_with fail
            go_at_call 15
            refine (taken_nil _).mono ?_
            rintro e w5 ⟨rfl, rfl⟩
            go_wp2_with fail
            go_ret
            exact ⟨rfl, HK.out.2⟩

end Go.Proofs.Ytpfdbbimpfihbaa
