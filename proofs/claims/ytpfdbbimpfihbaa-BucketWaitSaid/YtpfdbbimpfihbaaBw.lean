/- BucketWait, by a walk. -/
import Derived.Test.YtpfdbbimpfihbaaBf
namespace Go.Proofs.Ytpfdbbimpfihbaa
open Go.RowKit

theorem wait_row {B R l j : Int} (h : l = if B < j * R then B else j * R) (h0 : 0 ≤ R) : tiL B R l = if B < (j + 1) * R then B else (j + 1) * R := by
  subst h
  have e : (j + 1) * R = j * R + R := by rw [Int.add_mul, Int.one_mul]
  rw [e]
  generalize j * R = m at *
  unfold tiL
  by_cases h1 : B < m <;> by_cases h2 : B < m + R <;> simp [h1, h2] <;> omega

set_option maxHeartbeats 1000000 in
theorem wait_any (b r n : Int) (w : World) :
    Calls Try.prog 6 #[.int .i64 b, .int .i64 r, .int .i64 n] w fun e w' => e = .returned (.bool true) ∧ Fr (fun _ => False) w w' := by
  go_enter Try.func6, Try.ntmps6
  go_wp2_with fail
  have b1 := umod_bd b 1001 (by omega) (by omega)
  have r1 := umod_bd r 1001 (by omega) (by omega)
  have n1 := umod_bd n 100 (by omega) (by omega)
  generalize wrap64 ((IntKind.u64.wrap b).tmod 1001) = B at *
  generalize wrap64 ((IntKind.u64.wrap r).tmod 1001) = R at *
  generalize wrap64 ((IntKind.u64.wrap n).tmod 100) = N at *
  obtain ⟨b2, b3⟩ := b1
  obtain ⟨r3, r4⟩ := r1
  obtain ⟨n2, n3⟩ := n1
  have hmul : N * R ≤ 100000 := Int.le_trans (Int.mul_le_mul (by omega : N ≤ 100) (by omega : R ≤ 1000) r3 (by omega)) (by omega)
  have hmul0 : 0 ≤ N * R := Int.mul_nonneg n2 r3
  go_at_call 8
  refine (new_good _ _ _ (by omega) (by omega) (by omega) (by omega)).mono ?_
  rintro e w2 ⟨rfl, hb2, hz2, hf2⟩
  have H2 := Lib.hid (And.intro hb2 (And.intro hz2 hf2)); clear hb2 hz2 hf2
  go_wp2_with fail
  go_at_call 8
  refine (new_good _ _ _ (by omega) (by omega) (by omega) (by omega)).mono ?_
  rintro e w3 ⟨rfl, hb2, hz2, hf2⟩
  have H3 := Lib.hid (And.intro hb2 (And.intro hz2 hf2)); clear hb2 hz2 hf2
  go_wp2_with fail
  go_at_call 7
  refine (awake_any _).mono ?_
  rintro e w4 ⟨rfl, hf4⟩
  have HK : Hid (IsB w4 w.heap.size B R B 0 ∧ IsB w4 w2.heap.size B R B 0 ∧ Fr (fun _ => False) w w4 ∧ w.heap.size < w2.heap.size) :=
    Lib.hid ⟨(H2.out.1.fr H3.out.2.2 (by simp)).fr hf4 (by simp), H3.out.1.fr hf4 (by simp), (H2.out.2.2.trans H3.out.2.2).trans hf4, H2.out.1.lt⟩
  clear hf4 H2 H3
  go_wp2_with fail
  go_loopw [46] (fun i wr => ∃ (k : Int) (l t : Int), 0 ≤ k ∧ k ≤ B ∧ i = .int .i64 k ∧ IsB wr w.heap.size B R l t ∧ IsB wr w2.heap.size B R l t ∧ OkB B R l t ∧ (t = k ∧ l = B - k ∨ t = B ∧ l = 0 ∧ B ≤ k) ∧ Fr (fun _ => False) w wr) (fun i _ => (B - (intOf i)).toNat)
  case atStart => exact ⟨0, B, 0, by omega, by omega, rfl, HK.out.1, HK.out.2.1, by unfold OkB; omega, by omega, HK.out.2.2.1⟩
  case round =>
    obtain ⟨k, l, t, hk0, hk, rfl, hb, hb', hok, htk, hf⟩ := hrel
    have HR := Lib.hid (And.intro hb (And.intro hb' (And.intro hok (And.intro htk hf))))
    clear hb hb' hok htk hf
    by_cases hlt : k < B
    · go_wp2_with fail
      go_at_call 10
      refine (take_any _ _ _ _ _ _ HR.out.1 HR.out.2.2.1).mono ?_
      rintro e w5 ⟨rfl, hb4, hf4⟩
      have H4 := Lib.hid (And.intro hb4 hf4); clear hb4 hf4
      go_wp2_with fail
      go_at_call 10
      refine (take_any _ _ _ _ _ _ (HR.out.2.1.fr H4.out.2 (by have := HK.out.2.2.2; omega)) HR.out.2.2.1).mono ?_
      rintro e w6 ⟨rfl, hb4, hf4⟩
      have H5 := Lib.hid (And.intro hb4 hf4); clear hb4 hf4
      go_wp2_with fail
      go_roundw
      case rel => exact ⟨k + 1, _, _, by omega, by omega, by go_num, H4.out.1.fr H5.out.2 (by have := HK.out.2.2.2; omega), H5.out.1, HR.out.2.2.1.take (by have := HR.out.2.2.2.1; omega), take_row HR.out.2.2.1 HR.out.2.2.2.1, (HR.out.2.2.2.2.own H4.out.2 (by rintro _ rfl; exact Nat.le_refl _)).own H5.out.2 (by rintro _ rfl; have := HK.out.2.2.2; omega)⟩
      case measure => simp [intOf]; omega
    · obtain rfl : k = B := by omega
      obtain ⟨rfl, rfl⟩ : l = 0 ∧ t = k := by have := HR.out.2.2.1; have := HR.out.2.2.2.1; unfold OkB at *; omega
      go_wp2_with fail
      go_loopw [54] (fun i wr => ∃ (j : Int) (l : Int), 0 ≤ j ∧ j ≤ N ∧ i = .int .i64 j ∧ IsB wr w.heap.size t R l t ∧ IsB wr w2.heap.size t R l t ∧ OkB t R l t ∧ l = (if t < j * R then t else j * R) ∧ Fr (fun _ => False) w wr) (fun i _ => (N - (intOf i)).toNat)
      case atStart => exact ⟨0, 0, by omega, by omega, rfl, HR.out.1, HR.out.2.1, HR.out.2.2.1, by simp; omega, HR.out.2.2.2.2⟩
      case round =>
        obtain ⟨j, m, hj0, hj, rfl, hb, hb', hok, hjl, hf⟩ := hrel
        have hmb : m ≤ t := hok.2.2.2.2.2.1
        have HQ := Lib.hid (And.intro hb (And.intro hb' (And.intro hok (And.intro hjl hf))))
        clear hb hb' hok hjl hf
        by_cases hjt : j < N
        · go_wp2_with fail
          go_at_call 12
          refine (tick_any _ _ _ _ _ _ HQ.out.1 HQ.out.2.2.1).mono ?_
          rintro e w5 ⟨rfl, hb4, hf4⟩
          have H4 := Lib.hid (And.intro hb4 hf4); clear hb4 hf4
          go_wp2_with fail
          go_at_call 12
          refine (tick_any _ _ _ _ _ _ (HQ.out.2.1.fr H4.out.2 (by have := HK.out.2.2.2; omega)) HQ.out.2.2.1).mono ?_
          rintro e w6 ⟨rfl, hb4, hf4⟩
          have H5 := Lib.hid (And.intro (H4.out.1.fr hf4 (by have := HK.out.2.2.2; omega)) (And.intro hb4 hf4)); clear hb4 hf4
          have hti : tiL t R m ≤ t := HQ.out.2.2.1.tick.2.2.2.2.2.1
          go_wp2_with fail
          go_at_call 14
          refine (left_any _ _ _ _ _ _ H5.out.1).mono ?_
          rintro e w7 ⟨rfl, rfl⟩
          go_wp2_with fail
          go_roundw
          case rel => exact ⟨j + 1, _, by omega, by omega, by go_num, H5.out.1, H5.out.2.1, HQ.out.2.2.1.tick, wait_row HQ.out.2.2.2.1 r3, (HQ.out.2.2.2.2.own H4.out.2 (by rintro _ rfl; exact Nat.le_refl _)).own H5.out.2.2 (by rintro _ rfl; have := HK.out.2.2.2; omega)⟩
          case measure => simp [intOf]; omega
        · obtain rfl : j = N := by omega
          go_wp2_with fail
          go_at_call 14
          refine (left_any _ _ _ _ _ _ HQ.out.1).mono ?_
          rintro e w7 ⟨rfl, rfl⟩
          have hq1 : ¬ j * R < t → (m == t) = true := fun h => by rw [HQ.out.2.2.2.1]; split <;> simp <;> omega
          have hq2 : j * R < t → (m == j * R) = true := fun h => by rw [HQ.out.2.2.2.1, if_neg (by omega)]; simp
          by_cases hkm : j * R < t
          · have hq := hq2 hkm
            clear hq1 hq2
            go_wp2_with fail
            go_at_call 14
            refine (left_any _ _ _ _ _ _ HQ.out.2.1).mono ?_
            rintro e w7 ⟨rfl, rfl⟩
            go_wp2_with fail
            go_at_call 14
            refine (left_any _ _ _ _ _ _ HQ.out.1).mono ?_
            rintro e w7 ⟨rfl, rfl⟩
            go_wp2_with fail
            go_at_call 15
            refine (taken_any _ _ _ _ _ _ HQ.out.1).mono ?_
            rintro e w7 ⟨rfl, rfl⟩
            go_wp2_with fail
            go_at_call 15
            refine (taken_any _ _ _ _ _ _ HQ.out.2.1).mono ?_
            rintro e w7 ⟨rfl, rfl⟩
            go_wp2_with fail
            go_ret
            exact ⟨rfl, HQ.out.2.2.2.2⟩
          · have hq := hq1 hkm
            clear hq1 hq2
            go_wp2_with fail
            go_at_call 14
            refine (left_any _ _ _ _ _ _ HQ.out.2.1).mono ?_
            rintro e w7 ⟨rfl, rfl⟩
            go_wp2_with fail
            go_at_call 14
            refine (left_any _ _ _ _ _ _ HQ.out.1).mono ?_
            rintro e w7 ⟨rfl, rfl⟩
            go_wp2_with fail
            go_at_call 15
            refine (taken_any _ _ _ _ _ _ HQ.out.1).mono ?_
            rintro e w7 ⟨rfl, rfl⟩
            go_wp2_with fail
            go_at_call 15
            refine (taken_any _ _ _ _ _ _ HQ.out.2.1).mono ?_
            rintro e w7 ⟨rfl, rfl⟩
            go_wp2_with fail
            go_ret
            exact ⟨rfl, HQ.out.2.2.2.2⟩

end Go.Proofs.Ytpfdbbimpfihbaa
