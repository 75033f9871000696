/- The hash's awake. -/
import Derived.Test.YtmkafeknhnpkaaaHw
namespace Go.Proofs.Ytmkafeknhnpkaaa
open Go.RowKit Go.Proofs.Ytmkafeknhnpkaaa.PHashTells Go.Proofs.YtmkafeknhnpkaaaW.PrintWords

theorem aw1 : mo first (bytesOf ⟨#[]⟩) = 14695981039346656037 := by decide
theorem aw2 : mo first (bytesOf ⟨#[97]⟩) = 12638187200555641996 := by decide
theorem aw3 : chk ⟨#[]⟩ = 1339080641 := by decide
theorem aw4 (s a b : Int) (h : a < b) : wless s b a = !wless s a b := by
  unfold wless
  generalize prio s a = p
  generalize prio s b = q
  by_cases h1 : p < q
  · simp [h1]; omega
  · by_cases h2 : q < p
    · simp [h1, h2]; omega
    · have h3 : p = q := by omega
      subst h3
      simp [h]; omega
theorem least1 (s x : Int) : least s [x] = x := rfl

set_option maxHeartbeats 1000000 in
theorem awake_any (w : World) : Calls Try.prog 7 #[] w fun e w' => e = .returned (.bool true) ∧ Fr (fun _ => False) w w' := by
  go_enter Try.func7, Try.ntmps7
  go_wp2_with fail
  go_at_call 10
  refine (sum_any _ _ (by decide)).mono ?_
  rw [aw1]
  rintro e w1 ⟨rfl, hf⟩
  have H1 := Lib.hid hf; clear hf
  go_wp2_with fail
  go_at_call 10
  refine (sum_any _ _ (by decide)).mono ?_
  rw [aw2]
  rintro e w2 ⟨rfl, hf⟩
  have H2 := Lib.hid (H1.out.trans hf); clear hf
  go_wp2_with fail
  go_at_call 12
  refine (check_any _ _ (by decide)).mono ?_
  rw [aw3]
  rintro e w3 ⟨rfl, hf⟩
  have H3 := Lib.hid (H2.out.trans hf); clear hf
  go_wp2_with fail
  go_at_call 14
  refine (least_any 1 none 0 [] _ (Kd.C_nil _ _) (by decide)).mono ?_
  rintro e w4 ⟨rfl, hf⟩
  have H4 := Lib.hid (H3.out.trans hf); clear hf
  have e4 : least 1 [] = -1 := rfl
  rw [e4]
  clear e4
  go_wp2_with fail
  go_at_call 14
  refine (least_any 1 (some ⟨w4.heap.size, 0, none⟩) 1 [5] _ (row_ints (by decide) fun _ => ⟨_, rfl, fun i hi => ?_⟩) (by decide)).mono ?_
  · obtain rfl : i = 0 := by simpa using hi
    have e0 : (⟨w4.heap.size, 0, none⟩ : Addr).add 0 = ⟨w4.heap.size, 0, none⟩ := rfl
    rw [e0, World.cell?_alloc_at _ _ _ _ rfl]
    rfl
  rintro e w5 ⟨rfl, hf⟩
  rw [least1]
  have H5 := Lib.hid ((H4.out.alloc _).trans hf); clear hf
  go_wp2_with fail
  go_at_call 16
  refine (less_any _ _ _ _).mono ?_
  rintro e w6 ⟨rfl, hf⟩
  have H6 := Lib.hid (H5.out.trans hf); clear hf
  go_wp2_with fail
  go_at_call 16
  refine (less_any _ _ _ _).mono ?_
  rintro e w7 ⟨rfl, hf⟩
  have H7 := Lib.hid (H6.out.trans hf); clear hf
  rw [aw4 1 2 3 (by decide)]
  generalize wless 1 2 3 = q at *
  cases q
  · go_wp2_with fail
    go_ret
    exact ⟨rfl, H7.out⟩
  · go_wp2_with fail
    go_ret
    exact ⟨rfl, H7.out⟩

end Go.Proofs.Ytmkafeknhnpkaaa
