/- Names: the answers that the document fixes. -/
import Derived.Test.YtlnafmibopkilaaDoorUu
import Derived.Test.YtlnafmibopkilaaDoorUo
namespace Go.Proofs.YtlnafmibopkilaaDoor
open Go Go.Lib Go.RowKit

theorem aw1 (w : World) (hT : Tabs w) : Calls Tryd.prog 22 #[.string ⟨#[97, 92, 120, 102, 102, 92, 117, 97, 46, 92, 92, 195, 169]⟩] w fun e w' => e = .returned (.tuple #[.string ⟨#[97, 255, 10, 92, 195, 169]⟩, .int .i64 0]) ∧ Below w.heap.size w w' := by
  refine (unquote_any ⟨#[97, 92, 120, 102, 102, 92, 117, 97, 46, 92, 92, 195, 169]⟩ w hT (by decide)).mono fun e w' h => ⟨h.1.trans ?_, h.2⟩
  kernel_rfl
theorem aw2 (w : World) (hT : Tabs w) : Calls Tryd.prog 22 #[.string ⟨#[92, 117, 52, 49, 46]⟩] w fun e w' => e = .returned (.tuple #[.string ⟨#[]⟩, .int .i64 3]) ∧ Below w.heap.size w w' := by
  refine (unquote_any ⟨#[92, 117, 52, 49, 46]⟩ w hT (by decide)).mono fun e w' h => ⟨h.1.trans ?_, h.2⟩
  kernel_rfl
theorem aw3 (w : World) (hT : Tabs w) : Calls Tryd.prog 22 #[.string ⟨#[92]⟩] w fun e w' => e = .returned (.tuple #[.string ⟨#[]⟩, .int .i64 3]) ∧ Below w.heap.size w w' := by
  refine (unquote_any ⟨#[92]⟩ w hT (by decide)).mono fun e w' h => ⟨h.1.trans ?_, h.2⟩
  kernel_rfl
theorem aw4 (w : World) (hT : Tabs w) : Calls Tryd.prog 11 #[.string ⟨#[104, 111, 115, 116, 45, 195, 169, 57]⟩] w fun e w' => e = .returned (.bool true) ∧ Below w.heap.size w w' := by
  refine (right_any ⟨#[104, 111, 115, 116, 45, 195, 169, 57]⟩ w (by decide)).mono fun e w' h => ⟨h.1.trans ?_, h.2⟩
  kernel_rfl
theorem aw5 (w : World) (hT : Tabs w) : Calls Tryd.prog 11 #[.string ⟨#[]⟩] w fun e w' => e = .returned (.bool false) ∧ Below w.heap.size w w' := by
  refine (right_any ⟨#[]⟩ w (by decide)).mono fun e w' h => ⟨h.1.trans ?_, h.2⟩
  kernel_rfl
theorem aw6 (w : World) (hT : Tabs w) : Calls Tryd.prog 11 #[.string ⟨#[97, 32, 98]⟩] w fun e w' => e = .returned (.bool false) ∧ Below w.heap.size w w' := by
  refine (right_any ⟨#[97, 32, 98]⟩ w (by decide)).mono fun e w' h => ⟨h.1.trans ?_, h.2⟩
  kernel_rfl
theorem aw7 (w : World) (hT : Tabs w) : Calls Tryd.prog 13 #[.string ⟨#[195, 169, 255]⟩] w fun e w' => e = .returned (.int .i64 2) ∧ Below w.heap.size w w' := by
  refine (count_any ⟨#[195, 169, 255]⟩ w (by decide)).mono fun e w' h => ⟨h.1.trans ?_, h.2⟩
  kernel_rfl
theorem aw8 (w : World) (hT : Tabs w) : Calls Tryd.prog 17 #[.string ⟨#[195, 169, 97, 98]⟩, .int .i64 2] w fun e w' => e = .returned (.string ⟨#[195, 169, 97]⟩) ∧ Below w.heap.size w w' := by
  refine (cut_any ⟨#[195, 169, 97, 98]⟩ 2 w (by decide) (by decide)).mono fun e w' h => ⟨h.1.trans ?_, h.2⟩
  kernel_rfl
theorem aw9 (w : World) (hT : Tabs w) : Calls Tryd.prog 15 #[.string ⟨#[255]⟩] w fun e w' => e = .returned (.bool false) ∧ Below w.heap.size w w' := by
  refine (valid_any ⟨#[255]⟩ w (by decide)).mono fun e w' h => ⟨h.1.trans ?_, h.2⟩
  kernel_rfl
theorem aw10 (w : World) (hT : Tabs w) : Calls Tryd.prog 21 #[.string ⟨#[255, 10, 92, 195, 169]⟩] w fun e w' => e = .returned (.string ⟨#[92, 120, 102, 102, 92, 117, 97, 46, 92, 92, 195, 169]⟩) ∧ Below w.heap.size w w' := by
  refine (quote_any ⟨#[255, 10, 92, 195, 169]⟩ w (by decide) hT).mono fun e w' h => ⟨h.1.trans ?_, h.2⟩
  kernel_rfl
theorem aw11 (w : World) (hT : Tabs w) : Calls Tryd.prog 19 #[.string ⟨#[97]⟩, .string ⟨#[195, 169]⟩] w fun e w' => e = .returned (.int .i64 (-1)) ∧ Below w.heap.size w w' := by
  refine (order_any ⟨#[97]⟩ ⟨#[195, 169]⟩ w hT (by decide) (by decide)).mono fun e w' h => ⟨h.1.trans ?_, h.2⟩
  kernel_rfl

set_option maxRecDepth 100000 in
set_option maxHeartbeats 2000000 in
theorem awake_any (w : World) (hT : Tabs w) : Calls Tryd.prog 10 #[] w fun e w' => e = .returned (.bool true) ∧ Below w.heap.size w w' := by
  go_enter Tryd.func10, Tryd.ntmps10
  have B0 := Lib.hid (Below.refl w.heap.size w)
  go_wp2_with fail
  go_at_call 22
  refine (aw1 _ (hT.below B0.out)).mono ?_
  rintro e w1 ⟨rfl, hb⟩
  have B1 := Lib.hid (B0.out.trans (hb.mono B0.out.size)); clear hb
  go_wp2_with fail
  go_at_call 22
  refine (aw2 _ (hT.below B1.out)).mono ?_
  rintro e w2 ⟨rfl, hb⟩
  have B2 := Lib.hid (B1.out.trans (hb.mono B1.out.size)); clear hb
  go_wp2_with fail
  go_at_call 22
  refine (aw3 _ (hT.below B2.out)).mono ?_
  rintro e w3 ⟨rfl, hb⟩
  have B3 := Lib.hid (B2.out.trans (hb.mono B2.out.size)); clear hb
  go_wp2_with fail
  go_at_call 11
  refine (aw4 _ (hT.below B3.out)).mono ?_
  rintro e w4 ⟨rfl, hb⟩
  have B4 := Lib.hid (B3.out.trans (hb.mono B3.out.size)); clear hb
  go_wp2_with fail
  go_at_call 11
  refine (aw5 _ (hT.below B4.out)).mono ?_
  rintro e w5 ⟨rfl, hb⟩
  have B5 := Lib.hid (B4.out.trans (hb.mono B4.out.size)); clear hb
  go_wp2_with fail
  go_at_call 11
  refine (aw6 _ (hT.below B5.out)).mono ?_
  rintro e w6 ⟨rfl, hb⟩
  have B6 := Lib.hid (B5.out.trans (hb.mono B5.out.size)); clear hb
  go_wp2_with fail
  go_at_call 13
  refine (aw7 _ (hT.below B6.out)).mono ?_
  rintro e w7 ⟨rfl, hb⟩
  have B7 := Lib.hid (B6.out.trans (hb.mono B6.out.size)); clear hb
  go_wp2_with fail
  go_at_call 17
  refine (aw8 _ (hT.below B7.out)).mono ?_
  rintro e w8 ⟨rfl, hb⟩
  have B8 := Lib.hid (B7.out.trans (hb.mono B7.out.size)); clear hb
  go_wp2_with fail
  go_at_call 15
  refine (aw9 _ (hT.below B8.out)).mono ?_
  rintro e w9 ⟨rfl, hb⟩
  have B9 := Lib.hid (B8.out.trans (hb.mono B8.out.size)); clear hb
  go_wp2_with fail
  go_at_call 21
  refine (aw10 _ (hT.below B9.out)).mono ?_
  rintro e w10 ⟨rfl, hb⟩
  have B10 := Lib.hid (B9.out.trans (hb.mono B9.out.size)); clear hb
  go_wp2_with fail
  go_at_call 19
  refine (aw11 _ (hT.below B10.out)).mono ?_
  rintro e w11 ⟨rfl, hb⟩
  have B11 := Lib.hid (B10.out.trans (hb.mono B10.out.size)); clear hb
  go_wp2_with fail
  go_ret
  exact ⟨rfl, B11.out⟩

end Go.Proofs.YtlnafmibopkilaaDoor
