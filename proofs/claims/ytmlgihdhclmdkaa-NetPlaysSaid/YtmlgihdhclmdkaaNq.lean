/- NetPlays, by a walk. -/
import Derived.Test.YtmlgihdhclmdkaaNp
import Derived.Deep.RegionHeld3
namespace Go.Proofs.Ytmlgihdhclmdkaa
open Go.RowKit Go.Proofs.YtmlgihdhclmdkaaW.PrintWords

set_option maxRecDepth 100000 in
set_option maxHeartbeats 8000000 in
theorem plays_any (a : Option Addr) (n c : Nat) (xs : List Op4) (w : World) (hx : RdO w a n xs) :
    Calls Try.prog 3 #[.slice a n c] w fun e w' => e = .returned (.bool true) ∧ Fr (fun _ => False) w w' := by
  have hm : n ≤ 9223372036854775807 := by have := hx.2.1; unfold maxLen at this; exact this
  by_cases hn : 500 < n
  · exact plays_big a n c w hn hm
  · have HX := Lib.hid hx; clear hx
    go_enter Try.func3, Try.ntmps3
    go_wp2_with fail
    go_at_call 6
    refine (awake_any _).mono ?_
    rintro e w1 ⟨rfl, hf1⟩
    have H1 := Lib.hid hf1; clear hf1
    go_wp2_with fail
    go_at_call 7
    refine (nnew_any _).mono ?_
    rintro e w2 ⟨rfl, hd, hz, hf⟩
    have HS : Hid (w.heap.size ≤ w1.heap.size ∧ w.heap.size ≤ w2.heap.size) := Lib.hid ⟨H1.out.size, Nat.le_trans H1.out.size hf.size⟩
    have H2 := Lib.hid (And.intro hd (H1.out.trans hf)); clear hd hf hz
    go_wp2_with fail
    have HB : Hid (Sn w (w2.alloc (.cells #[.slice none 0 0, .slice none 0 0] 30)) w1.heap.size w2.heap.size []) := Lib.hid ⟨H2.out.1.fr ((Fr.refl (fun _ => False) _).alloc _) (by simp), ⟨_, _, blk_new _ _, own_nil _ _ _ _, own_nil _ _ _ _, Nat.le_refl _, by decide⟩, H2.out.2.alloc _⟩
    go_loopw [28] (fun i wr => ∃ (j : Nat) (L : List Lt), j ≤ n ∧ i = .int .i64 j ∧ Sn w wr w1.heap.size w2.heap.size L) (fun i _ => n - (intOf i).toNat)
    case atStart => exact ⟨0, [], by omega, rfl, HB.out⟩
    case round =>
      obtain ⟨j, L, hj, rfl, hst⟩ := hrel
      have HR := Lib.hid hst; clear hst
      by_cases hlt : j < n
      · obtain ⟨ad, ea, hc0, hc1, hc2, hc3, hsz⟩ := (HX.out.fr HR.out.2.2).2.2 j hlt
        subst ea
        obtain ⟨oa, ob, oc, os, eo⟩ : ∃ oa ob oc os, xs.getD j default = ⟨oa, ob, oc, os⟩ := ⟨_, _, _, _, rfl⟩
        rw [eo] at hc0 hc1 hc2 hc3 hsz
        dsimp only at hc0 hc1 hc2 hc3 hsz
        clear eo
        have HQ := Lib.hid (HR.out.boxed ⟨oa, ob, oc, os⟩)
        by_cases h300 : 300 < os.size
        · unfold maxLen at hsz
          go_wp2_with fail
          go_ret
          exact ⟨rfl, HQ.out.1.2.2⟩
        · clear hsz
          by_cases k1 : oa = 1
          · subst k1
            by_cases hfull : 200 ≤ L.length
            · go_wp2_with fail
              go_at_call 8
              refine (fplace_gen _ _ L _ _ HQ.out.1.2.1).mono ?_
              rintro e w4 ⟨rfl, rfl⟩
              have hb0 := (blk_cell HQ.out.2 0).trans rfl
              have hb1 := (blk_cell HQ.out.2 1).trans rfl
              have hb2 := (blk_cell HQ.out.2 2).trans rfl
              have hb3 := (blk_cell HQ.out.2 3).trans rfl
              go_wp2_with fail
              go_quiet ((first | (go_at_call 9; exact Calls.quiet_of_same (sendf_q _ _ _ _ _ _ HQ.out.1.1 hfull _)) | (go_at_call 10; exact Calls.quiet_of_same (fsendf_q _ _ _ _ _ _ HQ.out.1.2.1 hfull _))))
              clear hb0 hb1 hb2 hb3
              obtain ⟨AL, dL, hcL⟩ := HQ.out.1.2.1.len
              go_wp2_with fail
              go_quiet ((go_at_call 15; exact quiet_again (len_q _ _ _ _ HQ.out.1.1 _)))
              go_wp2_with fail
              go_roundw
              case rel => exact ⟨j + 1, L, by omega, by go_num, HQ.out.1.1, HQ.out.1.2.1, HQ.out.1.2.2.drewN _⟩
              case measure => simp [intOf]; omega
            · have HF : Hid (L.length < 200) := Lib.hid (by omega)
              clear hfull
              go_wp2_with fail
              go_at_call 8
              refine (fplace_gen _ _ L _ _ HQ.out.1.2.1).mono ?_
              rintro e w4 ⟨rfl, rfl⟩
              have hb0 := (blk_cell HQ.out.2 0).trans rfl
              have hb1 := (blk_cell HQ.out.2 1).trans rfl
              have hb2 := (blk_cell HQ.out.2 2).trans rfl
              have hb3 := (blk_cell HQ.out.2 3).trans rfl
              go_wp2_with fail
              go_region_held3 (fun w' => w'.cell? ⟨wr.heap.size, 1, none⟩ = some (.int .i64 ob) ∧ w'.cell? ⟨wr.heap.size, 3, none⟩ = some (.string os)) (first | exact ⟨hb1, hb3⟩ | exact ⟨hg1, hg3⟩ | exact ⟨hk1, hk3⟩) ((first | (go_at_call 9; first | (refine Calls.mono (send_any w1.heap.size w1.heap.size L ob os _ ?_ ?_) ?_; exact HQ.out.1.1; exact HF.out; rintro e w5 ⟨rfl, hd, hf⟩; have H5 := Lib.hid (Sn.n1 HQ.out.1 HQ.out.2 HS.out.1 hd hf.und1); have hg1 := (blk_cell H5.out.2.2.2 1).trans rfl; have hg3 := (blk_cell H5.out.2.2.2 3).trans rfl; clear hd hf) | (refine Calls.mono (send_any w1.heap.size w1.heap.size L ob os _ ?_ ?_) ?_; exact H5.out.1; exact HF.out; rintro e w6 ⟨rfl, hd, hf⟩; have H6 := Lib.hid (Hn.f2 H5.out HS.out.1 hd hf); have hk1 := (blk_cell H6.out.2 1).trans rfl; have hk3 := (blk_cell H6.out.2 3).trans rfl; clear hd hf)) | (go_at_call 10; first | (refine Calls.mono (fsend_any w2.heap.size w2.heap.size L ob os _ ?_ ?_) ?_; exact HQ.out.1.2.1; exact HF.out; rintro e w5 ⟨rfl, hd, hf⟩; have H5 := Lib.hid (Sn.f1 HQ.out.1 HQ.out.2 HS.out.2 hd hf.und1); have hg1 := (blk_cell H5.out.2.2.2 1).trans rfl; have hg3 := (blk_cell H5.out.2.2.2 3).trans rfl; clear hd hf) | (refine Calls.mono (fsend_any w2.heap.size w2.heap.size L ob os _ ?_ ?_) ?_; exact H5.out.2.1; exact HF.out; rintro e w6 ⟨rfl, hd, hf⟩; have H6 := Lib.hid (Hn.n2 H5.out HS.out.2 hd hf); have hk1 := (blk_cell H6.out.2 1).trans rfl; have hk3 := (blk_cell H6.out.2 3).trans rfl; clear hd hf))))
              all_goals
                clear hb0 hb1 hb2 hb3 hg1 hg3 hk1 hk3
                obtain ⟨AL, dL, hcL⟩ := H6.out.1.2.1.len
                go_wp2_with fail
                go_quiet ((go_at_call 15; exact Calls.quiet_of_same (len_q _ _ _ _ H6.out.1.1 _)))
                go_wp2_with fail
                go_roundw
                case rel => exact ⟨j + 1, _, by omega, by go_num, H6.out.1.1, H6.out.1.2.1, H6.out.1.2.2.drewN _⟩
                case measure => simp [intOf]; omega
          · by_cases k2 : oa = 2
            · subst k2
              by_cases hL : L = []
              · subst hL
                go_wp2_with fail
                go_at_call 8
                refine (fplace_none _ _ _ _ HQ.out.1.2.1).mono ?_
                rintro e w4 ⟨rfl, rfl⟩
                have hb0 := (blk_cell HQ.out.2 0).trans rfl
                have hb1 := (blk_cell HQ.out.2 1).trans rfl
                have hb2 := (blk_cell HQ.out.2 2).trans rfl
                have hb3 := (blk_cell HQ.out.2 3).trans rfl
                go_wp2_with fail
                go_at_call 11
                refine (look_none _ _ _ _ HQ.out.1.1).mono ?_
                rintro e w5 ⟨rfl, rfl⟩
                go_wp2_with fail
                go_at_call 12
                refine (bring_none _ _ _ _ HQ.out.1.1).mono ?_
                rintro e w5 ⟨rfl, rfl⟩
                go_wp2_with fail
                go_at_call 13
                refine (fdrop_none _ _ _ _ HQ.out.1.2.1).mono ?_
                rintro e w5 ⟨rfl, rfl⟩
                obtain ⟨AL, dL, hcL⟩ := HQ.out.1.2.1.len
                go_wp2_with fail
                go_quiet ((go_at_call 15; exact Calls.quiet_of_same (len_q _ _ _ _ HQ.out.1.1 _)))
                go_wp2_with fail
                go_roundw
                case rel => exact ⟨j + 1, [], by omega, by go_num, HQ.out.1.1, HQ.out.1.2.1, HQ.out.1.2.2.drewN _⟩
                case measure => simp [intOf]; omega
              · have hpl := plN_lt oc L.length (List.length_pos_iff.2 hL)
                go_wp2_with fail
                go_at_call 8
                refine (fplace_any _ _ _ _ _ HQ.out.1.2.1 hL).mono ?_
                rintro e w4 ⟨rfl, rfl⟩
                have hb0 := (blk_cell HQ.out.2 0).trans rfl
                have hb1 := (blk_cell HQ.out.2 1).trans rfl
                have hb2 := (blk_cell HQ.out.2 2).trans rfl
                have hb3 := (blk_cell HQ.out.2 3).trans rfl
                go_wp2_with fail
                go_at_call 11
                refine (look_any _ _ _ _ _ HQ.out.1.1 hL).mono ?_
                rintro e w5 ⟨rfl, m, hw5⟩
                have H5 : Hid (Sn w w5 w1.heap.size w2.heap.size L ∧ Bx w5 wr.heap.size ⟨2, ob, oc, os⟩) := Lib.hid (by subst hw5; exact ⟨⟨HQ.out.1.1, HQ.out.1.2.1, HQ.out.1.2.2.drewN m⟩, HQ.out.2⟩)
                clear hw5 hb0 hb1 hb2 hb3
                have hb0 := (blk_cell H5.out.2 0).trans rfl
                have hb1 := (blk_cell H5.out.2 1).trans rfl
                have hb2 := (blk_cell H5.out.2 2).trans rfl
                have hb3 := (blk_cell H5.out.2 3).trans rfl
                go_wp2_with fail
                go_at_call 12
                refine (bring_any _ _ _ _ _ H5.out.1.1 hL).mono ?_
                rintro e w6 ⟨rfl, hd, hf⟩
                have H6 := Lib.hid (Sn.n1 H5.out.1 H5.out.2 HS.out.1 hd hf); clear hd hf hb0 hb1 hb2 hb3
                obtain ⟨q1, d1, q2, d2, hr0, hr1, hr2, hr3⟩ := H6.out.2.1.at hpl
                have hb0 := (blk_cell H6.out.2.2.2 0).trans rfl
                have hb1 := (blk_cell H6.out.2.2.2 1).trans rfl
                have hb2 := (blk_cell H6.out.2.2.2 2).trans rfl
                have hb3 := (blk_cell H6.out.2.2.2 3).trans rfl
                generalize hx : L.getD (plN oc L.length) default = x at *
                clear hx
                go_wp2_with fail
                go_at_call 13
                refine (fdrop_any _ _ _ _ _ H6.out.2.1 hL).mono ?_
                rintro e w7 ⟨rfl, hd, hf⟩
                have H7 := Lib.hid (Hn.n2 H6.out HS.out.2 hd hf); clear hd hf hb0 hb1 hb2 hb3 hr0 hr1 hr2 hr3
                obtain ⟨AL, dL, hcL⟩ := H7.out.1.2.1.len
                go_wp2_with fail
                go_quiet ((go_at_call 15; exact Calls.quiet_of_same (len_q _ _ _ _ H7.out.1.1 _)))
                go_wp2_with fail
                go_roundw
                case rel => exact ⟨j + 1, _, by omega, by go_num, H7.out.1.1, H7.out.1.2.1, H7.out.1.2.2.drewN _⟩
                case measure => simp [intOf]; omega
            · by_cases k3 : oa = 3
              · subst k3
                by_cases hL : L = []
                · subst hL
                  go_wp2_with fail
                  go_at_call 8
                  refine (fplace_none _ _ _ _ HQ.out.1.2.1).mono ?_
                  rintro e w4 ⟨rfl, rfl⟩
                  have hb0 := (blk_cell HQ.out.2 0).trans rfl
                  have hb1 := (blk_cell HQ.out.2 1).trans rfl
                  have hb2 := (blk_cell HQ.out.2 2).trans rfl
                  have hb3 := (blk_cell HQ.out.2 3).trans rfl
                  go_wp2_with fail
                  go_at_call 11
                  refine (look_none _ _ _ _ HQ.out.1.1).mono ?_
                  rintro e w5 ⟨rfl, rfl⟩
                  obtain ⟨AL, dL, hcL⟩ := HQ.out.1.2.1.len
                  go_wp2_with fail
                  go_quiet ((go_at_call 15; exact Calls.quiet_of_same (len_q _ _ _ _ HQ.out.1.1 _)))
                  go_wp2_with fail
                  go_roundw
                  case rel => exact ⟨j + 1, [], by omega, by go_num, HQ.out.1.1, HQ.out.1.2.1, HQ.out.1.2.2.drewN _⟩
                  case measure => simp [intOf]; omega
                · have hpl := plN_lt oc L.length (List.length_pos_iff.2 hL)
                  go_wp2_with fail
                  go_at_call 8
                  refine (fplace_any _ _ _ _ _ HQ.out.1.2.1 hL).mono ?_
                  rintro e w4 ⟨rfl, rfl⟩
                  have hb0 := (blk_cell HQ.out.2 0).trans rfl
                  have hb1 := (blk_cell HQ.out.2 1).trans rfl
                  have hb2 := (blk_cell HQ.out.2 2).trans rfl
                  have hb3 := (blk_cell HQ.out.2 3).trans rfl
                  go_wp2_with fail
                  go_at_call 11
                  refine (look_any _ _ _ _ _ HQ.out.1.1 hL).mono ?_
                  rintro e w5 ⟨rfl, m, hw5⟩
                  have H5 : Hid (Sn w w5 w1.heap.size w2.heap.size L ∧ Bx w5 wr.heap.size ⟨3, ob, oc, os⟩) := Lib.hid (by subst hw5; exact ⟨⟨HQ.out.1.1, HQ.out.1.2.1, HQ.out.1.2.2.drewN m⟩, HQ.out.2⟩)
                  clear hw5 hb0 hb1 hb2 hb3
                  have hb0 := (blk_cell H5.out.2 0).trans rfl
                  have hb1 := (blk_cell H5.out.2 1).trans rfl
                  have hb2 := (blk_cell H5.out.2 2).trans rfl
                  have hb3 := (blk_cell H5.out.2 3).trans rfl
                  obtain ⟨q1, d1, q2, d2, hr0, hr1, hr2, hr3⟩ := H5.out.1.2.1.at hpl
                  generalize hx : L.getD (plN oc L.length) default = x at *
                  clear hx
                  obtain ⟨AL, dL, hcL⟩ := H5.out.1.2.1.len
                  go_wp2_with fail
                  go_quiet ((go_at_call 15; exact Calls.quiet_of_same (len_q _ _ _ _ H5.out.1.1 _)))
                  go_wp2_with fail
                  go_roundw
                  case rel => exact ⟨j + 1, L, by omega, by go_num, H5.out.1.1, H5.out.1.2.1, H5.out.1.2.2.drewN _⟩
                  case measure => simp [intOf]; omega
              · by_cases hL : L = []
                · subst hL
                  go_wp2_with fail
                  go_at_call 8
                  refine (fplace_none _ _ _ _ HQ.out.1.2.1).mono ?_
                  rintro e w4 ⟨rfl, rfl⟩
                  have hb0 := (blk_cell HQ.out.2 0).trans rfl
                  have hb1 := (blk_cell HQ.out.2 1).trans rfl
                  have hb2 := (blk_cell HQ.out.2 2).trans rfl
                  have hb3 := (blk_cell HQ.out.2 3).trans rfl
                  go_wp2_with fail
                  go_quiet ((first | (go_at_call 14; exact Calls.quiet_of_same (drop_q _ _ _ _ HQ.out.1.1 _)) | (go_at_call 13; exact Calls.quiet_of_same (fdrop_q _ _ _ _ HQ.out.1.2.1 _))))
                  clear hb0 hb1 hb2 hb3
                  obtain ⟨AL, dL, hcL⟩ := HQ.out.1.2.1.len
                  go_wp2_with fail
                  go_quiet ((go_at_call 15; exact quiet_again (len_q _ _ _ _ HQ.out.1.1 _)))
                  go_wp2_with fail
                  go_roundw
                  case rel => exact ⟨j + 1, [], by omega, by go_num, HQ.out.1.1, HQ.out.1.2.1, HQ.out.1.2.2.drewN _⟩
                  case measure => simp [intOf]; omega
                · have hpl := plN_lt oc L.length (List.length_pos_iff.2 hL)
                  go_wp2_with fail
                  go_at_call 8
                  refine (fplace_any _ _ _ _ _ HQ.out.1.2.1 hL).mono ?_
                  rintro e w4 ⟨rfl, rfl⟩
                  have hb0 := (blk_cell HQ.out.2 0).trans rfl
                  have hb1 := (blk_cell HQ.out.2 1).trans rfl
                  have hb2 := (blk_cell HQ.out.2 2).trans rfl
                  have hb3 := (blk_cell HQ.out.2 3).trans rfl
                  go_wp2_with fail
                  go_region_with ((first | (go_at_call 14; first | (refine Calls.mono (drop_any w1.heap.size w1.heap.size L oc _ ?_ ?_) ?_; exact HQ.out.1.1; exact hL; rintro e w5 ⟨rfl, hd, hf⟩; have H5 := Lib.hid (Sn.n1 HQ.out.1 HQ.out.2 HS.out.1 hd hf.und1); have hg1 := (blk_cell H5.out.2.2.2 2).trans rfl; clear hd hf) | (refine Calls.mono (drop_any w1.heap.size w1.heap.size L oc _ ?_ ?_) ?_; exact H5.out.1; exact hL; rintro e w6 ⟨rfl, hd, hf⟩; have H6 := Lib.hid (Hn.f2 H5.out HS.out.1 hd hf); clear hd hf)) | (go_at_call 13; first | (refine Calls.mono (fdrop_any w2.heap.size w2.heap.size L oc _ ?_ ?_) ?_; exact HQ.out.1.2.1; exact hL; rintro e w5 ⟨rfl, hd, hf⟩; have H5 := Lib.hid (Sn.f1 HQ.out.1 HQ.out.2 HS.out.2 hd hf.und1); have hg1 := (blk_cell H5.out.2.2.2 2).trans rfl; clear hd hf) | (refine Calls.mono (fdrop_any w2.heap.size w2.heap.size L oc _ ?_ ?_) ?_; exact H5.out.2.1; exact hL; rintro e w6 ⟨rfl, hd, hf⟩; have H6 := Lib.hid (Hn.n2 H5.out HS.out.2 hd hf); clear hd hf))))
                  all_goals
                    clear hb0 hb1 hb2 hb3 hg1
                    obtain ⟨AL, dL, hcL⟩ := H6.out.1.2.1.len
                    go_wp2_with fail
                    go_quiet ((go_at_call 15; exact Calls.quiet_of_same (len_q _ _ _ _ H6.out.1.1 _)))
                    go_wp2_with fail
                    go_roundw
                    case rel => exact ⟨j + 1, _, by omega, by go_num, H6.out.1.1, H6.out.1.2.1, H6.out.1.2.2.drewN _⟩
                    case measure => simp [intOf]; omega
      · obtain rfl : j = n := by omega
        obtain ⟨AL, dL, hcL⟩ := HR.out.2.1.len
        have hl200 : L.length ≤ 200 := HR.out.1.choose_spec.2.2.2
        go_wp2_with fail
        clear hcL
        go_loopw [150] (fun i wq => ∃ k : Nat, k ≤ L.length ∧ i = .int .i64 k ∧ IsN wq w1.heap.size w1.heap.size (L.drop k) ∧ IsF wq w2.heap.size w2.heap.size L ∧ Fr (fun _ => False) w wq) (fun i _ => L.length - (intOf i).toNat)
        case atStart => exact ⟨0, by omega, rfl, HR.out.1, HR.out.2.1, HR.out.2.2⟩
        case round =>
          obtain ⟨k, hk, rfl, hn', hf', hfr⟩ := hrel
          have HO := Lib.hid (And.intro hn' (And.intro hf' hfr)); clear hn' hf' hfr
          by_cases hkl : k < L.length
          · have hne : L.drop k ≠ [] := by intro e; have := congrArg List.length e; simp at this; omega
            go_wp2_with fail
            go_at_call 12
            refine (bring_any _ _ _ _ _ HO.out.1 hne).mono ?_
            rintro e w6 ⟨rfl, hd, hf⟩
            rw [pl0, drop_first L k hkl]
            have H6 : Hid (IsN w6 w1.heap.size w1.heap.size (L.drop (k + 1)) ∧ IsF w6 w2.heap.size w2.heap.size L ∧ Fr (fun _ => False) w w6) := Lib.hid ⟨by rw [pl0, drop_rest L k] at hd; exact hd, HO.out.2.1.tn HO.out.1 hf, HO.out.2.2.own hf (fun _ q => Nat.le_trans HS.out.1 q.1)⟩
            clear hd hf hne
            obtain ⟨q1, d1, q2, d2, hr0, hr1, hr2, hr3⟩ := H6.out.2.1.at hkl
            generalize hx : L.getD k default = x at *
            clear hx
            go_wp2_with fail
            go_roundw
            case rel => exact ⟨k + 1, by omega, by go_num, H6.out.1, H6.out.2.1, H6.out.2.2⟩
            case measure => simp [intOf]; omega
          · obtain rfl : k = L.length := by omega
            have H9 : Hid (IsN wr w1.heap.size w1.heap.size []) := Lib.hid (by have q := HO.out.1; rw [List.drop_length] at q; exact q)
            go_wp2_with fail
            go_at_call 15
            refine (len_any _ _ _ _ H9.out).mono ?_
            rintro e w6 ⟨rfl, rfl⟩
            go_wp2_with fail
            go_ret
            exact ⟨rfl, HO.out.2.2⟩

end Go.Proofs.Ytmlgihdhclmdkaa
