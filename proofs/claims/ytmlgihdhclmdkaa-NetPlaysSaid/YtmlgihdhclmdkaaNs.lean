/- The reference's Drop, by a walk. -/
import Derived.Test.YtmlgihdhclmdkaaNr
import Derived.Deep.DeepCutAuto
namespace Go.Proofs.Ytmlgihdhclmdkaa
open Go.RowKit Go.Proofs.YtmlgihdhclmdkaaW.PrintWords

/-- Behind a new block and an append onto it nothing that was there has turned. -/
theorem new1 {w W w1 : World} {v1 : Value} (hW : Fr (fun _ => False) w W) (hs : W.heap.size = w.heap.size + 1) (hg : W.grownBy w1 (some w.heap.size)) (hat : v1.ownBlock = some w.heap.size ∨ ∃ b, v1.ownBlock = some b ∧ W.heap.size ≤ b) : Fr (fun _ => False) w w1 ∧ ∀ q, v1.ownBlock = some q → w.heap.size ≤ q := by
  refine ⟨hW.own (Fr.of_grown hg) (fun i hi => by simp at hi; omega), fun q hq => ?_⟩
  rcases hat with h | ⟨b, h, hb⟩
  · rw [h] at hq; simp at hq; omega
  · rw [h] at hq; simp at hq; omega
theorem new2 {w w1 w2 : World} {v1 : Value} (h : Fr (fun _ => False) w w1 ∧ ∀ q, v1.ownBlock = some q → w.heap.size ≤ q) (hg : w1.grownBy w2 v1.ownBlock) : Fr (fun _ => False) w w2 :=
  h.1.own (Fr.of_grown hg) (fun i hi => h.2 i hi.symm)

/-- A row without one of its cells, out of both its halves. -/
theorem encs_erase {α : Type} (enc : α → Value) (xs : List α) (i : Nat) : encs enc (xs.take i) ++ encs enc (xs.drop (i + 1)) = encs enc (xs.eraseIdx i) := by
  rw [List.eraseIdx_eq_take_drop_succ, encs_append]

/-- The reference's net between the two rows. -/
def Mid (w wx : World) (b g n i : Nat) (L : List Lt) (A2 : Option Addr) (c2 : Nat) : Prop := ∃ A c, wx.heap[g]? = some (.cells #[.slice A (i + (n - (i + 1))) c, .slice A2 n c2] 30 (0, 0)) ∧ wx.ownsRow b 3 1 (.slice A (i + (n - (i + 1))) c) (i + (n - (i + 1))) (encs vI ((tos L).eraseIdx i)) ∧ wx.ownsRow b 9 1 (.slice A2 n c2) n (encs vS (sss L)) ∧ Fr (TF w b g) w wx

theorem mid_of {w w2 : World} {b g n i : Nat} {L : List Lt} {A1 A2 N : Option Addr} {c1 c2 d : Nat} (hbg : b ≤ g) (h1 : w.heap[g]? = some (.cells #[.slice A1 n c1, .slice A2 n c2] 30 (0, 0))) (h3 : w.ownsRow b 9 1 (.slice A2 n c2) n (encs vS (sss L)))
    (hf : Fr (fun _ => False) w w2) (ho : w2.ownsRow b 3 1 (.slice N (i + (n - (i + 1))) d) (i + (n - (i + 1))) (encs vI ((tos L).take i) ++ encs vI ((tos L).drop (i + 1)))) : Mid w (w2.setCell ⟨g, 0, none⟩ (.slice N (i + (n - (i + 1))) d)) b g n i L A2 c2 := by
  have hb2 := hf.blk h1 (by simp)
  rw [encs_erase] at ho
  refine ⟨N, d, by simpa using blk_set hb2 0 (.slice N (i + (n - (i + 1))) d), own_setCell ho (ne_ty hb2 ho (by decide)) _, own_setCell (own_fr h3 hf (by simp)) (ne_ty hb2 (own_fr h3 hf (by simp)) (by decide)) _, (hf.mono (by simp)).setCell (.inl ⟨hbg, .inl rfl⟩) _⟩

theorem fin_of {w w1 w2 : World} {b g n i : Nat} {L : List Lt} {A1 A2 N : Option Addr} {c1 c2 d : Nat} (hbg : b ≤ g) (hi : i < n) (hn2 : n ≤ 200) (hL : L.length = n) (h1 : w1.heap[g]? = some (.cells #[.slice A1 (i + (n - (i + 1))) c1, .slice A2 n c2] 30 (0, 0))) (h3 : w1.ownsRow b 3 1 (.slice A1 (i + (n - (i + 1))) c1) (i + (n - (i + 1))) (encs vI ((tos L).eraseIdx i)))
    (hw : Fr (TF w b g) w w1) (hf : Fr (fun _ => False) w1 w2) (ho : w2.ownsRow b 9 1 (.slice N (i + (n - (i + 1))) d) (i + (n - (i + 1))) (encs vS ((sss L).take i) ++ encs vS ((sss L).drop (i + 1)))) :
    IsF (w2.setCell ⟨g, 1, none⟩ (.slice N (i + (n - (i + 1))) d)) b g (L.eraseIdx i) ∧ Fr (TF w b g) w (w2.setCell ⟨g, 1, none⟩ (.slice N (i + (n - (i + 1))) d)) := by
  have hb2 := hf.blk h1 (by simp)
  rw [encs_erase] at ho
  have h3' := own_fr h3 hf (by simp)
  have e1 : (L.eraseIdx i).length = i + (n - (i + 1)) := by rw [List.length_eraseIdx, hL, if_pos (by omega)]; omega
  have e2 : tos (L.eraseIdx i) = (tos L).eraseIdx i := by simp [tos, List.eraseIdx_eq_take_drop_succ, List.map_take, List.map_drop]
  have e3 : sss (L.eraseIdx i) = (sss L).eraseIdx i := by simp [sss, List.eraseIdx_eq_take_drop_succ, List.map_take, List.map_drop]
  have hq : (w2.setCell ⟨g, 1, none⟩ (.slice N (i + (n - (i + 1))) d)).heap[g]? = some (.cells #[.slice A1 (i + (n - (i + 1))) c1, .slice N (i + (n - (i + 1))) d] 30 (0, 0)) := by simpa using blk_set hb2 1 (.slice N (i + (n - (i + 1))) d)
  refine ⟨⟨_, _, hq, ?_, ?_, hbg, by rw [e1]; omega⟩, ?_⟩
  · rw [e1, e2]; exact own_setCell (p := ⟨g, 1, none⟩) h3' (ne_ty hb2 h3' (by decide)) _
  · rw [e1, e3]; exact own_setCell (p := ⟨g, 1, none⟩) ho (ne_ty hb2 ho (by decide)) _
  · exact (hw.tf (hf.mono (by simp))).setCell (.inl ⟨hbg, .inl rfl⟩) _

set_option maxHeartbeats 4000000 in
theorem fdrop_any (b g : Nat) (L : List Lt) (k : Int) (w : World) (h : IsF w b g L) (hL : L ≠ []) :
    Calls Try.prog 13 #[.pointer (some ⟨g, 0, none⟩), .int .i64 k] w fun e w' => e = .returned (.bool true) ∧ IsF w' b g (L.eraseIdx (plN k L.length)) ∧ Fr (TF w b g) w w' := by
  have HH := Lib.hid (And.intro h hL)
  have hpos : 0 < L.length := List.length_pos_iff.2 hL
  have hpl := plN_lt k L.length hpos
  obtain ⟨v1, v2, h1, h2, h3, h4, h5⟩ := h
  obtain ⟨A1, c1, rfl⟩ := own_slice h2
  obtain ⟨A2, c2, rfl⟩ := own_slice h3
  have hle1 := own_le h2
  have hle2 := own_le h3
  have hc0 := (blk_cell h1 0).trans rfl
  have hc1 := (blk_cell h1 1).trans rfl
  have hf0 := blk_frozen h1 0
  have hg : g < w.heap.size := blk_lt h1
  generalize hpe : plN k L.length = i at *
  have HP := Lib.hid hpe; clear hpe
  obtain ⟨i3, hi3, hzz⟩ := Option.map_eq_some_iff.1 info3
  simp only [Prod.mk.injEq] at hzz
  obtain ⟨hz31, hz32, hz33⟩ := hzz
  obtain ⟨i9, hi9, hzz⟩ := Option.map_eq_some_iff.1 info9
  simp only [Prod.mk.injEq] at hzz
  obtain ⟨hz91, hz92, hz93⟩ := hzz
  obtain ⟨B1, hcut1, hB1⟩ := print_cut_of (P := Try.prog) vI (0 : Int) 27 3 .i64 Try.underlying27 hi3 hz32 A1 L.length c1 (i + 1) (by omega)
  obtain ⟨B2, hcut2, hB2⟩ := print_cut_of (P := Try.prog) vS ByteArray.empty 28 9 .i64 Try.underlying28 hi9 hz92 A2 L.length c2 (i + 1) (by omega)
  have ei : ((i + 1 : Nat) : Int) = (i : Int) + 1 := by omega
  rw [ei] at hcut1 hcut2
  clear ei
  have HI := Lib.hid (And.intro hi3 (And.intro hz31 (And.intro hz32 (And.intro hz33 (And.intro hi9 (And.intro hz91 (And.intro hz92 hz93)))))))
  have HBb := Lib.hid (And.intro hB1 hB2)
  have H := Lib.hid (And.intro h1 (And.intro h2 (And.intro h3 h4)))
  clear h1 h2 h3 hL hi3 hz31 hz32 hz33 hi9 hz91 hz92 hz93 hB1 hB2
  generalize hn : L.length = n at *
  have HN := Lib.hid hn; clear hn
  have hin : i ≤ c1 := by omega
  have hin2 : i ≤ c2 := by omega
  have hin3 : (0 : Int) ≤ (i : Int) + 1 := by omega
  have hw1 : IntKind.i64.wrap ((i : Int) + 1) = (i : Int) + 1 := IntWalk.i64_in _ (by omega)
  have hneg : decide ((i : Int) < 0) = false := by simp
  have HO1 : Hid ((w.alloc (.cells #[] 3)).ownsRow b 3 1 (.slice (some ⟨w.heap.size, 0, none⟩) 0 0) 0 []) := Lib.hid (by simpa [nums] using own_lit w b 3 .i64 [] (by omega) (by simp))
  have HR1 : Hid (ReadsOf vI 0 (w.alloc (.cells #[] 3)) A1 i ((tos L).take i)) := Lib.hid (((own_reads_of' (d := (0 : Int)) H.out.2.1).allocS _).take_ i (by omega))
  have HS1 : Hid (b ≤ (w.alloc (.cells #[] 3)).heap.size) := Lib.hid (by simp; omega)
  have HW1 : Hid (Fr (fun _ => False) w (w.alloc (.cells #[] 3)).drew) := Lib.hid (((Fr.refl _ _).alloc _).drew)
  have HW2 : Hid ((w.alloc (.cells #[] 3)).drew.heap.size = w.heap.size + 1) := Lib.hid (by show (w.alloc (.cells #[] 3)).heap.size = _; simp)
  have HS2 : Hid ((0 + i) * 8 ≤ 140737488355328) := Lib.hid (by omega)
  have HS3 : Hid ((i + (n - (i + 1))) * 8 ≤ 140737488355328) := Lib.hid (by omega)
  go_enter Try.func13, Try.ntmps13
  go_wp2_with fail
  go_at_call 8
  refine (fplace_any b g L k _ (by exact HH.out.1) HH.out.2).mono ?_
  rintro e w1 ⟨rfl, rfl⟩
  rw [HN.out, HP.out]
  go_upto_region 4 with fail
  go_cut [] (fun wx => Mid w wx b g n i L A2 c2)
  case first =>
    go_region_law ((first | (refine step_row vI 0 rfl (.tmp 12) (.tmp 18) 27 rfl b 3 i3 (.int .i64 0) 8 Try.underlying27 HI.out.1 HI.out.2.1 HI.out.2.2.1 HI.out.2.2.2.1 rfl (by decide) (fun _ => rfl) (.slice (some ⟨w.heap.size, 0, none⟩) 0 0) 0 [] ((tos L).take i) A1 i c1 rfl rfl HO1.out HR1.out HS1.out HS2.out ?_; intro N1 d1 w1 ho hgr hat; simp only [Nat.zero_add, List.nil_append] at ho hat; have H5 := Lib.hid (And.intro (new1 HW1.out HW2.out hgr hat) ho); have hb5 := H5.out.1.1.blk H.out.1 (by simp); have hc5 := (blk_cell hb5 0).trans rfl; have hf5 := blk_frozen hb5 0; have HR2 : Hid (ReadsOf vI 0 w1 B1 (n - (i + 1)) ((tos L).drop (i + 1))) := Lib.hid (HBb.out.1 w1 (tos L) hle1 (own_reads_of' (own_fr H.out.2.1 H5.out.1.1 (by simp)))); have HS4 : Hid (b ≤ w1.heap.size) := Lib.hid (Nat.le_trans (by omega) H5.out.1.1.size); clear ho hgr hat hb5) | (refine step_row vI 0 rfl (.tmp 19) (.tmp 26) 27 rfl b 3 i3 (.int .i64 0) 8 Try.underlying27 HI.out.1 HI.out.2.1 HI.out.2.2.1 HI.out.2.2.2.1 rfl (by decide) (fun _ => rfl) (.slice N1 i d1) i (encs vI ((tos L).take i)) ((tos L).drop (i + 1)) B1 (n - (i + 1)) (c1 - (i + 1)) rfl rfl H5.out.2 HR2.out HS4.out HS3.out ?_; intro N2 d2 w2 ho hgr _; have H6 := Lib.hid (And.intro (new2 H5.out.1 hgr) ho); have hb6 := H6.out.1.blk H.out.1 (by simp); have hc6 := (blk_cell hb6 0).trans rfl; have hf6 := blk_frozen hb6 0; clear ho hgr hb6)))
    all_goals
      go_wp2_with fail
      go_meet
      exact mid_of h4 H.out.1 H.out.2.2.1 H6.out.1 H6.out.2
  case rest =>
    obtain ⟨A3, c3, hb3, ho3, ho9, hfr⟩ := hcut
    have hd0 := (blk_cell hb3 0).trans rfl
    have hd1 := (blk_cell hb3 1).trans rfl
    have hdf := blk_frozen hb3 1
    have hgc : g < wc.heap.size := blk_lt hb3
    have GB : Hid (b ≤ wc.heap.size) := Lib.hid (Nat.le_trans (by omega) hfr.size)
    have GO1 : Hid ((wc.alloc (.cells #[] 9)).ownsRow b 9 1 (.slice (some ⟨wc.heap.size, 0, none⟩) 0 0) 0 []) := Lib.hid (by simpa [nums] using own_lit wc b 9 .i64 [] GB.out (by simp))
    have GR1 : Hid (ReadsOf vS ByteArray.empty (wc.alloc (.cells #[] 9)) A2 i ((sss L).take i)) := Lib.hid (((own_reads_of' (d := ByteArray.empty) ho9).allocS _).take_ i (by omega))
    have GS1 : Hid (b ≤ (wc.alloc (.cells #[] 9)).heap.size) := Lib.hid (by have := GB.out; simp; omega)
    have GW1 : Hid (Fr (fun _ => False) wc (wc.alloc (.cells #[] 9)).drew) := Lib.hid (((Fr.refl _ _).alloc _).drew)
    have GW2 : Hid ((wc.alloc (.cells #[] 9)).drew.heap.size = wc.heap.size + 1) := Lib.hid (by show (wc.alloc (.cells #[] 9)).heap.size = _; simp)
    have GS2 : Hid ((0 + i) * 16 ≤ 140737488355328) := Lib.hid (by omega)
    have GS3 : Hid ((i + (n - (i + 1))) * 16 ≤ 140737488355328) := Lib.hid (by omega)
    have HM := Lib.hid (And.intro hb3 (And.intro ho3 (And.intro ho9 hfr)))
    clear hb3 ho3 ho9 hfr
    go_wp2_with fail
    go_region_law ((first | (refine step_row vS ByteArray.empty rfl (.tmp 31) (.tmp 37) 28 rfl b 9 i9 (.string ⟨#[]⟩) 16 Try.underlying28 HI.out.2.2.2.2.1 HI.out.2.2.2.2.2.1 HI.out.2.2.2.2.2.2.1 HI.out.2.2.2.2.2.2.2 rfl (by decide) (fun _ => rfl) (.slice (some ⟨wc.heap.size, 0, none⟩) 0 0) 0 [] ((sss L).take i) A2 i c2 rfl rfl GO1.out GR1.out GS1.out GS2.out ?_; intro N1 d1 w1 ho hgr hat; simp only [Nat.zero_add, List.nil_append] at ho hat; have H5 := Lib.hid (And.intro (new1 GW1.out GW2.out hgr hat) ho); have hb5 := H5.out.1.1.blk HM.out.1 (by simp); have hc5 := (blk_cell hb5 1).trans rfl; have hf5 := blk_frozen hb5 1; have HR2 : Hid (ReadsOf vS ByteArray.empty w1 B2 (n - (i + 1)) ((sss L).drop (i + 1))) := Lib.hid (HBb.out.2 w1 (sss L) hle2 (own_reads_of' (own_fr HM.out.2.2.1 H5.out.1.1 (by simp)))); have HS4 : Hid (b ≤ w1.heap.size) := Lib.hid (Nat.le_trans GB.out H5.out.1.1.size); clear ho hgr hat hb5) | (refine step_row vS ByteArray.empty rfl (.tmp 38) (.tmp 45) 28 rfl b 9 i9 (.string ⟨#[]⟩) 16 Try.underlying28 HI.out.2.2.2.2.1 HI.out.2.2.2.2.2.1 HI.out.2.2.2.2.2.2.1 HI.out.2.2.2.2.2.2.2 rfl (by decide) (fun _ => rfl) (.slice N1 i d1) i (encs vS ((sss L).take i)) ((sss L).drop (i + 1)) B2 (n - (i + 1)) (c2 - (i + 1)) rfl rfl H5.out.2 HR2.out HS4.out GS3.out ?_; intro N2 d2 w2 ho hgr _; have H6 := Lib.hid (And.intro (new2 H5.out.1 hgr) ho); have hb6 := H6.out.1.blk HM.out.1 (by simp); have hc6 := (blk_cell hb6 1).trans rfl; have hf6 := blk_frozen hb6 1; clear ho hgr hb6)))
    all_goals
      go_wp2_with fail
      go_ret
      exact ⟨rfl, fin_of h4 (by omega) h5 HN.out HM.out.1 HM.out.2.1 HM.out.2.2.2 H6.out.1 H6.out.2⟩

end Go.Proofs.Ytmlgihdhclmdkaa
