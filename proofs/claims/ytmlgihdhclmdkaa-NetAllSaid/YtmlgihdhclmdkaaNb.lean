/- Drop and Bring, and the calls of no net, by walks. -/
import Derived.Test.YtmlgihdhclmdkaaNd
namespace Go.Proofs.Ytmlgihdhclmdkaa
open Go.RowKit Go.Proofs.YtmlgihdhclmdkaaW.PrintWords

set_option maxHeartbeats 2000000 in
theorem drop_any (b g : Nat) (L : List Lt) (k : Int) (w : World) (h : IsN w b g L) (hL : L ≠ []) :
    Calls Try.prog 14 #[.pointer (some ⟨g, 0, none⟩), .int .i64 k] w fun e w' => e = .returned (.bool true) ∧ IsN w' b g (L.eraseIdx (plN k L.length)) ∧ Fr (TN w b g) w w' := by
  have H := Lib.hid (And.intro h hL)
  have hpos : 0 < L.length := List.length_pos_iff.2 hL
  have hpl := plN_lt k L.length hpos
  obtain ⟨v, h1, h2, h3, h4⟩ := h
  obtain ⟨g2, c, rfl, hg2, hl2⟩ := h2.form hpos
  have htn := own_block_tn h2 g2 rfl
  obtain ⟨r, hr⟩ : ∃ r, L.length = plN k L.length + 1 + r := ⟨L.length - plN k L.length - 1, by omega⟩
  generalize hpe : plN k L.length = i at *
  have HP := Lib.hid hpe; clear hpe
  have hc := (blk_cell h1 0).trans rfl
  have hf := blk_frozen h1 0
  rw [hr] at hc h2 h4
  have HQ := Lib.hid (And.intro h2 (And.intro htn (And.intro hr h1)))
  have hne : g2 ≠ g := by
    rintro rfl
    obtain ⟨_, cs, fr, hh⟩ := htn
    rw [h1] at hh
    simp at hh
  clear h1 h2 hL hr hpl hpos htn
  go_enter Try.func14, Try.ntmps14
  go_wp2_with fail
  go_at_call 16
  refine (place_any b g L k _ (by exact H.out.1) H.out.2).mono ?_
  rintro e w1 ⟨rfl, rfl⟩
  rw [HP.out]
  go_wp2_with fail
  go_at_call 17
  refine (delete_any g2 c i r L b _ HQ.out.1 HQ.out.2.2.1 (by omega)).mono ?_
  rintro e w2 ⟨rfl, ho, hfr⟩
  have hb2 := hfr.blk HQ.out.2.2.2 (fun e => hne e.symm)
  have hc2 := (blk_cell hb2 0).trans rfl
  have hf2 := blk_frozen hb2 0
  have H2 := Lib.hid (And.intro ho (And.intro hfr hb2)); clear ho hfr hb2
  go_wp2_with fail
  go_ret
  obtain ⟨ho, hfr, hb2⟩ := H2.out
  have e1 : (L.eraseIdx i).length = i + r := by rw [List.length_eraseIdx, HQ.out.2.2.1, if_pos (by omega)]; omega
  refine ⟨rfl, nset hb2 (by rw [e1]; exact ho) h3 (by rw [e1]; omega), ?_⟩
  exact ((hfr.mono (fun j _ hj => by subst hj; exact ⟨hg2, .inr HQ.out.2.1.2⟩)).setCell (.inl ⟨h3, .inl rfl⟩) _)

set_option maxHeartbeats 1000000 in
theorem drop_none (b g : Nat) (k : Int) (w : World) (h : IsN w b g []) :
    Calls Try.prog 14 #[.pointer (some ⟨g, 0, none⟩), .int .i64 k] w fun e w' => e = .returned (.bool false) ∧ w = w' := by
  go_enter Try.func14, Try.ntmps14
  go_wp2_with fail
  go_at_call 16
  refine (place_none b g k _ (by exact h)).mono ?_
  rintro e w1 ⟨rfl, rfl⟩
  go_wp2_with fail
  go_ret
  exact ⟨rfl, rfl⟩

set_option maxHeartbeats 1000000 in
theorem bring_any (b g : Nat) (L : List Lt) (k : Int) (w : World) (h : IsN w b g L) (hL : L ≠ []) :
    Calls Try.prog 12 #[.pointer (some ⟨g, 0, none⟩), .int .i64 k] w fun e w' => e = .returned (.tuple #[.int .i64 (L.getD (plN k L.length) default).t, .string (L.getD (plN k L.length) default).s, .bool true]) ∧ IsN w' b g (L.eraseIdx (plN k L.length)) ∧ Fr (TN w b g) w w' := by
  have H := Lib.hid (And.intro h hL)
  clear h hL
  go_enter Try.func12, Try.ntmps12
  go_wp2_with fail
  go_at_call 11
  refine (look_any b g L k _ (by exact H.out.1) H.out.2).mono ?_
  rintro e w1 ⟨rfl, m, rfl⟩
  go_wp2_with fail
  go_at_call 14
  refine (drop_any b g L k _ (by exact H.out.1) H.out.2).mono ?_
  rintro e w2 ⟨rfl, hd, hf⟩
  have H2 := Lib.hid (And.intro hd hf); clear hd hf
  go_wp2_with fail
  go_ret3
  have q : Fr (TN w b g) (w.drewN m) w2 := H2.out.2
  exact ⟨rfl, H2.out.1, q.und⟩

set_option maxHeartbeats 1000000 in
theorem bring_none (b g : Nat) (k : Int) (w : World) (h : IsN w b g []) :
    Calls Try.prog 12 #[.pointer (some ⟨g, 0, none⟩), .int .i64 k] w fun e w' => e = .returned (.tuple #[.int .i64 0, .string ByteArray.empty, .bool false]) ∧ w = w' := by
  have H := Lib.hid h
  clear h
  go_enter Try.func12, Try.ntmps12
  go_wp2_with fail
  go_at_call 11
  refine (look_none b g k _ (by exact H.out)).mono ?_
  rintro e w1 ⟨rfl, rfl⟩
  go_wp2_with fail
  go_at_call 14
  refine (drop_none b g k _ (by exact H.out)).mono ?_
  rintro e w2 ⟨rfl, rfl⟩
  go_wp2_with fail
  go_ret3
  exact ⟨rfl, rfl⟩

theorem TN.ge {w : World} {b g i : Nat} (h : TN w b g i) : b ≤ i := h.1

set_option maxHeartbeats 1000000 in
theorem awake_any (w : World) :
    Calls Try.prog 6 #[] w fun e w' => e = .returned (.bool true) ∧ Fr (fun _ => False) w w' := by
  go_enter Try.func6, Try.ntmps6
  go_wp2_with fail
  go_at_call 7
  refine (nnew_any _).mono ?_
  rintro e w1 ⟨rfl, hd, hz, hf⟩
  have H1 := Lib.hid (And.intro hd hf); clear hd hf
  go_wp2_with fail
  go_at_call 9
  refine (send_any _ _ _ _ _ _ H1.out.1 (by decide)).mono ?_
  rintro e w2 ⟨rfl, hd, hf⟩
  have H2 := Lib.hid (And.intro hd (H1.out.2.own hf (fun _ h => h.1))); clear hd hf
  go_wp2_with fail
  go_at_call 9
  refine (send_any _ _ _ _ _ _ H2.out.1 (by decide)).mono ?_
  rintro e w3 ⟨rfl, hd, hf⟩
  have H3 := Lib.hid (And.intro hd (H2.out.2.own hf (fun _ h => h.1))); clear hd hf
  go_wp2_with fail
  go_at_call 9
  refine (send_any _ _ _ _ _ _ H3.out.1 (by decide)).mono ?_
  rintro e w4 ⟨rfl, hd, hf⟩
  have H4 : Hid (IsN w4 w.heap.size w.heap.size [⟨1, ⟨#[97]⟩⟩, ⟨2, ⟨#[98]⟩⟩, ⟨3, ⟨#[99]⟩⟩] ∧ Fr (fun _ => False) w w4) := Lib.hid (And.intro hd (H3.out.2.own hf (fun _ h => h.1))); clear hd hf
  go_wp2_with fail
  go_at_call 12
  refine (bring_any _ _ _ _ _ H4.out.1 (by simp)).mono ?_
  rintro e w5 ⟨rfl, hd, hf⟩
  have H5 : Hid (IsN w5 w.heap.size w.heap.size [⟨1, ⟨#[97]⟩⟩, ⟨3, ⟨#[99]⟩⟩] ∧ Fr (fun _ => False) w w5) := Lib.hid (And.intro hd (H4.out.2.own hf (fun _ h => h.1))); clear hd hf
  have e5 : ([⟨1, ⟨#[97]⟩⟩, ⟨2, ⟨#[98]⟩⟩, ⟨3, ⟨#[99]⟩⟩] : List Lt).getD (plN 4 ([⟨1, ⟨#[97]⟩⟩, ⟨2, ⟨#[98]⟩⟩, ⟨3, ⟨#[99]⟩⟩] : List Lt).length) default = ⟨2, ⟨#[98]⟩⟩ := rfl
  rw [e5]
  clear e5
  go_wp2_with fail
  go_at_call 11
  refine (look_any _ _ _ _ _ H5.out.1 (by simp)).mono ?_
  rintro e w6 ⟨rfl, m, rfl⟩
  have e6 : ([⟨1, ⟨#[97]⟩⟩, ⟨3, ⟨#[99]⟩⟩] : List Lt).getD (plN 1 ([⟨1, ⟨#[97]⟩⟩, ⟨3, ⟨#[99]⟩⟩] : List Lt).length) default = ⟨3, ⟨#[99]⟩⟩ := rfl
  rw [e6]
  clear e6
  go_wp2_with fail
  go_at_call 14
  refine (drop_any _ _ _ _ _ (by exact H5.out.1) (by simp)).mono ?_
  rintro e w7 ⟨rfl, hd, hf⟩
  have H7 : Hid (IsN w7 w.heap.size w.heap.size [⟨3, ⟨#[99]⟩⟩] ∧ Fr (fun _ => False) w w7) := Lib.hid (And.intro hd ((H5.out.2.drewN _).own hf (fun _ h => h.1))); clear hd hf
  go_wp2_with fail
  go_at_call 15
  refine (len_any _ _ _ _ H7.out.1).mono ?_
  rintro e w8 ⟨rfl, rfl⟩
  go_wp2_with fail
  go_ret
  exact ⟨rfl, H7.out.2⟩

set_option maxHeartbeats 400000 in
theorem len_nil (w : World) :
    Calls Try.prog 15 #[.pointer none] w fun e w' => e = .returned (.int .i64 0) ∧ w = w' := by
  go_enter Try.func15, Try.ntmps15
  go_wp2_with fail
  go_ret
  exact ⟨rfl, rfl⟩

set_option maxHeartbeats 400000 in
theorem place_nil (k : Int) (w : World) :
    Calls Try.prog 16 #[.pointer none, .int .i64 k] w fun e w' => e = .returned (.tuple #[.int .i64 0, .bool false]) ∧ w = w' := by
  go_enter Try.func16, Try.ntmps16
  go_wp2_with fail
  go_at_call 15
  refine (len_nil _).mono ?_
  rintro e w1 ⟨rfl, rfl⟩
  go_wp2_with fail
  go_ret2
  exact ⟨rfl, rfl⟩

set_option maxHeartbeats 400000 in
theorem look_nil (k : Int) (w : World) :
    Calls Try.prog 11 #[.pointer none, .int .i64 k] w fun e w' => e = .returned (.tuple #[.int .i64 0, .string ByteArray.empty, .bool false]) ∧ w = w' := by
  go_enter Try.func11, Try.ntmps11
  go_wp2_with fail
  go_at_call 16
  refine (place_nil _ _).mono ?_
  rintro e w1 ⟨rfl, rfl⟩
  go_wp2_with fail
  go_ret3
  exact ⟨rfl, rfl⟩

set_option maxHeartbeats 400000 in
theorem drop_nil (k : Int) (w : World) :
    Calls Try.prog 14 #[.pointer none, .int .i64 k] w fun e w' => e = .returned (.bool false) ∧ w = w' := by
  go_enter Try.func14, Try.ntmps14
  go_wp2_with fail
  go_at_call 16
  refine (place_nil _ _).mono ?_
  rintro e w1 ⟨rfl, rfl⟩
  go_wp2_with fail
  go_ret
  exact ⟨rfl, rfl⟩

set_option maxHeartbeats 400000 in
theorem bring_nil (k : Int) (w : World) :
    Calls Try.prog 12 #[.pointer none, .int .i64 k] w fun e w' => e = .returned (.tuple #[.int .i64 0, .string ByteArray.empty, .bool false]) ∧ w = w' := by
  go_enter Try.func12, Try.ntmps12
  go_wp2_with fail
  go_at_call 11
  refine (look_nil _ _).mono ?_
  rintro e w1 ⟨rfl, rfl⟩
  go_wp2_with fail
  go_at_call 14
  refine (drop_nil _ _).mono ?_
  rintro e w1 ⟨rfl, rfl⟩
  go_wp2_with fail
  go_ret3
  exact ⟨rfl, rfl⟩

set_option maxHeartbeats 400000 in
theorem send_nil (t : Int) (s : ByteArray) (w : World) :
    Calls Try.prog 9 #[.pointer none, .int .i64 t, .string s] w fun e w' => e = .returned (.int .i64 9) ∧ w = w' := by
  go_enter Try.func9, Try.ntmps9
  go_wp2_with fail
  go_ret
  exact ⟨rfl, rfl⟩

end Go.Proofs.Ytmlgihdhclmdkaa
