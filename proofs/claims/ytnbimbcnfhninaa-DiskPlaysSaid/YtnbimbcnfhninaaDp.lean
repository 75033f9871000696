/- DiskPlays, by a walk. -/
import Derived.Test.YtnbimbcnfhninaaDr
import Derived.Test.YtnbimbcnfhninaaRo
namespace Go.Proofs.Ytnbimbcnfhninaa
open Go.RowKit Go.Proofs.YtnbimbcnfhninaaW.PrintWords

set_option maxHeartbeats 1000000 in
theorem plays_big (a : Option Addr) (n c : Nat) (w : World) (hn : 200 < n) (hm : n ≤ 9223372036854775807) :
    Calls Try.prog 3 #[.slice a n c] w fun e w' => e = .returned (.bool true) ∧ Fr (fun _ => False) w w' := by
  go_enter Try.func3, Try.ntmps3
  go_wp2_with fail
  go_at_call 6
  refine (awake_any _).mono ?_
  rintro e w1 ⟨rfl, hf1⟩
  go_wp2_with fail
  go_at_call 6
  refine (awake_any _).mono ?_
  rintro e w2 ⟨rfl, hf2⟩
  go_wp2_with fail
  go_ret
  exact ⟨rfl, hf1.trans hf2⟩

/-- The disk and the reference's, side by side. -/
def St (w wr : World) (b g : Nat) (s : ByteArray) (k : Nat) : Prop := IsD wr b b s k ∧ IsR wr g s k ∧ Fr (fun _ => False) w wr
/-- The act in its box. -/
def Bx (w : World) (p : Nat) (o : Op3) : Prop := w.heap[p]? = some (.cells #[.int .i64 o.a, .int .i64 o.b, .string o.s] 30 (0, 0))

theorem td_ne {w : World} {b g p : Nat} {s : ByteArray} {k : Nat} {cs : Array Value} {t : TypeId} (hd : IsD w b g s k) (hp : w.heap[p]? = some (.cells cs t (0, 0))) (h1 : t ≠ 5) (h2 : t ≠ 41) : ¬ TD w b g p := by
  rintro ⟨_, rfl | ⟨cs', fr, h⟩⟩
  · obtain ⟨v, hb, _⟩ := hd
    rw [hb] at hp
    simp at hp
    exact h2 hp.2.symm
  · rw [hp] at h
    simp at h
    exact h1 h.2.1

theorem St.size {w wr : World} {b g : Nat} {s : ByteArray} {k : Nat} (h : St w wr b g s k) : k ≤ s.size ∧ s.size ≤ 65536 := by
  obtain ⟨⟨v, h1, h2, h3, h4, h5⟩, _⟩ := h
  exact ⟨h4, h5⟩
theorem St.boxed {w wr : World} {b g : Nat} {s : ByteArray} {k : Nat} (h : St w wr b g s k) (o : Op3) : St w (wr.alloc (.cells #[.int .i64 o.a, .int .i64 o.b, .string o.s] 30)) b g s k ∧ Bx (wr.alloc (.cells #[.int .i64 o.a, .int .i64 o.b, .string o.s] 30)) wr.heap.size o :=
  ⟨⟨h.1.fr ((Fr.refl (fun _ => False) _).alloc _) (by simp), h.2.1.fr ((Fr.refl (fun _ => False) _).alloc _) (by simp), h.2.2.alloc _⟩, blk_new _ _⟩

/-- The disk's call first, .. -/
theorem St.d1 {w wr w' : World} {b g p : Nat} {s s' : ByteArray} {k k' : Nat} {o : Op3} (h : St w wr b g s k) (hb : Bx wr p o) (hw : w.heap.size ≤ b) (hd : IsD w' b b s' k') (hf : Fr (TD wr b b) wr w') :
    IsD w' b b s' k' ∧ IsR w' g s k ∧ Fr (fun _ => False) w w' ∧ Bx w' p o :=
  ⟨hd, h.2.1.fr hf (td_ne h.1 h.2.1 (by decide) (by decide)), h.2.2.own hf (fun _ q => Nat.le_trans hw q.1), hf.blk hb (td_ne h.1 hb (by decide) (by decide))⟩
theorem IsD.ref {w w' : World} {b g : Nat} {s s' : ByteArray} {k k' : Nat} (h : IsD w b b s k) (hr : IsR w g s' k') (hg : b < g) (hf : Fr (· = g) w w') : IsD w' b b s k := by
  obtain ⟨v, h1, h2, h3⟩ := h
  refine ⟨v, hf.blk h1 (by omega), ?_, h3⟩
  obtain ⟨q1, q2⟩ := h2
  refine ⟨q1, ?_⟩
  rcases q2 with q2 | ⟨x, cap, cur, hv, hx, hh, q⟩
  · exact .inl q2
  · refine .inr ⟨x, cap, cur, hv, hx, hf.blk hh ?_, q⟩
    rintro rfl
    rw [IsR, hh] at hr
    simp at hr
/-- .. the reference's behind it. -/
theorem St.d2 {w w' w'' : World} {b g p : Nat} {s s' : ByteArray} {k k' : Nat} {o : Op3} (h : IsD w' b b s' k' ∧ IsR w' g s k ∧ Fr (fun _ => False) w w' ∧ Bx w' p o) (hg : b < g) (hw : w.heap.size ≤ b) (hr : IsR w'' g s' k') (hf : Fr (· = g) w' w'') : St w w'' b g s' k' :=
  ⟨h.1.ref h.2.1 hg hf, hr, h.2.2.1.own hf (by rintro _ rfl; omega)⟩
/-- The other order. -/
theorem St.r1 {w wr w' : World} {b g p : Nat} {s s' : ByteArray} {k k' : Nat} {o : Op3} (h : St w wr b g s k) (hb : Bx wr p o) (hg : b < g) (hw : w.heap.size ≤ b) (hr : IsR w' g s' k') (hf : Fr (· = g) wr w') :
    IsD w' b b s k ∧ IsR w' g s' k' ∧ Fr (fun _ => False) w w' ∧ Bx w' p o :=
  ⟨h.1.ref h.2.1 hg hf, hr, h.2.2.own hf (by rintro _ rfl; omega), hf.blk hb (by
    rintro rfl
    have := h.2.1
    rw [IsR, hb] at this
    simp at this)⟩
theorem St.r2 {w w' w'' : World} {b g p : Nat} {s s' : ByteArray} {k k' : Nat} {o : Op3} (h : IsD w' b b s k ∧ IsR w' g s' k' ∧ Fr (fun _ => False) w w' ∧ Bx w' p o) (hw : w.heap.size ≤ b) (hd : IsD w'' b b s' k') (hf : Fr (TD w' b b) w' w'') : St w w'' b g s' k' :=
  ⟨hd, h.2.1.fr hf (td_ne h.1 h.2.1 (by decide) (by decide)), h.2.2.1.own hf (fun _ q => Nat.le_trans hw q.1)⟩
theorem Fr.und1 {S : Nat → Prop} {a b : World} (h : Fr S a.drew b) : Fr S a b := ⟨h.os, h.tape, h.output, h.size, h.block⟩

theorem dappf_q (b g : Nat) (s t : ByteArray) (k : Nat) (w : World) (h : IsD w b g s k) (ht : t.size ≤ 1000000) (hs : 65536 < s.size + t.size) (n : Nat) :
    Calls Try.prog 8 #[.pointer (some ⟨g, 0, none⟩), .string t] (w.drewN n) fun e w' => e = .returned (.int .i64 6) ∧ w' = w.drewN n :=
  (dapp_full b g s t k (w.drewN n) h ht hs).mono fun _ _ k => ⟨k.1, k.2.symm⟩
theorem rappf_q (g : Nat) (s t : ByteArray) (k : Nat) (w : World) (h : IsR w g s k) (hs1 : s.size ≤ 65536) (ht : t.size ≤ 1000000) (hs : 65536 < s.size + t.size) (n : Nat) :
    Calls Try.prog 9 #[.pointer (some ⟨g, 0, none⟩), .string t] (w.drewN n) fun e w' => e = .returned (.int .i64 6) ∧ w' = w.drewN n :=
  (rapp_full g s t k (w.drewN n) h hs1 ht hs).mono fun _ _ k => ⟨k.1, k.2.symm⟩

set_option maxHeartbeats 4000000 in
theorem plays_any (a : Option Addr) (n c : Nat) (xs : List Op3) (w : World) (hx : RdO w a n xs) :
    Calls Try.prog 3 #[.slice a n c] w fun e w' => e = .returned (.bool true) ∧ Fr (fun _ => False) w w' := by
  have hm : n ≤ 9223372036854775807 := by have := hx.2.1; unfold maxLen at this; exact this
  by_cases hn : 200 < n
  · exact plays_big a n c w hn hm
  · have HX := Lib.hid hx; clear hx
    go_enter Try.func3, Try.ntmps3
    go_wp2_with fail
    go_at_call 6
    refine (awake_any _).mono ?_
    rintro e w1 ⟨rfl, hf1⟩
    have H1 := Lib.hid hf1; clear hf1
    go_wp2_with fail
    go_at_call 7
    refine (dnew_any _).mono ?_
    rintro e w2 ⟨rfl, hd, hz, hf⟩
    have HS : Hid (w.heap.size ≤ w1.heap.size ∧ w1.heap.size < w2.heap.size) := Lib.hid ⟨H1.out.size, hd.lt⟩
    have H2 := Lib.hid (And.intro hd (H1.out.trans hf)); clear hd hf hz
    go_wp2_with fail
    have HB : Hid (St w (w2.alloc (.cells #[.string ⟨#[]⟩, .int .i64 0] 28)) w1.heap.size w2.heap.size ByteArray.empty 0) := Lib.hid ⟨H2.out.1.fr ((Fr.refl (fun _ => False) _).alloc _) (by simp), blk_new _ _, H2.out.2.alloc _⟩
    go_loopw [20] (fun i wr => ∃ (j : Nat) (s : ByteArray) (k : Nat), j ≤ n ∧ i = .int .i64 j ∧ St w wr w1.heap.size w2.heap.size s k) (fun i _ => n - (intOf i).toNat)
    case atStart => exact ⟨0, _, 0, by omega, rfl, HB.out⟩
    case round =>
      obtain ⟨j, s, k, hj, rfl, hst⟩ := hrel
      have HR := Lib.hid hst; clear hst
      by_cases hlt : j < n
      · obtain ⟨ad, ea, hc0, hc1, hc2, hsz⟩ := (HX.out.fr HR.out.2.2).2.2 j hlt
        subst ea
        obtain ⟨oa, ob, os, eo⟩ : ∃ oa ob os, xs.getD j default = ⟨oa, ob, os⟩ := ⟨_, _, _, rfl⟩
        rw [eo] at hc0 hc1 hc2 hsz
        dsimp only at hc0 hc1 hc2 hsz
        clear eo
        have HQ := Lib.hid (HR.out.boxed ⟨oa, ob, os⟩)
        have hks := Lib.hid HR.out.size
        by_cases h2000 : 2000 < os.size
        · unfold maxLen at hsz
          go_wp2_with fail
          go_ret
          exact ⟨rfl, HQ.out.1.2.2⟩
        · clear hsz
          by_cases k2 : oa = 2
          · subst k2
            go_wp2_with fail
            go_at_call 10
            refine (sync_any _ _ _ _ _ HQ.out.1.1).mono ?_
            rintro e w5 ⟨rfl, hd, hf⟩
            have H5 := Lib.hid (St.d1 HQ.out.1 HQ.out.2 HS.out.1 hd hf); clear hd hf
            have hr0 := (blk_cell H5.out.2.1 0).trans rfl
            have hr1 := (blk_cell H5.out.2.1 1).trans rfl
            have hr1f := blk_frozen H5.out.2.1 1
            go_wp2_with fail
            have H6 : Hid (St w (w5.setCell ⟨w2.heap.size, 1, none⟩ (.int .i64 s.size)) w1.heap.size w2.heap.size s s.size) := Lib.hid (St.d2 H5.out HS.out.2 HS.out.1 (by simpa [IsR] using blk_set H5.out.2.1 1 (.int .i64 s.size)) (Fr.setCell (S := (· = w2.heap.size)) (Fr.refl _ _) (.inl rfl) _))
            clear hr0 hr1 hr1f
            have hcl := (blk_cell H6.out.2.1 0).trans rfl
            have hct := (blk_cell H6.out.2.1 1).trans rfl
            go_quiet ((first | (go_at_call 15; exact Calls.quiet_of_same (bytes_q _ _ _ _ _ H6.out.1 _)) | (go_at_call 16; exact Calls.quiet_of_same (kept_q _ _ _ _ _ H6.out.1 _))))
            go_wp2_with fail
            go_roundw
            case rel => exact ⟨j + 1, _, _, by omega, by go_num, H6.out.1, H6.out.2.1, H6.out.2.2.drewN _⟩
            case measure => simp [intOf]; omega
          · by_cases k3 : oa = 3
            · subst k3
              go_wp2_with fail
              go_at_call 11
              refine (crash_any _ _ _ _ _ _ HQ.out.1.1).mono ?_
              rintro e w5 ⟨rfl, hd, hf⟩
              have H5 := Lib.hid (St.d1 HQ.out.1 HQ.out.2 HS.out.1 hd hf); clear hd hf
              have hb0 := (blk_cell H5.out.2.2.2 0).trans rfl
              have hb1 := (blk_cell H5.out.2.2.2 1).trans rfl
              have hb2 := (blk_cell H5.out.2.2.2 2).trans rfl
              go_wp2_with fail
              go_at_call 12
              refine (rcrash_any _ _ _ _ _ H5.out.2.1 hks.out.1 hks.out.2).mono ?_
              rintro e w6 ⟨rfl, hd, hf⟩
              have H6 := Lib.hid (St.d2 H5.out HS.out.2 HS.out.1 hd hf); clear hd hf hb0 hb1 hb2
              go_wp2_with fail
              have hcl := (blk_cell H6.out.2.1 0).trans rfl
              have hct := (blk_cell H6.out.2.1 1).trans rfl
              go_quiet ((first | (go_at_call 15; exact Calls.quiet_of_same (bytes_q _ _ _ _ _ H6.out.1 _)) | (go_at_call 16; exact Calls.quiet_of_same (kept_q _ _ _ _ _ H6.out.1 _))))
              go_wp2_with fail
              go_roundw
              case rel => exact ⟨j + 1, _, _, by omega, by go_num, H6.out.1, H6.out.2.1, H6.out.2.2.drewN _⟩
              case measure => simp [intOf]; omega
            · by_cases k1 : oa = 1
              · subst k1
                by_cases hfit : s.size + os.size ≤ 65536
                · go_wp2_with fail
                  have hb2 := (blk_cell HQ.out.2 2).trans rfl
                  go_region_with ((first | (go_at_call 8; first | (refine Calls.mono (dapp_any w1.heap.size w1.heap.size s os k _ ?_ ?_) ?_; exact HQ.out.1.1; exact hfit; rintro e w5 ⟨rfl, hd, hf⟩; have H5 := Lib.hid (St.d1 HQ.out.1 HQ.out.2 HS.out.1 hd hf.und1); have hb3 := (blk_cell H5.out.2.2.2 2).trans rfl; clear hd hf) | (refine Calls.mono (dapp_any w1.heap.size w1.heap.size s os k _ ?_ ?_) ?_; exact H5.out.1; exact hfit; rintro e w6 ⟨rfl, hd, hf⟩; have H6 := Lib.hid (St.r2 H5.out HS.out.1 hd hf); clear hd hf)) | (go_at_call 9; first | (refine Calls.mono (rapp_any w2.heap.size s os k _ ?_ ?_) ?_; exact HQ.out.1.2.1; exact hfit; rintro e w5 ⟨rfl, hd, hf⟩; have H5 := Lib.hid (St.r1 HQ.out.1 HQ.out.2 HS.out.2 HS.out.1 hd hf.und1); have hb3 := (blk_cell H5.out.2.2.2 2).trans rfl; clear hd hf) | (refine Calls.mono (rapp_any w2.heap.size s os k _ ?_ ?_) ?_; exact H5.out.2.1; exact hfit; rintro e w6 ⟨rfl, hd, hf⟩; have H6 := Lib.hid (St.d2 H5.out HS.out.2 HS.out.1 hd hf); clear hd hf))))
                  all_goals
                    clear hb2 hb3
                    go_wp2_with fail
                    have hcl := (blk_cell H6.out.2.1 0).trans rfl
                    have hct := (blk_cell H6.out.2.1 1).trans rfl
                    go_quiet ((first | (go_at_call 15; exact Calls.quiet_of_same (bytes_q _ _ _ _ _ H6.out.1 _)) | (go_at_call 16; exact Calls.quiet_of_same (kept_q _ _ _ _ _ H6.out.1 _))))
                    go_wp2_with fail
                    go_roundw
                    case rel => exact ⟨j + 1, _, _, by omega, by go_num, H6.out.1, H6.out.2.1, H6.out.2.2.drewN _⟩
                    case measure => simp [intOf]; omega
                · have hb2 := (blk_cell HQ.out.2 2).trans rfl
                  go_wp2_with fail
                  go_quiet ((first | (go_at_call 8; exact Calls.quiet_of_same (dappf_q _ _ _ _ _ _ HQ.out.1.1 (by omega) (by omega) _)) | (go_at_call 9; exact Calls.quiet_of_same (rappf_q _ _ _ _ _ HQ.out.1.2.1 hks.out.2 (by omega) (by omega) _))))
                  go_wp2_with fail
                  clear hb2
                  have hcl := (blk_cell HQ.out.1.2.1 0).trans rfl
                  have hct := (blk_cell HQ.out.1.2.1 1).trans rfl
                  go_quiet ((first | (go_at_call 15; exact quiet_again (bytes_q _ _ _ _ _ HQ.out.1.1 _)) | (go_at_call 16; exact quiet_again (kept_q _ _ _ _ _ HQ.out.1.1 _))))
                  go_wp2_with fail
                  go_roundw
                  case rel => exact ⟨j + 1, _, _, by omega, by go_num, HQ.out.1.1, HQ.out.1.2.1, HQ.out.1.2.2.drewN _⟩
                  case measure => simp [intOf]; omega
              · go_wp2_with fail
                go_at_call 13
                refine (cut_any _ _ _ _ _ _ HQ.out.1.1).mono ?_
                rintro e w5 ⟨rfl, hd, hf⟩
                have H5 := Lib.hid (St.d1 HQ.out.1 HQ.out.2 HS.out.1 hd hf); clear hd hf
                have hb0 := (blk_cell H5.out.2.2.2 0).trans rfl
                have hb1 := (blk_cell H5.out.2.2.2 1).trans rfl
                have hb2 := (blk_cell H5.out.2.2.2 2).trans rfl
                go_wp2_with fail
                go_at_call 14
                refine (rcut_any _ _ _ _ _ H5.out.2.1 hks.out.2).mono ?_
                rintro e w6 ⟨rfl, hd, hf⟩
                have H6 := Lib.hid (St.d2 H5.out HS.out.2 HS.out.1 hd hf); clear hd hf hb0 hb1 hb2
                go_wp2_with fail
                have hcl := (blk_cell H6.out.2.1 0).trans rfl
                have hct := (blk_cell H6.out.2.1 1).trans rfl
                go_quiet ((first | (go_at_call 15; exact Calls.quiet_of_same (bytes_q _ _ _ _ _ H6.out.1 _)) | (go_at_call 16; exact Calls.quiet_of_same (kept_q _ _ _ _ _ H6.out.1 _))))
                go_wp2_with fail
                go_roundw
                case rel => exact ⟨j + 1, _, _, by omega, by go_num, H6.out.1, H6.out.2.1, H6.out.2.2.drewN _⟩
                case measure => simp [intOf]; omega
      · go_wp2_with fail
        go_ret
        exact ⟨rfl, HR.out.2.2⟩

end Go.Proofs.Ytnbimbcnfhninaa
