/- DiskKeeps, by a walk. -/
import Derived.Test.YtnbimbcnfhninaaDc
import Derived.Test.YtnbimbcnfhninaaRo
namespace Go.Proofs.Ytnbimbcnfhninaa
open Go.RowKit Go.Proofs.YtnbimbcnfhninaaW.PrintWords

theorem extract_extract (s : ByteArray) (k m : Nat) (h : k ≤ m) : (s.extract 0 m).extract 0 k = s.extract 0 k := by
  apply bytesOf_inj
  rw [bytesOf_extract, bytesOf_extract, bytesOf_extract, List.take_take, Nat.min_eq_left h]
theorem extract_join' (s t : ByteArray) (k : Nat) (h : k ≤ s.size) : (s ++ t).extract 0 k = s.extract 0 k := by
  apply bytesOf_inj
  rw [bytesOf_extract, bytesOf_extract, bytesOf_append, List.take_append_of_le_length (by rw [bytesOf_length]; exact h)]

set_option maxHeartbeats 1000000 in
theorem keeps_big (a : Option Addr) (n c : Nat) (w : World) (hn : 200 < n) (hm : n ≤ 9223372036854775807) :
    Calls Try.prog 4 #[.slice a n c] w fun e w' => e = .returned (.bool true) ∧ Fr (fun _ => False) w w' := by
  go_enter Try.func4, Try.ntmps4
  go_wp2_with fail
  go_at_call 6
  refine (awake_any _).mono ?_
  rintro e w1 ⟨rfl, hf1⟩
  go_wp2_with fail
  go_at_call 6
  refine (awake_any _).mono ?_
  rintro e w2 ⟨rfl, hf2⟩
  go_wp2_with fail
  go_ret
  exact ⟨rfl, hf1.trans hf2⟩

def Sk (w wr : World) (b : Nat) (s : ByteArray) (k : Nat) : Prop := IsD wr b b s k ∧ Fr (fun _ => False) w wr
def Bo (w : World) (p : Nat) (x y : Int) (s : ByteArray) : Prop := w.heap[p]? = some (.cells #[.int .i64 x, .int .i64 y, .string s] 30 (0, 0))
theorem Sk.boxed {w wr : World} {b : Nat} {s : ByteArray} {k : Nat} (h : Sk w wr b s k) (x y : Int) (t : ByteArray) : Sk w (wr.alloc (.cells #[.int .i64 x, .int .i64 y, .string t] 30)) b s k :=
  ⟨h.1.fr ((Fr.refl (fun _ => False) _).alloc _) (by simp), h.2.alloc _⟩
theorem Sk.step {w wr w' : World} {b : Nat} {s s' : ByteArray} {k k' : Nat} (h : Sk w wr b s k) (hw : w.heap.size ≤ b) (hd : IsD w' b b s' k') (hf : Fr (TD wr b b) wr w') : Sk w w' b s' k' :=
  ⟨hd, h.2.own hf (fun _ q => Nat.le_trans hw q.1)⟩
theorem Sk.size {w wr : World} {b : Nat} {s : ByteArray} {k : Nat} (h : Sk w wr b s k) : k ≤ s.size ∧ s.size ≤ 65536 := by
  obtain ⟨⟨v, h1, h2, h3, h4, h5⟩, _⟩ := h
  exact ⟨h4, h5⟩

set_option maxRecDepth 100000 in
set_option maxHeartbeats 4000000 in
theorem keeps_any (a : Option Addr) (n c : Nat) (xs : List Op3) (w : World) (hx : RdO w a n xs) :
    Calls Try.prog 4 #[.slice a n c] w fun e w' => e = .returned (.bool true) ∧ Fr (fun _ => False) w w' := by
  have hm : n ≤ 9223372036854775807 := by have := hx.2.1; unfold maxLen at this; exact this
  by_cases hn : 200 < n
  · exact keeps_big a n c w hn hm
  · have HX := Lib.hid hx; clear hx
    go_enter Try.func4, Try.ntmps4
    go_wp2_with fail
    go_at_call 6
    refine (awake_any _).mono ?_
    rintro e w1 ⟨rfl, hf1⟩
    have H1 := Lib.hid hf1; clear hf1
    go_wp2_with fail
    go_at_call 7
    refine (dnew_any _).mono ?_
    rintro e w2 ⟨rfl, hd, hz, hf⟩
    have HS : Hid (w.heap.size ≤ w1.heap.size) := Lib.hid H1.out.size
    have H2 : Hid (Sk w w2 w1.heap.size ByteArray.empty 0) := Lib.hid (And.intro hd (H1.out.trans hf)); clear hd hf hz
    go_wp2_with fail
    go_loopw [22] (fun i wr => ∃ (j : Nat) (s : ByteArray) (k : Nat), j ≤ n ∧ i = .int .i64 j ∧ Sk w wr w1.heap.size s k) (fun i _ => n - (intOf i).toNat)
    case atStart => exact ⟨0, _, 0, by omega, rfl, H2.out⟩
    case round =>
      obtain ⟨j, s, k, hj, rfl, hst⟩ := hrel
      have HR := Lib.hid hst; clear hst
      by_cases hlt : j < n
      · obtain ⟨ad, ea, hc0, hc1, hc2, hsz⟩ := (HX.out.fr HR.out.2).2.2 j hlt
        subst ea
        obtain ⟨oa, ob, os, eo⟩ : ∃ oa ob os, xs.getD j default = ⟨oa, ob, os⟩ := ⟨_, _, _, rfl⟩
        rw [eo] at hc0 hc1 hc2 hsz
        dsimp only at hc0 hc1 hc2 hsz
        clear eo
        have HQ := Lib.hid (HR.out.boxed oa ob os)
        have HB : Hid (Bo (wr.alloc (.cells #[.int .i64 oa, .int .i64 ob, .string os] 30)) wr.heap.size oa ob os) := Lib.hid (blk_new _ _)
        obtain ⟨hks, hs6⟩ := HR.out.size
        by_cases h2000 : 2000 < os.size
        · unfold maxLen at hsz
          go_wp2_with fail
          go_ret
          exact ⟨rfl, HQ.out.2⟩
        · clear hsz
          have hb0 := (blk_cell HB.out 0).trans rfl
          have hb1 := (blk_cell HB.out 1).trans rfl
          have hb2 := (blk_cell HB.out 2).trans rfl
          go_wp2_with fail
          go_at_call 15
          refine (bytes_any _ _ _ _ _ HQ.out.1).mono ?_
          rintro e w4 ⟨rfl, rfl⟩
          go_wp2_with fail
          go_at_call 16
          refine (kept_any _ _ _ _ _ HQ.out.1).mono ?_
          rintro e w4 ⟨rfl, rfl⟩
          by_cases k1 : oa = 1
          · subst k1
            by_cases hfit : s.size + os.size ≤ 65536
            · go_wp2_with fail
              go_at_call 8
              refine (dapp_any _ _ _ _ _ _ HQ.out.1 hfit).mono ?_
              rintro e w5 ⟨rfl, hd, hf⟩
              have H5 := Lib.hid (HQ.out.step HS.out hd hf); clear hd hf hb0 hb1 hb2
              have e1 := extract_join' s os k hks
              have e2 : (s ++ os).size = s.size + os.size := by simp
              have q1 : decide (s.size + os.size < k) = false := by simp; omega
              have q2 : decide ((s.size : Int) + (os.size : Int) < (k : Int)) = false := by simp; omega
              have q3 : k ≤ s.size + os.size := by omega
              go_wp2_with fail
              go_at_call 15
              refine (bytes_any _ _ _ _ _ H5.out.1).mono ?_
              rintro e w8 ⟨rfl, rfl⟩
              go_wp2_with fail
              go_quiet (fail)
              go_wp2_with fail
              go_roundw
              case rel => exact ⟨j + 1, _, _, by omega, by go_num, H5.out.1, H5.out.2.drewN _⟩
              case measure => simp [intOf]; omega
            · go_wp2_with fail
              go_at_call 8
              refine (dapp_full _ _ _ _ _ _ HQ.out.1 (by omega) (by omega)).mono ?_
              rintro e w5 ⟨rfl, rfl⟩
              have H5 := HQ; clear hb0 hb1 hb2
              have q1 : decide (s.size < k) = false := by simp; omega
              go_wp2_with fail
              go_at_call 15
              refine (bytes_any _ _ _ _ _ H5.out.1).mono ?_
              rintro e w8 ⟨rfl, rfl⟩
              go_wp2_with fail
              go_quiet (fail)
              go_wp2_with fail
              go_roundw
              case rel => exact ⟨j + 1, _, _, by omega, by go_num, H5.out.1, H5.out.2.drewN _⟩
              case measure => simp [intOf]; omega
          · by_cases k2 : oa = 2
            · subst k2
              go_wp2_with fail
              go_at_call 10
              refine (sync_any _ _ _ _ _ HQ.out.1).mono ?_
              rintro e w5 ⟨rfl, hd, hf⟩
              have H5 := Lib.hid (HQ.out.step HS.out hd hf); clear hd hf hb0 hb1 hb2
              have q1 : decide (s.size < k) = false := by simp; omega
              go_wp2_with fail
              go_at_call 15
              refine (bytes_any _ _ _ _ _ H5.out.1).mono ?_
              rintro e w8 ⟨rfl, rfl⟩
              go_wp2_with fail
              go_quiet (fail)
              go_wp2_with fail
              go_roundw
              case rel => exact ⟨j + 1, _, _, by omega, by go_num, H5.out.1, H5.out.2.drewN _⟩
              case measure => simp [intOf]; omega
            · go_wp2_with fail
              go_at_call 11
              refine (crash_any _ _ _ _ _ _ HQ.out.1).mono ?_
              rintro e w5 ⟨rfl, hd, hf⟩
              have H5 := Lib.hid (HQ.out.step HS.out hd hf); clear hd hf hb0 hb1 hb2
              obtain ⟨m1, m2⟩ := crashN_le ob k s.size hks
              have e1 := extract_extract s k _ m2
              have e2 : (s.extract 0 (crashN ob k s.size)).size = crashN ob k s.size := by simp; omega
              generalize crashN ob k s.size = m at *
              obtain ⟨t, e3⟩ : ∃ t, s.extract 0 m = t := ⟨_, rfl⟩
              rw [e3] at e1 e2 H5
              have q1 : decide (m < k) = false := by simp; omega
              go_wp2_with fail
              go_at_call 15
              refine (bytes_any _ _ _ _ _ H5.out.1).mono ?_
              rintro e w6 ⟨rfl, rfl⟩
              go_wp2_with fail
              go_at_call 16
              refine (kept_any _ _ _ _ _ H5.out.1).mono ?_
              rintro e w6 ⟨rfl, rfl⟩
              go_wp2_with fail
              go_at_call 15
              refine (bytes_any _ _ _ _ _ H5.out.1).mono ?_
              rintro e w8 ⟨rfl, rfl⟩
              go_wp2_with fail
              go_quiet (fail)
              go_wp2_with fail
              go_roundw
              case rel => exact ⟨j + 1, _, _, by omega, by go_num, H5.out.1, H5.out.2.drewN _⟩
              case measure => simp [intOf]; omega
      · go_wp2_with fail
        go_at_call 10
        refine (sync_nil _).mono ?_
        rintro e w4 ⟨rfl, rfl⟩
        go_wp2_with fail
        go_at_call 11
        refine (crash_nil _ _).mono ?_
        rintro e w4 ⟨rfl, rfl⟩
        go_wp2_with fail
        go_at_call 13
        refine (cut_nil _ _).mono ?_
        rintro e w4 ⟨rfl, rfl⟩
        go_wp2_with fail
        go_at_call 8
        refine (dapp_nil _ _).mono ?_
        rintro e w4 ⟨rfl, rfl⟩
        go_wp2_with fail
        go_at_call 15
        refine (bytes_nil _).mono ?_
        rintro e w4 ⟨rfl, rfl⟩
        go_wp2_with fail
        go_at_call 16
        refine (kept_nil _).mono ?_
        rintro e w4 ⟨rfl, rfl⟩
        go_wp2_with fail
        go_ret
        exact ⟨rfl, HR.out.2⟩

end Go.Proofs.Ytnbimbcnfhninaa
