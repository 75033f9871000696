/- HashOrder, by a walk. -/
import Derived.Test.YtmkafeknhnpkaaaHp
import Derived.Test.YtmkafeknhnpkaaaHt
namespace Go.Proofs.Ytmkafeknhnpkaaa
open Go.RowKit Go.Proofs.Ytmkafeknhnpkaaa.PHashTells Go.Proofs.YtmkafeknhnpkaaaW.PrintWords

theorem rd_mem (L : List Int) (k : Nat) (h : k < L.length) : rd L k ∈ L := by
  have e : rd L k = L[k] := by simp [rd, List.getD_eq_getElem?_getD, List.getElem?_eq_getElem h]
  rw [e]
  exact List.getElem_mem h
theorem set_back (L : List Int) (k : Nat) (z : Int) (h : k < L.length) : (L.set k z).set k (rd L k) = L := by
  have e : rd L k = L[k] := by simp [rd, List.getD_eq_getElem?_getD, List.getElem?_eq_getElem h]
  rw [List.set_set, e, List.set_getElem_self]
theorem own_one (W : World) (x : Int) : (Kd.int .i64).R 3 (W.alloc (.cells #[.int .i64 x] 3)) W.heap.size (fun _ => True) (.slice (some ⟨W.heap.size, 0, none⟩) 1 1) [x] :=
  ⟨fun _ _ => trivial, [.int .i64 x], World.ownsRow_lit (base := W.heap.size) (e := 3) (size := 1) W #[.int .i64 x] 1 (Nat.le_refl _) (by decide) rfl, Reps.one (show Kd.M (Kd.int .i64) _ _ _ x [.int .i64 x] from rfl) (Reps.none _ _)⟩
theorem row_at {W : World} {base g n cap : Nat} {xs : List Int} (h : (Kd.int .i64).R 3 W base (fun _ => True) (.slice (some ⟨g, 0, none⟩) n cap) xs) (i : Nat) (hi : i < n) : W.cell? ⟨g, i, none⟩ = some (.int .i64 (rd xs i)) ∧ W.frozen? ⟨g, i, none⟩ = false :=
  Kd.R_celln (0 : Int) h (i : Int) (by omega) (by omega)
theorem row_put {W : World} {base g n cap : Nat} {xs : List Int} (h : (Kd.int .i64).R 3 W base (fun _ => True) (.slice (some ⟨g, 0, none⟩) n cap) xs) (i : Nat) (x : Int) : (Kd.int .i64).R 3 (W.setCell ⟨g, i, none⟩ (.int .i64 x)) base (fun _ => True) (.slice (some ⟨g, 0, none⟩) n cap) (xs.set i x) :=
  Kd.R_putn h (i : Int) x

set_option maxRecDepth 100000 in
set_option maxHeartbeats 4000000 in
theorem order_any (seed a b c : Int) (A : Option Addr) (n cap : Nat) (xs : List Int) (w : World) (hxc : RdC w A n cap xs) :
    Calls Try.prog 4 #[.int .u64 seed, .int .i64 a, .int .i64 b, .int .i64 c, .slice A n cap] w fun e w' => e = .returned (.bool true) ∧ Fr (fun _ => False) w w' := by
  obtain ⟨hx, hcap⟩ := hxc
  have hm1 : n ≤ 9223372036854775807 := by have := hx.2.1; unfold maxLen at this; exact this
  have HX := Lib.hid hx
  have HCAP := Lib.hid hcap
  have HN : Hid (xs.length = n) := Lib.hid hx.1
  clear hcap hx
  by_cases h2 : 100 < n
  · go_enter Try.func4, Try.ntmps4
    go_wp2_with fail
    go_at_call 7
    refine (awake_any _).mono ?_
    rintro e w1 ⟨rfl, hf1⟩
    go_wp2_with fail
    go_at_call 7
    refine (awake_any _).mono ?_
    rintro e w2 ⟨rfl, hf2⟩
    go_wp2_with fail
    go_ret
    exact ⟨rfl, hf1.trans hf2⟩
  · go_enter Try.func4, Try.ntmps4
    go_wp2_with fail
    generalize bits .and .i64 a 4294967295 = a' at *
    generalize bits .and .i64 b 4294967295 = b' at *
    generalize bits .and .i64 c 4294967295 = c' at *
    go_at_call 7
    refine (awake_any _).mono ?_
    rintro e w1 ⟨rfl, hf⟩
    have H1 := Lib.hid hf; clear hf
    go_wp2_with fail
    go_at_call 16
    refine (less_any _ _ _ _).mono ?_
    rintro e w2 ⟨rfl, hf⟩
    have H2 := Lib.hid (H1.out.trans hf); clear hf
    go_wp2_with fail
    go_at_call 16
    refine (less_any _ _ _ _).mono ?_
    rintro e w3 ⟨rfl, hf⟩
    have H3 := Lib.hid (H2.out.trans hf); clear hf
    go_wp2_with fail
    go_at_call 16
    refine (less_any _ _ _ _).mono ?_
    rintro e w4 ⟨rfl, hf⟩
    have H4 := Lib.hid (H3.out.trans hf); clear hf
    have hcase : (wless seed a' b' = true ∧ wless seed b' a' = false ∧ a' ≠ b' ∧ (wless seed b' c' = false ∨ wless seed b' c' = true ∧ wless seed a' c' = true)) ∨ (wless seed a' b' = false ∧ (a' = b' ∨ a' ≠ b' ∧ wless seed b' a' = true)) := by
      by_cases hX : wless seed a' b' = true
      · refine .inl ⟨hX, wl_asym _ _ _ hX, (fun e => by rw [e, wless_irr] at hX; cases hX), ?_⟩
        by_cases hY : wless seed b' c' = true
        · exact .inr ⟨hY, wl_trans _ _ _ _ hX hY⟩
        · exact .inl (by simpa using hY)
      · have hXf : wless seed a' b' = false := by simpa using hX
        refine .inr ⟨hXf, ?_⟩
        by_cases e : a' = b'
        · exact .inl e
        · exact .inr ⟨e, wl_total _ _ _ e hXf⟩
    have HAA := Lib.hid (wless_irr seed a')
    rcases hcase with ⟨hX, hBA, hne, hY | ⟨hY, hZ⟩⟩ | ⟨hX, heq | ⟨hne, hBA⟩⟩
    · rw [hX, hY]
      have HBA := Lib.hid hBA
      clear hX hY hBA
      generalize wless seed a' c' = Z at *
      go_wp2_with fail
      go_at_call 16
      refine (less_any _ _ _ _).mono ?_
      rw [HBA.out]
      rintro e w5 ⟨rfl, hf⟩
      have H5 := Lib.hid (H4.out.trans hf); clear hf
      go_wp2_with fail
      go_at_call 16
      refine (less_any _ _ _ _).mono ?_
      rw [HAA.out]
      rintro e w6 ⟨rfl, hf⟩
      have H6 := Lib.hid (H5.out.trans hf); clear hf
      have hc2 := HX.out.row (H6.out.alloc (.cells #[.int .i64 a'] 3))
      rw [HN.out] at hc2
      have HC2 := Lib.hid hc2; clear hc2
      have HSS : Hid (w6.heap.size ≤ (w6.alloc (.cells #[.int .i64 a'] 3)).heap.size ∧ (1 + n) * 8 ≤ 140737488355328) := Lib.hid ⟨by simp, by omega⟩
      go_wp2_with (at_builtin; refine append_ints w6.heap.size ?hw (.tmp 84) (.tmp 85) rfl (.slice (some ⟨w6.heap.size, 0, none⟩) 1 1) [a'] xs A n cap rfl rfl (own_one w6 a') HC2.out HSS.out.1 HSS.out.2 ?_; (case hw => rfl); intro A8 c8 w8 hr8 hc8 hl8 hf8; have H8 := Lib.hid (And.intro hr8 (And.intro hc8 (And.intro hl8 hf8))); clear hr8 hc8 hl8 hf8)
      obtain ⟨g, cap8, hv, hg0, hg1, cells, hgc⟩ := Kd.R_form H8.out.1 (by simp)
      injection hv with hv1 hv2 hv3
      subst hv1
      subst hv3
      clear hgc hv2
      have hle : ([a'] ++ xs).length = xs.length + 1 := by simp
      have hmem := fun y (hy : y ∈ [a'] ++ xs) => least_le seed ([a'] ++ xs) y hy
      have hml := least_any seed (some ⟨g, 0, none⟩) c8 ([a'] ++ xs) w8 H8.out.2.1 (by rw [hle]; have := HN.out; omega)
      have hrow := H8.out.1
      rw [hle] at hml hrow
      generalize [a'] ++ xs = L at *
      go_at_call 14
      refine hml.mono ?_
      obtain ⟨mi, hmi⟩ : ∃ mi, mi = least seed L := ⟨_, rfl⟩
      rw [← hmi]
      rw [← hmi] at hmem
      rintro e w9 ⟨rfl, hf⟩
      have hf8 : Fr (fun _ => False) w w8 := (H6.out.alloc (.cells #[.int .i64 a'] 3)).own H8.out.2.2.2 (fun i e => by
        have e2 : w6.heap.size = i := by simpa [Value.ownBlock] using e.symm
        rw [← e2]; exact H6.out.size)
      have H9 := Lib.hid (And.intro (Kd.R_below hrow hf.bel) (hf8.trans hf))
      have HG : Hid (w.heap.size ≤ g) := Lib.hid (Nat.le_trans H6.out.size hg0)
      have hN : xs.length + 1 ≤ 101 := by have := HN.out; omega
      generalize xs.length + 1 = N at *
      have HM := Lib.hid (And.intro hmem (And.intro hmi hle))
      clear hf8 hf hmem hmi hle hrow hg0 hg1
      go_wp2_with fail
      go_loopw [92] (fun i wr => ∃ (k : Nat), k ≤ N ∧ i = .int .i64 k ∧ (Kd.int .i64).R 3 wr w6.heap.size (fun _ => True) (.slice (some ⟨g, 0, none⟩) N c8) L ∧ Fr (fun _ => False) w wr) (fun i _ => N - (intOf i).toNat)
      case atStart => exact ⟨0, by omega, rfl, H9.out.1, H9.out.2⟩
      case round =>
        obtain ⟨k, hk, rfl, hr, hf⟩ := hrel
        have HR := Lib.hid (And.intro hr hf); clear hr hf
        by_cases hlt : k < N
        · obtain ⟨hkc, hkf⟩ := row_at HR.out.1 k hlt
          obtain ⟨hlc, hlf⟩ := row_at HR.out.1 (N - 1) (by omega)
          obtain ⟨y, hy⟩ : ∃ y, y = rd L k := ⟨_, rfl⟩
          obtain ⟨z, hz⟩ : ∃ z, z = rd L (N - 1 : Nat) := ⟨_, rfl⟩
          rw [← hy] at hkc
          rw [← hz] at hlc
          have HY := Lib.hid (And.intro hy hz); clear hy hz
          have hnn : ((N : Int) - 1).toNat = N - 1 := by omega
          have hback : (L.set k z).set k y = L := by rw [HY.out.1]; exact set_back L k z (by rw [HM.out.2.2]; exact hlt)
          have hin : wless seed y mi = false := HM.out.1 y (by rw [HY.out.1]; exact rd_mem L k (by rw [HM.out.2.2]; exact hlt))
          have HB := Lib.hid hback; clear hback
          have hR1 := row_put HR.out.1 k z
          have hF1 : Fr (fun _ => False) w (wr.setCell ⟨g, k, none⟩ (.int .i64 z)) := HR.out.2.setCell (.inr HG.out) _
          have H10 := Lib.hid (And.intro hR1 hF1); clear hR1 hF1
          by_cases hym : y = mi
          · subst hym
            go_wp2_with fail
            go_roundw
            case rel =>
              have hR2 := row_put H10.out.1 k y
              rw [HB.out] at hR2
              exact ⟨k + 1, by omega, by go_num, hR2, H10.out.2.setCell (.inr HG.out) _⟩
            case measure => simp [intOf]; omega
          · have hwt := wl_total seed y mi hym hin
            go_wp2_with fail
            go_at_call 16
            refine (less_any _ _ _ _).mono ?_
            rw [hwt]
            rintro e w11 ⟨rfl, hf⟩
            have hR3 := Kd.R_below H10.out.1 hf.bel
            obtain ⟨hkc3, hkf3⟩ := row_at hR3 k hlt
            have H11 := Lib.hid (And.intro hR3 (H10.out.2.trans hf)); clear hf hR3
            go_wp2_with fail
            go_roundw
            case rel =>
              have hR2 := row_put H11.out.1 k y
              rw [HB.out] at hR2
              exact ⟨k + 1, by omega, by go_num, hR2, H11.out.2.setCell (.inr HG.out) _⟩
            case measure => simp [intOf]; omega
        · go_wp2_with fail
          go_ret
          exact ⟨rfl, HR.out.2⟩
    · rw [hX, hY, hZ]
      have HBA := Lib.hid hBA
      clear hX hY hBA hZ
      go_wp2_with fail
      go_at_call 16
      refine (less_any _ _ _ _).mono ?_
      rw [HBA.out]
      rintro e w5 ⟨rfl, hf⟩
      have H5 := Lib.hid (H4.out.trans hf); clear hf
      go_wp2_with fail
      go_at_call 16
      refine (less_any _ _ _ _).mono ?_
      rw [HAA.out]
      rintro e w6 ⟨rfl, hf⟩
      have H6 := Lib.hid (H5.out.trans hf); clear hf
      have hc2 := HX.out.row (H6.out.alloc (.cells #[.int .i64 a'] 3))
      rw [HN.out] at hc2
      have HC2 := Lib.hid hc2; clear hc2
      have HSS : Hid (w6.heap.size ≤ (w6.alloc (.cells #[.int .i64 a'] 3)).heap.size ∧ (1 + n) * 8 ≤ 140737488355328) := Lib.hid ⟨by simp, by omega⟩
      go_wp2_with (at_builtin; refine append_ints w6.heap.size ?hw (.tmp 84) (.tmp 85) rfl (.slice (some ⟨w6.heap.size, 0, none⟩) 1 1) [a'] xs A n cap rfl rfl (own_one w6 a') HC2.out HSS.out.1 HSS.out.2 ?_; (case hw => rfl); intro A8 c8 w8 hr8 hc8 hl8 hf8; have H8 := Lib.hid (And.intro hr8 (And.intro hc8 (And.intro hl8 hf8))); clear hr8 hc8 hl8 hf8)
      obtain ⟨g, cap8, hv, hg0, hg1, cells, hgc⟩ := Kd.R_form H8.out.1 (by simp)
      injection hv with hv1 hv2 hv3
      subst hv1
      subst hv3
      clear hgc hv2
      have hle : ([a'] ++ xs).length = xs.length + 1 := by simp
      have hmem := fun y (hy : y ∈ [a'] ++ xs) => least_le seed ([a'] ++ xs) y hy
      have hml := least_any seed (some ⟨g, 0, none⟩) c8 ([a'] ++ xs) w8 H8.out.2.1 (by rw [hle]; have := HN.out; omega)
      have hrow := H8.out.1
      rw [hle] at hml hrow
      generalize [a'] ++ xs = L at *
      go_at_call 14
      refine hml.mono ?_
      obtain ⟨mi, hmi⟩ : ∃ mi, mi = least seed L := ⟨_, rfl⟩
      rw [← hmi]
      rw [← hmi] at hmem
      rintro e w9 ⟨rfl, hf⟩
      have hf8 : Fr (fun _ => False) w w8 := (H6.out.alloc (.cells #[.int .i64 a'] 3)).own H8.out.2.2.2 (fun i e => by
        have e2 : w6.heap.size = i := by simpa [Value.ownBlock] using e.symm
        rw [← e2]; exact H6.out.size)
      have H9 := Lib.hid (And.intro (Kd.R_below hrow hf.bel) (hf8.trans hf))
      have HG : Hid (w.heap.size ≤ g) := Lib.hid (Nat.le_trans H6.out.size hg0)
      have hN : xs.length + 1 ≤ 101 := by have := HN.out; omega
      generalize xs.length + 1 = N at *
      have HM := Lib.hid (And.intro hmem (And.intro hmi hle))
      clear hf8 hf hmem hmi hle hrow hg0 hg1
      go_wp2_with fail
      go_loopw [92] (fun i wr => ∃ (k : Nat), k ≤ N ∧ i = .int .i64 k ∧ (Kd.int .i64).R 3 wr w6.heap.size (fun _ => True) (.slice (some ⟨g, 0, none⟩) N c8) L ∧ Fr (fun _ => False) w wr) (fun i _ => N - (intOf i).toNat)
      case atStart => exact ⟨0, by omega, rfl, H9.out.1, H9.out.2⟩
      case round =>
        obtain ⟨k, hk, rfl, hr, hf⟩ := hrel
        have HR := Lib.hid (And.intro hr hf); clear hr hf
        by_cases hlt : k < N
        · obtain ⟨hkc, hkf⟩ := row_at HR.out.1 k hlt
          obtain ⟨hlc, hlf⟩ := row_at HR.out.1 (N - 1) (by omega)
          obtain ⟨y, hy⟩ : ∃ y, y = rd L k := ⟨_, rfl⟩
          obtain ⟨z, hz⟩ : ∃ z, z = rd L (N - 1 : Nat) := ⟨_, rfl⟩
          rw [← hy] at hkc
          rw [← hz] at hlc
          have HY := Lib.hid (And.intro hy hz); clear hy hz
          have hnn : ((N : Int) - 1).toNat = N - 1 := by omega
          have hback : (L.set k z).set k y = L := by rw [HY.out.1]; exact set_back L k z (by rw [HM.out.2.2]; exact hlt)
          have hin : wless seed y mi = false := HM.out.1 y (by rw [HY.out.1]; exact rd_mem L k (by rw [HM.out.2.2]; exact hlt))
          have HB := Lib.hid hback; clear hback
          have hR1 := row_put HR.out.1 k z
          have hF1 : Fr (fun _ => False) w (wr.setCell ⟨g, k, none⟩ (.int .i64 z)) := HR.out.2.setCell (.inr HG.out) _
          have H10 := Lib.hid (And.intro hR1 hF1); clear hR1 hF1
          by_cases hym : y = mi
          · subst hym
            go_wp2_with fail
            go_roundw
            case rel =>
              have hR2 := row_put H10.out.1 k y
              rw [HB.out] at hR2
              exact ⟨k + 1, by omega, by go_num, hR2, H10.out.2.setCell (.inr HG.out) _⟩
            case measure => simp [intOf]; omega
          · have hwt := wl_total seed y mi hym hin
            go_wp2_with fail
            go_at_call 16
            refine (less_any _ _ _ _).mono ?_
            rw [hwt]
            rintro e w11 ⟨rfl, hf⟩
            have hR3 := Kd.R_below H10.out.1 hf.bel
            obtain ⟨hkc3, hkf3⟩ := row_at hR3 k hlt
            have H11 := Lib.hid (And.intro hR3 (H10.out.2.trans hf)); clear hf hR3
            go_wp2_with fail
            go_roundw
            case rel =>
              have hR2 := row_put H11.out.1 k y
              rw [HB.out] at hR2
              exact ⟨k + 1, by omega, by go_num, hR2, H11.out.2.setCell (.inr HG.out) _⟩
            case measure => simp [intOf]; omega
        · go_wp2_with fail
          go_ret
          exact ⟨rfl, HR.out.2⟩
    · rw [hX]
      clear hX
      generalize wless seed a' c' = Z at *
      generalize wless seed b' c' = Y at *
      subst heq
      go_wp2_with fail
      go_at_call 16
      refine (less_any _ _ _ _).mono ?_
      rw [HAA.out]
      rintro e w6 ⟨rfl, hf⟩
      have H6 := Lib.hid (H4.out.trans hf); clear hf
      have hc2 := HX.out.row (H6.out.alloc (.cells #[.int .i64 a'] 3))
      rw [HN.out] at hc2
      have HC2 := Lib.hid hc2; clear hc2
      have HSS : Hid (w6.heap.size ≤ (w6.alloc (.cells #[.int .i64 a'] 3)).heap.size ∧ (1 + n) * 8 ≤ 140737488355328) := Lib.hid ⟨by simp, by omega⟩
      go_wp2_with (at_builtin; refine append_ints w6.heap.size ?hw (.tmp 84) (.tmp 85) rfl (.slice (some ⟨w6.heap.size, 0, none⟩) 1 1) [a'] xs A n cap rfl rfl (own_one w6 a') HC2.out HSS.out.1 HSS.out.2 ?_; (case hw => rfl); intro A8 c8 w8 hr8 hc8 hl8 hf8; have H8 := Lib.hid (And.intro hr8 (And.intro hc8 (And.intro hl8 hf8))); clear hr8 hc8 hl8 hf8)
      obtain ⟨g, cap8, hv, hg0, hg1, cells, hgc⟩ := Kd.R_form H8.out.1 (by simp)
      injection hv with hv1 hv2 hv3
      subst hv1
      subst hv3
      clear hgc hv2
      have hle : ([a'] ++ xs).length = xs.length + 1 := by simp
      have hmem := fun y (hy : y ∈ [a'] ++ xs) => least_le seed ([a'] ++ xs) y hy
      have hml := least_any seed (some ⟨g, 0, none⟩) c8 ([a'] ++ xs) w8 H8.out.2.1 (by rw [hle]; have := HN.out; omega)
      have hrow := H8.out.1
      rw [hle] at hml hrow
      generalize [a'] ++ xs = L at *
      go_at_call 14
      refine hml.mono ?_
      obtain ⟨mi, hmi⟩ : ∃ mi, mi = least seed L := ⟨_, rfl⟩
      rw [← hmi]
      rw [← hmi] at hmem
      rintro e w9 ⟨rfl, hf⟩
      have hf8 : Fr (fun _ => False) w w8 := (H6.out.alloc (.cells #[.int .i64 a'] 3)).own H8.out.2.2.2 (fun i e => by
        have e2 : w6.heap.size = i := by simpa [Value.ownBlock] using e.symm
        rw [← e2]; exact H6.out.size)
      have H9 := Lib.hid (And.intro (Kd.R_below hrow hf.bel) (hf8.trans hf))
      have HG : Hid (w.heap.size ≤ g) := Lib.hid (Nat.le_trans H6.out.size hg0)
      have hN : xs.length + 1 ≤ 101 := by have := HN.out; omega
      generalize xs.length + 1 = N at *
      have HM := Lib.hid (And.intro hmem (And.intro hmi hle))
      clear hf8 hf hmem hmi hle hrow hg0 hg1
      go_wp2_with fail
      go_loopw [92] (fun i wr => ∃ (k : Nat), k ≤ N ∧ i = .int .i64 k ∧ (Kd.int .i64).R 3 wr w6.heap.size (fun _ => True) (.slice (some ⟨g, 0, none⟩) N c8) L ∧ Fr (fun _ => False) w wr) (fun i _ => N - (intOf i).toNat)
      case atStart => exact ⟨0, by omega, rfl, H9.out.1, H9.out.2⟩
      case round =>
        obtain ⟨k, hk, rfl, hr, hf⟩ := hrel
        have HR := Lib.hid (And.intro hr hf); clear hr hf
        by_cases hlt : k < N
        · obtain ⟨hkc, hkf⟩ := row_at HR.out.1 k hlt
          obtain ⟨hlc, hlf⟩ := row_at HR.out.1 (N - 1) (by omega)
          obtain ⟨y, hy⟩ : ∃ y, y = rd L k := ⟨_, rfl⟩
          obtain ⟨z, hz⟩ : ∃ z, z = rd L (N - 1 : Nat) := ⟨_, rfl⟩
          rw [← hy] at hkc
          rw [← hz] at hlc
          have HY := Lib.hid (And.intro hy hz); clear hy hz
          have hnn : ((N : Int) - 1).toNat = N - 1 := by omega
          have hback : (L.set k z).set k y = L := by rw [HY.out.1]; exact set_back L k z (by rw [HM.out.2.2]; exact hlt)
          have hin : wless seed y mi = false := HM.out.1 y (by rw [HY.out.1]; exact rd_mem L k (by rw [HM.out.2.2]; exact hlt))
          have HB := Lib.hid hback; clear hback
          have hR1 := row_put HR.out.1 k z
          have hF1 : Fr (fun _ => False) w (wr.setCell ⟨g, k, none⟩ (.int .i64 z)) := HR.out.2.setCell (.inr HG.out) _
          have H10 := Lib.hid (And.intro hR1 hF1); clear hR1 hF1
          by_cases hym : y = mi
          · subst hym
            go_wp2_with fail
            go_roundw
            case rel =>
              have hR2 := row_put H10.out.1 k y
              rw [HB.out] at hR2
              exact ⟨k + 1, by omega, by go_num, hR2, H10.out.2.setCell (.inr HG.out) _⟩
            case measure => simp [intOf]; omega
          · have hwt := wl_total seed y mi hym hin
            go_wp2_with fail
            go_at_call 16
            refine (less_any _ _ _ _).mono ?_
            rw [hwt]
            rintro e w11 ⟨rfl, hf⟩
            have hR3 := Kd.R_below H10.out.1 hf.bel
            obtain ⟨hkc3, hkf3⟩ := row_at hR3 k hlt
            have H11 := Lib.hid (And.intro hR3 (H10.out.2.trans hf)); clear hf hR3
            go_wp2_with fail
            go_roundw
            case rel =>
              have hR2 := row_put H11.out.1 k y
              rw [HB.out] at hR2
              exact ⟨k + 1, by omega, by go_num, hR2, H11.out.2.setCell (.inr HG.out) _⟩
            case measure => simp [intOf]; omega
        · go_wp2_with fail
          go_ret
          exact ⟨rfl, HR.out.2⟩
    · rw [hX]
      have HBA := Lib.hid hBA
      clear hX hBA
      generalize wless seed a' c' = Z at *
      generalize wless seed b' c' = Y at *
      go_wp2_with fail
      go_at_call 16
      refine (less_any _ _ _ _).mono ?_
      rw [HBA.out]
      rintro e w5 ⟨rfl, hf⟩
      have H5 := Lib.hid (H4.out.trans hf); clear hf
      go_wp2_with fail
      go_at_call 16
      refine (less_any _ _ _ _).mono ?_
      rw [HAA.out]
      rintro e w6 ⟨rfl, hf⟩
      have H6 := Lib.hid (H5.out.trans hf); clear hf
      have hc2 := HX.out.row (H6.out.alloc (.cells #[.int .i64 a'] 3))
      rw [HN.out] at hc2
      have HC2 := Lib.hid hc2; clear hc2
      have HSS : Hid (w6.heap.size ≤ (w6.alloc (.cells #[.int .i64 a'] 3)).heap.size ∧ (1 + n) * 8 ≤ 140737488355328) := Lib.hid ⟨by simp, by omega⟩
      go_wp2_with (at_builtin; refine append_ints w6.heap.size ?hw (.tmp 84) (.tmp 85) rfl (.slice (some ⟨w6.heap.size, 0, none⟩) 1 1) [a'] xs A n cap rfl rfl (own_one w6 a') HC2.out HSS.out.1 HSS.out.2 ?_; (case hw => rfl); intro A8 c8 w8 hr8 hc8 hl8 hf8; have H8 := Lib.hid (And.intro hr8 (And.intro hc8 (And.intro hl8 hf8))); clear hr8 hc8 hl8 hf8)
      obtain ⟨g, cap8, hv, hg0, hg1, cells, hgc⟩ := Kd.R_form H8.out.1 (by simp)
      injection hv with hv1 hv2 hv3
      subst hv1
      subst hv3
      clear hgc hv2
      have hle : ([a'] ++ xs).length = xs.length + 1 := by simp
      have hmem := fun y (hy : y ∈ [a'] ++ xs) => least_le seed ([a'] ++ xs) y hy
      have hml := least_any seed (some ⟨g, 0, none⟩) c8 ([a'] ++ xs) w8 H8.out.2.1 (by rw [hle]; have := HN.out; omega)
      have hrow := H8.out.1
      rw [hle] at hml hrow
      generalize [a'] ++ xs = L at *
      go_at_call 14
      refine hml.mono ?_
      obtain ⟨mi, hmi⟩ : ∃ mi, mi = least seed L := ⟨_, rfl⟩
      rw [← hmi]
      rw [← hmi] at hmem
      rintro e w9 ⟨rfl, hf⟩
      have hf8 : Fr (fun _ => False) w w8 := (H6.out.alloc (.cells #[.int .i64 a'] 3)).own H8.out.2.2.2 (fun i e => by
        have e2 : w6.heap.size = i := by simpa [Value.ownBlock] using e.symm
        rw [← e2]; exact H6.out.size)
      have H9 := Lib.hid (And.intro (Kd.R_below hrow hf.bel) (hf8.trans hf))
      have HG : Hid (w.heap.size ≤ g) := Lib.hid (Nat.le_trans H6.out.size hg0)
      have hN : xs.length + 1 ≤ 101 := by have := HN.out; omega
      generalize xs.length + 1 = N at *
      have HM := Lib.hid (And.intro hmem (And.intro hmi hle))
      clear hf8 hf hmem hmi hle hrow hg0 hg1
      go_wp2_with fail
      go_loopw [92] (fun i wr => ∃ (k : Nat), k ≤ N ∧ i = .int .i64 k ∧ (Kd.int .i64).R 3 wr w6.heap.size (fun _ => True) (.slice (some ⟨g, 0, none⟩) N c8) L ∧ Fr (fun _ => False) w wr) (fun i _ => N - (intOf i).toNat)
      case atStart => exact ⟨0, by omega, rfl, H9.out.1, H9.out.2⟩
      case round =>
        obtain ⟨k, hk, rfl, hr, hf⟩ := hrel
        have HR := Lib.hid (And.intro hr hf); clear hr hf
        by_cases hlt : k < N
        · obtain ⟨hkc, hkf⟩ := row_at HR.out.1 k hlt
          obtain ⟨hlc, hlf⟩ := row_at HR.out.1 (N - 1) (by omega)
          obtain ⟨y, hy⟩ : ∃ y, y = rd L k := ⟨_, rfl⟩
          obtain ⟨z, hz⟩ : ∃ z, z = rd L (N - 1 : Nat) := ⟨_, rfl⟩
          rw [← hy] at hkc
          rw [← hz] at hlc
          have HY := Lib.hid (And.intro hy hz); clear hy hz
          have hnn : ((N : Int) - 1).toNat = N - 1 := by omega
          have hback : (L.set k z).set k y = L := by rw [HY.out.1]; exact set_back L k z (by rw [HM.out.2.2]; exact hlt)
          have hin : wless seed y mi = false := HM.out.1 y (by rw [HY.out.1]; exact rd_mem L k (by rw [HM.out.2.2]; exact hlt))
          have HB := Lib.hid hback; clear hback
          have hR1 := row_put HR.out.1 k z
          have hF1 : Fr (fun _ => False) w (wr.setCell ⟨g, k, none⟩ (.int .i64 z)) := HR.out.2.setCell (.inr HG.out) _
          have H10 := Lib.hid (And.intro hR1 hF1); clear hR1 hF1
          by_cases hym : y = mi
          · subst hym
            go_wp2_with fail
            go_roundw
            case rel =>
              have hR2 := row_put H10.out.1 k y
              rw [HB.out] at hR2
              exact ⟨k + 1, by omega, by go_num, hR2, H10.out.2.setCell (.inr HG.out) _⟩
            case measure => simp [intOf]; omega
          · have hwt := wl_total seed y mi hym hin
            go_wp2_with fail
            go_at_call 16
            refine (less_any _ _ _ _).mono ?_
            rw [hwt]
            rintro e w11 ⟨rfl, hf⟩
            have hR3 := Kd.R_below H10.out.1 hf.bel
            obtain ⟨hkc3, hkf3⟩ := row_at hR3 k hlt
            have H11 := Lib.hid (And.intro hR3 (H10.out.2.trans hf)); clear hf hR3
            go_wp2_with fail
            go_roundw
            case rel =>
              have hR2 := row_put H11.out.1 k y
              rw [HB.out] at hR2
              exact ⟨k + 1, by omega, by go_num, hR2, H11.out.2.setCell (.inr HG.out) _⟩
            case measure => simp [intOf]; omega
        · go_wp2_with fail
          go_ret
          exact ⟨rfl, HR.out.2⟩

end Go.Proofs.Ytmkafeknhnpkaaa
