-- PRINTED BY print.sh 35421559b90ae4d0a3588c463048766b98c2df88dd9212a6774a882060cdf62d: not written by this session
import Derived.Test.YtlnafmibopkilaaDoorPQuotex0
import Derived.Test.YtlnafmibopkilaaDoorPQuotex2
namespace Go.Proofs.YtlnafmibopkilaaDoor.PQuote
open Go.RowKit Go.Proofs.YtlnafmibopkilaaDoorW.PrintWords Go.Proofs.YtlnafmibopkilaaDoorW.PrintLast Go.Proofs.YtlnafmibopkilaaDoorW.PrintMore
attribute [local go_sem] max2_int min2_int max_two min_two max_three min_three max_four min_four   -- for this text's walks alone
set_option linter.unusedVariables false
set_option linter.unusedSimpArgs false

/-! ### spoorref01_hex: function 39 -/
def spoorref01_hex.f : Nat → Int → Option (ByteArray)
  | 0, _ => none
  | k + 1, a0 => if a0 < 16 then (if 0 ≤ a0 then (if a0 ≤ (wrap64 (a0 + 1)) then (if (wrap64 (a0 + 1)) ≤ 16 then (some ((⟨#[48, 49, 50, 51, 52, 53, 54, 55, 56, 57, 97, 98, 99, 100, 101, 102]⟩ : ByteArray).extract (a0 : Int).toNat ((wrap64 (a0 + 1)) : Int).toNat)) else (none)) else (none)) else (none)) else ((spoorref01_hex.f k (wrap64 (Int.tdiv a0 16))).bind fun t109 => (if 0 ≤ (Int.tmod a0 16) then (if (Int.tmod a0 16) ≤ (wrap64 ((Int.tmod a0 16) + 1)) then (if (wrap64 ((Int.tmod a0 16) + 1)) ≤ 16 then (if t109.size + ((⟨#[48, 49, 50, 51, 52, 53, 54, 55, 56, 57, 97, 98, 99, 100, 101, 102]⟩ : ByteArray).extract ((Int.tmod a0 16) : Int).toNat ((wrap64 ((Int.tmod a0 16) + 1)) : Int).toNat).size ≤ 9223372036854775807 then (some (t109 ++ ((⟨#[48, 49, 50, 51, 52, 53, 54, 55, 56, 57, 97, 98, 99, 100, 101, 102]⟩ : ByteArray).extract ((Int.tmod a0 16) : Int).toNat ((wrap64 ((Int.tmod a0 16) + 1)) : Int).toNat))) else (none)) else (none)) else (none)) else (none)))
theorem spoorref01_hex.mono_l : ∀ k, (∀ y0, LeO (spoorref01_hex.f k y0) (spoorref01_hex.f (k + 1) y0))
  | 0 => fun _ r h => by simp [spoorref01_hex.f] at h
  | k + 1 => by
    have ih0 := spoorref01_hex.mono_l k
    · intro y0
      unfold spoorref01_hex.f
      repeat' first
      | (with_reducible exact ih0 _)
      | (with_reducible exact LeO.refl _)
      | (with_reducible exact LeO.none _)
      | (with_reducible refine LeO.ite ?_ ?_)
      | (with_reducible refine LeO.bind ?_ (fun _ => ?_))
      | exact ih0 _
      | exact LeO.none _
      | refine LeO.ite ?_ ?_
      | refine LeO.bind ?_ (fun _ => ?_)
theorem spoorref01_hex.mono : ∀ a0 k, LeO (spoorref01_hex.f k a0) (spoorref01_hex.f (k + 1) a0) := by
  intro a0 k
  have ih0 := spoorref01_hex.mono_l k
  exact ih0 a0
def spoorref01_hex.T4 : Bool × List (List Nat × List Nat) := (true, [([], []), ([0], [0]), ([1], [1]), ([], []), ([], []), ([4], [4]), ([], []), ([6], [6]), ([7], [7]), ([3, 5, 8], [3, 5, 8]), ([2, 9], [2, 9]), ([10, 2, 0, 1, 2, 3, 4, 5, 6, 7, 8, 9, 10], [10])])
def spoorref01_hex.B4 : List Nat := [0, 1, 3, 0, 0, 16, 0, 64, 192, 504, 1023, 2047]
theorem spoorref01_hex.tab4 : rtab .any (opsOf Tryd.f39 4) = spoorref01_hex.T4 := by kernel_rfl
theorem spoorref01_hex.bits4 : waitsOk spoorref01_hex.T4.2 spoorref01_hex.B4 = true := by kernel_rfl
set_option maxHeartbeats 8000000 in
set_option maxRecDepth 100000 in
theorem spoorref01_hex.calls (k : Nat) : ∀ (a0 : Int) (r : ByteArray) (w : World) (h : spoorref01_hex.f k a0 = some r),
    Calls Tryd.prog 39 #[.int .i64 a0] w fun e w' => e = .returned (.string r) ∧ Below w.heap.size w w' := by
  induction k using Nat.strongRecOn with
  | _ k ih =>
  intro a0 r w h
  cases k with
  | zero => exact absurd h (by simp [spoorref01_hex.f])
  | succ k =>
  simp only [spoorref01_hex.f] at h
  have HB := Aside0.mk (Below.refl w.heap.size w)
  have H : (if a0 < 16 then (if 0 ≤ a0 then (if a0 ≤ (wrap64 (a0 + 1)) then (if (wrap64 (a0 + 1)) ≤ 16 then (some ((⟨#[48, 49, 50, 51, 52, 53, 54, 55, 56, 57, 97, 98, 99, 100, 101, 102]⟩ : ByteArray).extract (a0 : Int).toNat ((wrap64 (a0 + 1)) : Int).toNat)) else (none)) else (none)) else (none)) else ((spoorref01_hex.f k (wrap64 (Int.tdiv a0 16))).bind fun t109 => (if 0 ≤ (Int.tmod a0 16) then (if (Int.tmod a0 16) ≤ (wrap64 ((Int.tmod a0 16) + 1)) then (if (wrap64 ((Int.tmod a0 16) + 1)) ≤ 16 then (if t109.size + ((⟨#[48, 49, 50, 51, 52, 53, 54, 55, 56, 57, 97, 98, 99, 100, 101, 102]⟩ : ByteArray).extract ((Int.tmod a0 16) : Int).toNat ((wrap64 ((Int.tmod a0 16) + 1)) : Int).toNat).size ≤ 9223372036854775807 then (some (t109 ++ ((⟨#[48, 49, 50, 51, 52, 53, 54, 55, 56, 57, 97, 98, 99, 100, 101, 102]⟩ : ByteArray).extract ((Int.tmod a0 16) : Int).toNat ((wrap64 ((Int.tmod a0 16) + 1)) : Int).toNat))) else (none)) else (none)) else (none)) else (none)))) = some r := h
  clear h
  by_cases c2 : a0 < 16
  · rw [if_pos c2] at H
    have c2b0 : decide (a0 < 16) = true := decide_eq_true c2
    clear c2
    by_cases c3 : 0 ≤ a0
    · rw [if_pos c3] at H
      have c3b0 := eq_true c3
      have c3b1 : decide (0 ≤ a0) = true := decide_eq_true c3
      clear c3
      by_cases c4 : a0 ≤ (wrap64 (a0 + 1))
      · rw [if_pos c4] at H
        have c4b0 := eq_true c4
        have c4b1 : decide (a0 ≤ (wrap64 (a0 + 1))) = true := decide_eq_true c4
        by_cases c5 : (wrap64 (a0 + 1)) ≤ 16
        · rw [if_pos c5] at H
          have c5b0 := eq_true c5
          have c5b1 : decide ((wrap64 (a0 + 1)) ≤ 16) = true := decide_eq_true c5
          obtain rfl := Option.some.inj H
          go_enter Tryd.func39, Tryd.ntmps39
          go_wp2
          go_ret
          exact ⟨by first | rfl | (simp [errW_none, errW_some] <;> rfl) | (simp [*, errW_none, errW_some] <;> rfl), by repeat (first | (with_reducible first | exact HB.out | apply below_alloc | apply pw_below_drewN | apply below_drew1) | exact HB.out)⟩
        · rw [if_neg c5] at H
          exact absurd H (by simp)
      · rw [if_neg c4] at H
        exact absurd H (by simp)
    · rw [if_neg c3] at H
      exact absurd H (by simp)
  · rw [if_neg c2] at H
    have c2b0 : decide (a0 < 16) = false := decide_eq_false c2
    clear c2
    replace H := Option.bind_eq_some_iff.mp H
    obtain ⟨t109, A60, H⟩ := H
    replace H : (if 0 ≤ (Int.tmod a0 16) then (if (Int.tmod a0 16) ≤ (wrap64 ((Int.tmod a0 16) + 1)) then (if (wrap64 ((Int.tmod a0 16) + 1)) ≤ 16 then (if t109.size + ((⟨#[48, 49, 50, 51, 52, 53, 54, 55, 56, 57, 97, 98, 99, 100, 101, 102]⟩ : ByteArray).extract ((Int.tmod a0 16) : Int).toNat ((wrap64 ((Int.tmod a0 16) + 1)) : Int).toNat).size ≤ 9223372036854775807 then (some (t109 ++ ((⟨#[48, 49, 50, 51, 52, 53, 54, 55, 56, 57, 97, 98, 99, 100, 101, 102]⟩ : ByteArray).extract ((Int.tmod a0 16) : Int).toNat ((wrap64 ((Int.tmod a0 16) + 1)) : Int).toNat))) else (none)) else (none)) else (none)) else (none)) = some r := H
    have A6 := Aside0.mk A60
    clear A60
    obtain ⟨ji7, hji7⟩ : ∃ j_ : Int, (Int.tmod a0 16) = j_ := ⟨_, rfl⟩
    replace H : (if 0 ≤ (ji7) then (if (ji7) ≤ (wrap64 ((ji7) + 1)) then (if (wrap64 ((ji7) + 1)) ≤ 16 then (if t109.size + ((⟨#[48, 49, 50, 51, 52, 53, 54, 55, 56, 57, 97, 98, 99, 100, 101, 102]⟩ : ByteArray).extract ((ji7) : Int).toNat ((wrap64 ((ji7) + 1)) : Int).toNat).size ≤ 9223372036854775807 then (some (t109 ++ ((⟨#[48, 49, 50, 51, 52, 53, 54, 55, 56, 57, 97, 98, 99, 100, 101, 102]⟩ : ByteArray).extract ((ji7) : Int).toNat ((wrap64 ((ji7) + 1)) : Int).toNat))) else (none)) else (none)) else (none)) else (none)) = some r := by first | (rw [hji7] at H; exact H) | (simp only [hji7] at H ⊢; exact H)
    (try rw [hji7] at A6)
    by_cases c8 : 0 ≤ (ji7)
    · rw [if_pos c8] at H
      have c8b0 := eq_true c8
      have c8b1 : decide (0 ≤ (ji7)) = true := decide_eq_true c8
      clear c8
      by_cases c9 : (ji7) ≤ (wrap64 ((ji7) + 1))
      · rw [if_pos c9] at H
        have c9b0 := eq_true c9
        have c9b1 : decide ((ji7) ≤ (wrap64 ((ji7) + 1))) = true := decide_eq_true c9
        by_cases c10 : (wrap64 ((ji7) + 1)) ≤ 16
        · rw [if_pos c10] at H
          have c10b0 := eq_true c10
          have c10b1 : decide ((wrap64 ((ji7) + 1)) ≤ 16) = true := decide_eq_true c10
          by_cases c11 : t109.size + ((⟨#[48, 49, 50, 51, 52, 53, 54, 55, 56, 57, 97, 98, 99, 100, 101, 102]⟩ : ByteArray).extract ((ji7) : Int).toNat ((wrap64 ((ji7) + 1)) : Int).toNat).size ≤ 9223372036854775807
          · rw [if_pos c11] at H
            have c11b0 := eq_true c11
            have c11b1 : decide (t109.size + ((⟨#[48, 49, 50, 51, 52, 53, 54, 55, 56, 57, 97, 98, 99, 100, 101, 102]⟩ : ByteArray).extract ((ji7) : Int).toNat ((wrap64 ((ji7) + 1)) : Int).toNat).size ≤ 9223372036854775807) = true := decide_eq_true c11
            try have c11b2 : (9223372036854775807 < t109.size + ((⟨#[48, 49, 50, 51, 52, 53, 54, 55, 56, 57, 97, 98, 99, 100, 101, 102]⟩ : ByteArray).extract ((ji7) : Int).toNat ((wrap64 ((ji7) + 1)) : Int).toNat).size) = False := eq_false (Nat.not_lt.2 c11)
            have c11b3 : (9223372036854775807 < t109.size + ((wrap64 (ji7 + 1)).toNat - ji7.toNat)) = False := eq_false (by have h := of_eq_true c11b0; rw [ByteArray.size_extract] at h; have e3 : (⟨#[48, 49, 50, 51, 52, 53, 54, 55, 56, 57, 97, 98, 99, 100, 101, 102]⟩ : ByteArray).size = 16 := rfl; have g := of_decide_eq_true c10b1; rw [e3, Nat.min_eq_left (by omega)] at h; omega)
            obtain rfl := Option.some.inj H
            go_enter Tryd.func39, Tryd.ntmps39
            try go_wp2
            have n0_ := Aside0.mk (below_drew1 HB.out)
            clear HB
            have HB := n0_
            clear n0_
            refine start_ (n := 12) (S := fun w' => True) (ds := []) #[false, false, false, false, false, false, false, false, false, false, false, false] (by kernel_rfl) rfl rfl trivial (fun hHeld => ?_); refine with_tabW spoorref01_hex.tab4 spoorref01_hex.bits4 (fun HT_ HW_ => ?_)
            generalize w.drew = w12 at HB hHeld ⊢
            refine pure_ (i := 0) (N := some 11) (v := ?_) (a' := ?_) #[true, false, false, false, false, false, false, false, false, false, false, false] rfl rfl (any_of HT_.out (by kernel_rfl)) (fun _ _ _ h => h) (Or.inl ⟨by rfl, ?_⟩) ?_ ?_
            rotate_left
            · intro w'
              go_simp
              with_reducible rfl
            rotate_left
            · simp only [Act.put, List.setIfInBounds_toArray, List.set_cons_zero, List.set_cons_succ, i64_w, i32_w]
              rfl
            refine pure_ (i := 1) (N := some 12) (v := ?_) (a' := ?_) #[true, true, false, false, false, false, false, false, false, false, false, false] rfl rfl (any_of HT_.out (by kernel_rfl)) (fun _ _ _ h => h) (Or.inl ⟨by rfl, ?_⟩) ?_ ?_
            rotate_left
            · intro w'
              go_simp
              with_reducible rfl
            rotate_left
            · simp only [Act.put, List.setIfInBounds_toArray, List.set_cons_zero, List.set_cons_succ, i64_w, i32_w]
              rfl
            refine pure_ (i := 3) (N := some 14) (v := ?_) (a' := ?_) #[true, true, false, true, false, false, false, false, false, false, false, false] rfl rfl (any_of HT_.out (by kernel_rfl)) (fun _ _ _ h => h) (Or.inl ⟨by rfl, ?_⟩) ?_ ?_
            rotate_left
            · intro w'
              go_simp
              with_reducible rfl
            rotate_left
            · simp only [Act.put, List.setIfInBounds_toArray, List.set_cons_zero, List.set_cons_succ, i64_w, i32_w]
              rfl
            refine pure_ (i := 4) (N := some 15) (v := ?_) (a' := ?_) #[true, true, false, true, true, false, false, false, false, false, false, false] rfl rfl (any_of HT_.out (by kernel_rfl)) (fun _ _ _ h => h) (Or.inl ⟨by rfl, ?_⟩) ?_ ?_
            rotate_left
            · intro w'
              go_simp
              with_reducible rfl
            rotate_left
            · simp only [Act.put, List.setIfInBounds_toArray, List.set_cons_zero, List.set_cons_succ, i64_w, i32_w]
              rfl
            refine pure_ (i := 5) (N := some 16) (v := ?_) (a' := ?_) #[true, true, false, true, true, true, false, false, false, false, false, false] rfl rfl (any_of HT_.out (by kernel_rfl)) (fun _ _ _ h => h) (Or.inl ⟨by rfl, ?_⟩) ?_ ?_
            rotate_left
            · intro w'
              go_simp
              with_reducible rfl
            rotate_left
            · simp only [Act.put, List.setIfInBounds_toArray, List.set_cons_zero, List.set_cons_succ, i64_w, i32_w]
              rfl
            refine pure_ (i := 6) (N := some 17) (v := ?_) (a' := ?_) #[true, true, false, true, true, true, true, false, false, false, false, false] rfl rfl (any_of HT_.out (by kernel_rfl)) (fun _ _ _ h => h) (Or.inl ⟨by rfl, ?_⟩) ?_ ?_
            rotate_left
            · intro w'
              go_simp
              with_reducible rfl
            rotate_left
            · simp only [Act.put, List.setIfInBounds_toArray, List.set_cons_zero, List.set_cons_succ, i64_w, i32_w]
              rfl
            refine pure_ (i := 7) (N := some 18) (v := ?_) (a' := ?_) #[true, true, false, true, true, true, true, true, false, false, false, false] rfl rfl (any_of HT_.out (by kernel_rfl)) (fun _ _ _ h => h) (Or.inl ⟨by rfl, ?_⟩) ?_ ?_
            rotate_left
            · intro w'
              go_simp
              with_reducible rfl
            rotate_left
            · simp only [Act.put, List.setIfInBounds_toArray, List.set_cons_zero, List.set_cons_succ, i64_w, i32_w]
              rfl
            refine pure_ (i := 8) (N := some 19) (v := ?_) (a' := ?_) #[true, true, false, true, true, true, true, true, true, false, false, false] rfl rfl (any_of HT_.out (by kernel_rfl)) (fun _ _ _ h => h) (Or.inl ⟨by rfl, ?_⟩) ?_ ?_
            rotate_left
            · intro w'
              go_simp
              with_reducible rfl
            rotate_left
            · simp only [Act.put, List.setIfInBounds_toArray, List.set_cons_zero, List.set_cons_succ, i64_w, i32_w]
              rfl
            refine pure_ (i := 9) (N := some 20) (v := ?_) (a' := ?_) #[true, true, false, true, true, true, true, true, true, true, false, false] rfl rfl (any_of HT_.out (by kernel_rfl)) (fun _ _ _ h => h) (Or.inl ⟨by rfl, ?_⟩) ?_ ?_
            rotate_left
            · intro w'
              go_simp
              with_reducible rfl
            rotate_left
            · simp only [Act.put, List.setIfInBounds_toArray, List.set_cons_zero, List.set_cons_succ, i64_w, i32_w]
              rfl
            refine one_ (i := 2) (N := some 13) #[true, true, true, true, true, true, true, true, true, true, false, false] rfl rfl (one_of HT_.out (by kernel_rfl)) (by decide) (fun K hK => ?_)
            refine goes_ Tryd.func39 (by kernel_rfl) rfl #[.int .i64 (wrap64 (Int.tdiv a0 16))] (by rfl) rfl rfl (by (try simp only [List.map_toArray, List.map_cons, List.map_nil]); first | done | rfl | (simp only [List.length_drop, List.length_take]; rfl)) ?_
            with_reducible refine (ih k (by omega) (wrap64 (Int.tdiv a0 16)) t109 _ A6.out).mono ?_
            rintro e w13 ⟨rfl, hb⟩
            refine ⟨_, rfl, ?_⟩
            have n0_ := Aside0.mk (below_step (by repeat (first | (with_reducible first | exact HB.out | apply below_alloc | apply pw_below_drewN | apply below_drew1) | exact HB.out)) hb)
            clear HB
            have HB := n0_
            clear n0_
            (try clear hb)
            (try clear hb2)
            (try clear hk)
            (try clear hi)
            refine hK.out _ _ trivial (fun hHeld => ?_)
            clear hK K
            refine norm_ (a' := ?_) ?_ ?_
            rotate_left
            · show Act.put _ (some 13) _ = _
              simp only [Act.put, List.setIfInBounds_toArray, List.set_cons_zero, List.set_cons_succ, i64_w, i32_w]
              rfl
            refine pure_ (i := 10) (N := some 21) (v := ?_) (a' := ?_) #[true, true, true, true, true, true, true, true, true, true, true, false] rfl rfl (any_of HT_.out (by kernel_rfl)) (fun _ _ _ h => h) (Or.inl ⟨by rfl, ?_⟩) ?_ ?_
            rotate_left
            · intro w'
              go_simp
              with_reducible rfl
            rotate_left
            · simp only [Act.put, List.setIfInBounds_toArray, List.set_cons_zero, List.set_cons_succ, i64_w, i32_w]
              rfl
            refine pure_ (i := 11) (N := some 2) (v := ?_) (a' := ?_) #[true, true, true, true, true, true, true, true, true, true, true, true] rfl rfl (any_of HT_.out (by kernel_rfl)) (fun _ _ _ h => h) (Or.inl ⟨by rfl, ?_⟩) ?_ ?_
            rotate_left
            · intro w'
              go_simp
              with_reducible rfl
            rotate_left
            · simp only [Act.put, List.setIfInBounds_toArray, List.set_cons_zero, List.set_cons_succ, i64_w, i32_w]
              rfl
            refine done_ (done_of HT_.out (by kernel_rfl)) ?_
            try go_wp2
            go_ret
            exact ⟨by first | rfl | (simp [errW_none, errW_some] <;> rfl) | (simp only [← hji7]; first | rfl | (simp [errW_none, errW_some] <;> rfl)) | (simp [*, errW_none, errW_some] <;> rfl), by repeat (first | (with_reducible first | exact HB.out | apply below_alloc | apply pw_below_drewN | apply below_drew1) | exact HB.out)⟩
          · rw [if_neg c11] at H
            exact absurd H (by simp)
        · rw [if_neg c10] at H
          exact absurd H (by simp)
      · rw [if_neg c9] at H
        exact absurd H (by simp)
    · rw [if_neg c8] at H
      exact absurd H (by simp)

/-! ### spoorref01_Quote: function 23 -/
def spoorref01_Quote.l0 : Nat → ByteArray → ByteArray → Option (ByteArray)
  | 0, _, _ => none
  | k + 1, x0, x3 => if (x0.size : Int) > 0 then ((spoorref01_First.f k x0).bind fun bt110 => (if bt110.2.2 = true then (if bt110.1 = 92 then (if x3.size + 2 ≤ 9223372036854775807 then (if 0 ≤ bt110.2.1 then (if bt110.2.1 ≤ (x0.size : Int) then (spoorref01_Quote.l0 k (x0.extract (bt110.2.1 : Int).toNat x0.size) (x3 ++ (⟨#[92, 92]⟩ : ByteArray))) else (none)) else (none)) else (none)) else (if bt110.1 ≥ 32 then (if bt110.1 ≤ 126 then (if 0 ≤ bt110.2.1 then (if bt110.2.1 ≤ (x0.size : Int) then (if x3.size + (x0.extract 0 (bt110.2.1 : Int).toNat).size ≤ 9223372036854775807 then (spoorref01_Quote.l0 k (x0.extract (bt110.2.1 : Int).toNat x0.size) (x3 ++ (x0.extract 0 (bt110.2.1 : Int).toNat))) else (none)) else (none)) else (none)) else (if bt110.1 ≥ 161 then (if bt110.1 ≤ 591 then (if 0 ≤ bt110.2.1 then (if bt110.2.1 ≤ (x0.size : Int) then (if x3.size + (x0.extract 0 (bt110.2.1 : Int).toNat).size ≤ 9223372036854775807 then (spoorref01_Quote.l0 k (x0.extract (bt110.2.1 : Int).toNat x0.size) (x3 ++ (x0.extract 0 (bt110.2.1 : Int).toNat))) else (none)) else (none)) else (none)) else ((spoorref01_hex.f k bt110.1).bind fun t114 => (if 2 + t114.size ≤ 9223372036854775807 then (if ((⟨#[92, 117]⟩ : ByteArray) ++ t114).size + 1 ≤ 9223372036854775807 then (if x3.size + (((⟨#[92, 117]⟩ : ByteArray) ++ t114) ++ (⟨#[46]⟩ : ByteArray)).size ≤ 9223372036854775807 then (if 0 ≤ bt110.2.1 then (if bt110.2.1 ≤ (x0.size : Int) then (spoorref01_Quote.l0 k (x0.extract (bt110.2.1 : Int).toNat x0.size) (x3 ++ (((⟨#[92, 117]⟩ : ByteArray) ++ t114) ++ (⟨#[46]⟩ : ByteArray)))) else (none)) else (none)) else (none)) else (none)) else (none)))) else ((spoorref01_hex.f k bt110.1).bind fun t115 => (if 2 + t115.size ≤ 9223372036854775807 then (if ((⟨#[92, 117]⟩ : ByteArray) ++ t115).size + 1 ≤ 9223372036854775807 then (if x3.size + (((⟨#[92, 117]⟩ : ByteArray) ++ t115) ++ (⟨#[46]⟩ : ByteArray)).size ≤ 9223372036854775807 then (if 0 ≤ bt110.2.1 then (if bt110.2.1 ≤ (x0.size : Int) then (spoorref01_Quote.l0 k (x0.extract (bt110.2.1 : Int).toNat x0.size) (x3 ++ (((⟨#[92, 117]⟩ : ByteArray) ++ t115) ++ (⟨#[46]⟩ : ByteArray)))) else (none)) else (none)) else (none)) else (none)) else (none))))) else (if bt110.1 ≥ 161 then (if bt110.1 ≤ 591 then (if 0 ≤ bt110.2.1 then (if bt110.2.1 ≤ (x0.size : Int) then (if x3.size + (x0.extract 0 (bt110.2.1 : Int).toNat).size ≤ 9223372036854775807 then (spoorref01_Quote.l0 k (x0.extract (bt110.2.1 : Int).toNat x0.size) (x3 ++ (x0.extract 0 (bt110.2.1 : Int).toNat))) else (none)) else (none)) else (none)) else ((spoorref01_hex.f k bt110.1).bind fun t116 => (if 2 + t116.size ≤ 9223372036854775807 then (if ((⟨#[92, 117]⟩ : ByteArray) ++ t116).size + 1 ≤ 9223372036854775807 then (if x3.size + (((⟨#[92, 117]⟩ : ByteArray) ++ t116) ++ (⟨#[46]⟩ : ByteArray)).size ≤ 9223372036854775807 then (if 0 ≤ bt110.2.1 then (if bt110.2.1 ≤ (x0.size : Int) then (spoorref01_Quote.l0 k (x0.extract (bt110.2.1 : Int).toNat x0.size) (x3 ++ (((⟨#[92, 117]⟩ : ByteArray) ++ t116) ++ (⟨#[46]⟩ : ByteArray)))) else (none)) else (none)) else (none)) else (none)) else (none)))) else ((spoorref01_hex.f k bt110.1).bind fun t117 => (if 2 + t117.size ≤ 9223372036854775807 then (if ((⟨#[92, 117]⟩ : ByteArray) ++ t117).size + 1 ≤ 9223372036854775807 then (if x3.size + (((⟨#[92, 117]⟩ : ByteArray) ++ t117) ++ (⟨#[46]⟩ : ByteArray)).size ≤ 9223372036854775807 then (if 0 ≤ bt110.2.1 then (if bt110.2.1 ≤ (x0.size : Int) then (spoorref01_Quote.l0 k (x0.extract (bt110.2.1 : Int).toNat x0.size) (x3 ++ (((⟨#[92, 117]⟩ : ByteArray) ++ t117) ++ (⟨#[46]⟩ : ByteArray)))) else (none)) else (none)) else (none)) else (none)) else (none)))))) else (if 0 < (x0.size : Int) then ((spoorref01_hex.f k (wrap64 (Int.tdiv (wrap64 (bt x0 0)) 16))).bind fun t118 => (if 2 + t118.size ≤ 9223372036854775807 then ((spoorref01_hex.f k (Int.tmod (wrap64 (bt x0 0)) 16)).bind fun t119 => (if ((⟨#[92, 120]⟩ : ByteArray) ++ t118).size + t119.size ≤ 9223372036854775807 then (if x3.size + (((⟨#[92, 120]⟩ : ByteArray) ++ t118) ++ t119).size ≤ 9223372036854775807 then (if 0 ≤ bt110.2.1 then (if bt110.2.1 ≤ (x0.size : Int) then (spoorref01_Quote.l0 k (x0.extract (bt110.2.1 : Int).toNat x0.size) (x3 ++ (((⟨#[92, 120]⟩ : ByteArray) ++ t118) ++ t119))) else (none)) else (none)) else (none)) else (none))) else (none))) else (none)))) else (some x3)
def spoorref01_Quote.f (k : Nat) (a0 : ByteArray) : Option (ByteArray) := spoorref01_Quote.l0 k a0 (⟨#[]⟩ : ByteArray)
theorem spoorref01_Quote.mono_l : ∀ k, (∀ y0 y1, LeO (spoorref01_Quote.l0 k y0 y1) (spoorref01_Quote.l0 (k + 1) y0 y1))
  | 0 => fun _ _ r h => by simp [spoorref01_Quote.l0] at h
  | k + 1 => by
    have ih0 := spoorref01_Quote.mono_l k
    · intro y0 y1
      unfold spoorref01_Quote.l0
      repeat' first
      | (with_reducible exact ih0 _ _)
      | (with_reducible exact spoorref01_First.mono _ _)
      | (with_reducible exact spoorref01_hex.mono _ _)
      | (with_reducible exact LeO.refl _)
      | (with_reducible exact LeO.none _)
      | (with_reducible refine LeO.ite ?_ ?_)
      | (with_reducible refine LeO.bind ?_ (fun _ => ?_))
      | exact ih0 _ _
      | exact spoorref01_First.mono _ _
      | exact spoorref01_hex.mono _ _
      | exact LeO.none _
      | refine LeO.ite ?_ ?_
      | refine LeO.bind ?_ (fun _ => ?_)
theorem spoorref01_Quote.mono : ∀ a0 k, LeO (spoorref01_Quote.f k a0) (spoorref01_Quote.f (k + 1) a0) := by
  intro a0 k
  have ih0 := spoorref01_Quote.mono_l k
  unfold spoorref01_Quote.f
  repeat' first
      | (with_reducible exact ih0 _ _)
      | (with_reducible exact spoorref01_First.mono _ _)
      | (with_reducible exact spoorref01_hex.mono _ _)
      | (with_reducible exact LeO.refl _)
      | (with_reducible exact LeO.none _)
      | (with_reducible refine LeO.ite ?_ ?_)
      | (with_reducible refine LeO.bind ?_ (fun _ => ?_))
      | exact ih0 _ _
      | exact spoorref01_First.mono _ _
      | exact spoorref01_hex.mono _ _
      | exact LeO.none _
      | refine LeO.ite ?_ ?_
      | refine LeO.bind ?_ (fun _ => ?_)
set_option maxHeartbeats 8000000 in
set_option maxRecDepth 100000 in
theorem spoorref01_Quote.calls (k : Nat) (a0 : ByteArray) (r : ByteArray) (w : World) (h : spoorref01_Quote.f k a0 = some r) :
    Calls Tryd.prog 23 #[.string a0] w fun e w' => e = .returned (.string r) ∧ Below w.heap.size w w' := by
  have hu42 := Tryd.underlying42
  have HB := Aside0.mk (Below.refl w.heap.size w)
  have H : (spoorref01_Quote.l0 k a0 (⟨#[]⟩ : ByteArray)) = some r := h
  clear h
  have H' := Aside0.mk H
  clear H
  go_enter Tryd.func23, Tryd.ntmps23
  go_wp2
  go_loopg [0, 3] k (fun kq v0 v3 w' => ∃ (x0_1 : ByteArray) (x3_1 : ByteArray), v0 = .string x0_1 ∧ v3 = .string x3_1 ∧ Aside0 (spoorref01_Quote.l0 kq x0_1 x3_1 = some r) ∧ Aside0 (kq ≤ k) ∧ Aside0 (Below w.heap.size w w'))
  case atStart => exact ⟨(a0), ((⟨#[]⟩ : ByteArray)), (by first | rfl | (simp; done) | (simp [*]; done)), (by first | rfl | (simp; done) | (simp [*]; done)), H', ⟨Nat.le_refl _⟩, ⟨by repeat (first | (with_reducible first | exact HB.out | apply below_alloc | apply pw_below_drewN | apply below_drew1) | exact HB.out)⟩⟩
  case round =>
    clear H'
    obtain ⟨x0_1, x3_1, rfl, rfl, HA, HK1, HB⟩ := hrel
    cases gk with
    | zero => exact absurd HA.out (by simp [spoorref01_Quote.l0])
    | succ k1 =>
      have H := HA.out
      clear HA
      simp only [spoorref01_Quote.l0] at H
      by_cases c2 : (x0_1.size : Int) > 0
      · rw [if_pos c2] at H
        have c2b0 : decide (0 < (x0_1.size : Int)) = true := decide_eq_true c2
        have c2b1 : decide (0 < x0_1.size) = true := decide_eq_true (by omega)
        clear c2
        replace H := Option.bind_eq_some_iff.mp H
        obtain ⟨⟨t110, t111, t112⟩, A30, H⟩ := H
        replace H : (if t112 = true then (if t110 = 92 then (if x3_1.size + 2 ≤ 9223372036854775807 then (if 0 ≤ t111 then (if t111 ≤ (x0_1.size : Int) then (spoorref01_Quote.l0 k1 (x0_1.extract (t111 : Int).toNat x0_1.size) (x3_1 ++ (⟨#[92, 92]⟩ : ByteArray))) else (none)) else (none)) else (none)) else (if t110 ≥ 32 then (if t110 ≤ 126 then (if 0 ≤ t111 then (if t111 ≤ (x0_1.size : Int) then (if x3_1.size + (x0_1.extract 0 (t111 : Int).toNat).size ≤ 9223372036854775807 then (spoorref01_Quote.l0 k1 (x0_1.extract (t111 : Int).toNat x0_1.size) (x3_1 ++ (x0_1.extract 0 (t111 : Int).toNat))) else (none)) else (none)) else (none)) else (if t110 ≥ 161 then (if t110 ≤ 591 then (if 0 ≤ t111 then (if t111 ≤ (x0_1.size : Int) then (if x3_1.size + (x0_1.extract 0 (t111 : Int).toNat).size ≤ 9223372036854775807 then (spoorref01_Quote.l0 k1 (x0_1.extract (t111 : Int).toNat x0_1.size) (x3_1 ++ (x0_1.extract 0 (t111 : Int).toNat))) else (none)) else (none)) else (none)) else ((spoorref01_hex.f k1 t110).bind fun t114 => (if 2 + t114.size ≤ 9223372036854775807 then (if ((⟨#[92, 117]⟩ : ByteArray) ++ t114).size + 1 ≤ 9223372036854775807 then (if x3_1.size + (((⟨#[92, 117]⟩ : ByteArray) ++ t114) ++ (⟨#[46]⟩ : ByteArray)).size ≤ 9223372036854775807 then (if 0 ≤ t111 then (if t111 ≤ (x0_1.size : Int) then (spoorref01_Quote.l0 k1 (x0_1.extract (t111 : Int).toNat x0_1.size) (x3_1 ++ (((⟨#[92, 117]⟩ : ByteArray) ++ t114) ++ (⟨#[46]⟩ : ByteArray)))) else (none)) else (none)) else (none)) else (none)) else (none)))) else ((spoorref01_hex.f k1 t110).bind fun t115 => (if 2 + t115.size ≤ 9223372036854775807 then (if ((⟨#[92, 117]⟩ : ByteArray) ++ t115).size + 1 ≤ 9223372036854775807 then (if x3_1.size + (((⟨#[92, 117]⟩ : ByteArray) ++ t115) ++ (⟨#[46]⟩ : ByteArray)).size ≤ 9223372036854775807 then (if 0 ≤ t111 then (if t111 ≤ (x0_1.size : Int) then (spoorref01_Quote.l0 k1 (x0_1.extract (t111 : Int).toNat x0_1.size) (x3_1 ++ (((⟨#[92, 117]⟩ : ByteArray) ++ t115) ++ (⟨#[46]⟩ : ByteArray)))) else (none)) else (none)) else (none)) else (none)) else (none))))) else (if t110 ≥ 161 then (if t110 ≤ 591 then (if 0 ≤ t111 then (if t111 ≤ (x0_1.size : Int) then (if x3_1.size + (x0_1.extract 0 (t111 : Int).toNat).size ≤ 9223372036854775807 then (spoorref01_Quote.l0 k1 (x0_1.extract (t111 : Int).toNat x0_1.size) (x3_1 ++ (x0_1.extract 0 (t111 : Int).toNat))) else (none)) else (none)) else (none)) else ((spoorref01_hex.f k1 t110).bind fun t116 => (if 2 + t116.size ≤ 9223372036854775807 then (if ((⟨#[92, 117]⟩ : ByteArray) ++ t116).size + 1 ≤ 9223372036854775807 then (if x3_1.size + (((⟨#[92, 117]⟩ : ByteArray) ++ t116) ++ (⟨#[46]⟩ : ByteArray)).size ≤ 9223372036854775807 then (if 0 ≤ t111 then (if t111 ≤ (x0_1.size : Int) then (spoorref01_Quote.l0 k1 (x0_1.extract (t111 : Int).toNat x0_1.size) (x3_1 ++ (((⟨#[92, 117]⟩ : ByteArray) ++ t116) ++ (⟨#[46]⟩ : ByteArray)))) else (none)) else (none)) else (none)) else (none)) else (none)))) else ((spoorref01_hex.f k1 t110).bind fun t117 => (if 2 + t117.size ≤ 9223372036854775807 then (if ((⟨#[92, 117]⟩ : ByteArray) ++ t117).size + 1 ≤ 9223372036854775807 then (if x3_1.size + (((⟨#[92, 117]⟩ : ByteArray) ++ t117) ++ (⟨#[46]⟩ : ByteArray)).size ≤ 9223372036854775807 then (if 0 ≤ t111 then (if t111 ≤ (x0_1.size : Int) then (spoorref01_Quote.l0 k1 (x0_1.extract (t111 : Int).toNat x0_1.size) (x3_1 ++ (((⟨#[92, 117]⟩ : ByteArray) ++ t117) ++ (⟨#[46]⟩ : ByteArray)))) else (none)) else (none)) else (none)) else (none)) else (none)))))) else (if 0 < (x0_1.size : Int) then ((spoorref01_hex.f k1 (wrap64 (Int.tdiv (wrap64 (bt x0_1 0)) 16))).bind fun t118 => (if 2 + t118.size ≤ 9223372036854775807 then ((spoorref01_hex.f k1 (Int.tmod (wrap64 (bt x0_1 0)) 16)).bind fun t119 => (if ((⟨#[92, 120]⟩ : ByteArray) ++ t118).size + t119.size ≤ 9223372036854775807 then (if x3_1.size + (((⟨#[92, 120]⟩ : ByteArray) ++ t118) ++ t119).size ≤ 9223372036854775807 then (if 0 ≤ t111 then (if t111 ≤ (x0_1.size : Int) then (spoorref01_Quote.l0 k1 (x0_1.extract (t111 : Int).toNat x0_1.size) (x3_1 ++ (((⟨#[92, 120]⟩ : ByteArray) ++ t118) ++ t119))) else (none)) else (none)) else (none)) else (none))) else (none))) else (none))) = some r := H
        have A3 := Aside0.mk A30
        clear A30
        by_cases c4 : t112 = true
        · subst c4
          have H1 : (if t110 = 92 then (if x3_1.size + 2 ≤ 9223372036854775807 then (if 0 ≤ t111 then (if t111 ≤ (x0_1.size : Int) then (spoorref01_Quote.l0 k1 (x0_1.extract (t111 : Int).toNat x0_1.size) (x3_1 ++ (⟨#[92, 92]⟩ : ByteArray))) else (none)) else (none)) else (none)) else (if t110 ≥ 32 then (if t110 ≤ 126 then (if 0 ≤ t111 then (if t111 ≤ (x0_1.size : Int) then (if x3_1.size + (x0_1.extract 0 (t111 : Int).toNat).size ≤ 9223372036854775807 then (spoorref01_Quote.l0 k1 (x0_1.extract (t111 : Int).toNat x0_1.size) (x3_1 ++ (x0_1.extract 0 (t111 : Int).toNat))) else (none)) else (none)) else (none)) else (if t110 ≥ 161 then (if t110 ≤ 591 then (if 0 ≤ t111 then (if t111 ≤ (x0_1.size : Int) then (if x3_1.size + (x0_1.extract 0 (t111 : Int).toNat).size ≤ 9223372036854775807 then (spoorref01_Quote.l0 k1 (x0_1.extract (t111 : Int).toNat x0_1.size) (x3_1 ++ (x0_1.extract 0 (t111 : Int).toNat))) else (none)) else (none)) else (none)) else ((spoorref01_hex.f k1 t110).bind fun t114 => (if 2 + t114.size ≤ 9223372036854775807 then (if ((⟨#[92, 117]⟩ : ByteArray) ++ t114).size + 1 ≤ 9223372036854775807 then (if x3_1.size + (((⟨#[92, 117]⟩ : ByteArray) ++ t114) ++ (⟨#[46]⟩ : ByteArray)).size ≤ 9223372036854775807 then (if 0 ≤ t111 then (if t111 ≤ (x0_1.size : Int) then (spoorref01_Quote.l0 k1 (x0_1.extract (t111 : Int).toNat x0_1.size) (x3_1 ++ (((⟨#[92, 117]⟩ : ByteArray) ++ t114) ++ (⟨#[46]⟩ : ByteArray)))) else (none)) else (none)) else (none)) else (none)) else (none)))) else ((spoorref01_hex.f k1 t110).bind fun t115 => (if 2 + t115.size ≤ 9223372036854775807 then (if ((⟨#[92, 117]⟩ : ByteArray) ++ t115).size + 1 ≤ 9223372036854775807 then (if x3_1.size + (((⟨#[92, 117]⟩ : ByteArray) ++ t115) ++ (⟨#[46]⟩ : ByteArray)).size ≤ 9223372036854775807 then (if 0 ≤ t111 then (if t111 ≤ (x0_1.size : Int) then (spoorref01_Quote.l0 k1 (x0_1.extract (t111 : Int).toNat x0_1.size) (x3_1 ++ (((⟨#[92, 117]⟩ : ByteArray) ++ t115) ++ (⟨#[46]⟩ : ByteArray)))) else (none)) else (none)) else (none)) else (none)) else (none))))) else (if t110 ≥ 161 then (if t110 ≤ 591 then (if 0 ≤ t111 then (if t111 ≤ (x0_1.size : Int) then (if x3_1.size + (x0_1.extract 0 (t111 : Int).toNat).size ≤ 9223372036854775807 then (spoorref01_Quote.l0 k1 (x0_1.extract (t111 : Int).toNat x0_1.size) (x3_1 ++ (x0_1.extract 0 (t111 : Int).toNat))) else (none)) else (none)) else (none)) else ((spoorref01_hex.f k1 t110).bind fun t116 => (if 2 + t116.size ≤ 9223372036854775807 then (if ((⟨#[92, 117]⟩ : ByteArray) ++ t116).size + 1 ≤ 9223372036854775807 then (if x3_1.size + (((⟨#[92, 117]⟩ : ByteArray) ++ t116) ++ (⟨#[46]⟩ : ByteArray)).size ≤ 9223372036854775807 then (if 0 ≤ t111 then (if t111 ≤ (x0_1.size : Int) then (spoorref01_Quote.l0 k1 (x0_1.extract (t111 : Int).toNat x0_1.size) (x3_1 ++ (((⟨#[92, 117]⟩ : ByteArray) ++ t116) ++ (⟨#[46]⟩ : ByteArray)))) else (none)) else (none)) else (none)) else (none)) else (none)))) else ((spoorref01_hex.f k1 t110).bind fun t117 => (if 2 + t117.size ≤ 9223372036854775807 then (if ((⟨#[92, 117]⟩ : ByteArray) ++ t117).size + 1 ≤ 9223372036854775807 then (if x3_1.size + (((⟨#[92, 117]⟩ : ByteArray) ++ t117) ++ (⟨#[46]⟩ : ByteArray)).size ≤ 9223372036854775807 then (if 0 ≤ t111 then (if t111 ≤ (x0_1.size : Int) then (spoorref01_Quote.l0 k1 (x0_1.extract (t111 : Int).toNat x0_1.size) (x3_1 ++ (((⟨#[92, 117]⟩ : ByteArray) ++ t117) ++ (⟨#[46]⟩ : ByteArray)))) else (none)) else (none)) else (none)) else (none)) else (none)))))) = some r := by rw [if_pos rfl] at H; exact H
          clear H
          have H := H1
          clear H1
          by_cases c5 : t110 = 92
          · rw [if_pos c5] at H
            have c5b0 : (t110 == 92) = true := beq_iff_eq.mpr c5
            have c5b1 : (t110 != 92) = false := bne_eq_false_iff_eq.mpr c5
            clear c5
            by_cases c6 : x3_1.size + 2 ≤ 9223372036854775807
            · rw [if_pos c6] at H
              have c6b0 := eq_true c6
              have c6b1 : decide (x3_1.size + 2 ≤ 9223372036854775807) = true := decide_eq_true c6
              try have c6b2 : (9223372036854775807 < x3_1.size + 2) = False := eq_false (Nat.not_lt.2 c6)
              by_cases c7 : 0 ≤ t111
              · rw [if_pos c7] at H
                have c7b0 := eq_true c7
                have c7b1 : decide (0 ≤ t111) = true := decide_eq_true c7
                clear c7
                by_cases c8 : t111 ≤ (x0_1.size : Int)
                · rw [if_pos c8] at H
                  have c8b0 := eq_true c8
                  have c8b1 : decide (t111 ≤ (x0_1.size : Int)) = true := decide_eq_true c8
                  clear c8
                  have H' := Aside0.mk H
                  clear H
                  go_wp2_with (first | ((with_reducible refine gate_callee (f := 26) rfl ?_); refine goesL_ (some 10) rfl rfl Tryd.func26 (by kernel_rfl) rfl #[.string x0_1] rfl (by (try simp only [List.map_toArray, List.map_cons, List.map_nil]); first | done | rfl | (simp only [List.length_drop, List.length_take]; rfl)) ?_; (with_reducible refine (spoorref01_First.calls k1 x0_1 t110 t111 true _ A3.out).mono ?_); rintro e w9 ⟨rfl, hb⟩; refine ⟨_, rfl, ?_⟩; have n0_ := Aside0.mk (below_step (by repeat (first | (with_reducible first | exact HB.out | apply below_alloc | apply pw_below_drewN | apply below_drew1) | exact HB.out)) hb); clear HB; have HB := n0_; clear n0_; (try clear hb); (try clear hb2); (try clear hk); (try clear hi)) | ((with_reducible refine gate_dst (N := 4) rfl ?_); refine box_event ?hg (N := 4) ?hd (cs := #[.int .i64 0, .int .i64 0, .bool false]) (t := 42) ?hr ?_; (case hd => rfl); (case hg => rfl); (case hr => first | (go_simp; done) | (go_simp; rfl)); intro gb113 hg w10 hbox hb; have n0_ := Aside0.mk (below_step (by repeat (first | (with_reducible first | exact HB.out | apply below_alloc | apply pw_below_drewN | apply below_drew1) | exact HB.out)) hb); have n1_ := Aside0.mk (hbox); have n2_ := Aside0.mk ((by rw [hg]; exact (below_size (by repeat (first | (with_reducible first | exact HB.out | apply below_alloc | apply pw_below_drewN | apply below_drew1) | exact HB.out))) : w.heap.size ≤ gb113)); have n3_ := Aside0.mk ((by rw [hg]; exact (below_size (by repeat (first | (with_reducible first | exact HB.out | apply below_alloc | apply pw_below_drewN | apply below_drew1) | exact HB.out))) : w.heap.size ≤ gb113)); clear HB; have HB := n0_; have BK113 := n1_; have GW113 := n2_; have GE113 := n3_; clear n0_ n1_ n2_ n3_; clear hb hbox hg; have hcz11_0 : w10.cell? ⟨gb113, 0, none⟩ = some (.int .i64 0) := (blk_cell BK113.out 0).trans rfl; have hcz11_1 : w10.cell? ⟨gb113, 1, none⟩ = some (.int .i64 0) := (blk_cell BK113.out 1).trans rfl; have hcz11_2 : w10.cell? ⟨gb113, 2, none⟩ = some (.bool false) := (blk_cell BK113.out 2).trans rfl; have hfz11_0 := blk_frozen BK113.out 0; have hfz11_1 := blk_frozen BK113.out 1; have hfz11_2 := blk_frozen BK113.out 2))
                  go_roundg k1
                  case measure => have := HK1.out; omega
                  case rel => exact ⟨(x0_1.extract (t111 : Int).toNat x0_1.size), (x3_1 ++ (⟨#[92, 92]⟩ : ByteArray)), (by first | rfl | (simp; done) | (simp [*]; done)), (by first | rfl | (simp; done) | (simp [*]; done)), H', ⟨by have := HK1.out; omega⟩, ⟨by repeat (first | (with_reducible first | exact HB.out | apply below_alloc | apply pw_below_drewN | apply below_drew1 | refine below_set ?_ GE113.out) | exact HB.out)⟩⟩
                · rw [if_neg c8] at H
                  exact absurd H (by simp)
              · rw [if_neg c7] at H
                exact absurd H (by simp)
            · rw [if_neg c6] at H
              exact absurd H (by simp)
          · rw [if_neg c5] at H
            have c5b0 : (t110 == 92) = false := beq_eq_false_iff_ne.mpr c5
            have c5b1 : (t110 != 92) = true := bne_iff_ne.mpr c5
            by_cases c12 : t110 ≥ 32
            · rw [if_pos c12] at H
              have c12b0 : decide (32 ≤ t110) = true := decide_eq_true c12
              clear c12
              by_cases c13 : t110 ≤ 126
              · rw [if_pos c13] at H
                have c13b0 : decide (t110 ≤ 126) = true := decide_eq_true c13
                clear c13
                by_cases c14 : 0 ≤ t111
                · rw [if_pos c14] at H
                  have c14b0 := eq_true c14
                  have c14b1 : decide (0 ≤ t111) = true := decide_eq_true c14
                  clear c14
                  by_cases c15 : t111 ≤ (x0_1.size : Int)
                  · rw [if_pos c15] at H
                    have c15b0 := eq_true c15
                    have c15b1 : decide (t111 ≤ (x0_1.size : Int)) = true := decide_eq_true c15
                    clear c15
                    by_cases c16 : x3_1.size + (x0_1.extract 0 (t111 : Int).toNat).size ≤ 9223372036854775807
                    · rw [if_pos c16] at H
                      have c16b0 := eq_true c16
                      have c16b1 : decide (x3_1.size + (x0_1.extract 0 (t111 : Int).toNat).size ≤ 9223372036854775807) = true := decide_eq_true c16
                      try have c16b2 : (9223372036854775807 < x3_1.size + (x0_1.extract 0 (t111 : Int).toNat).size) = False := eq_false (Nat.not_lt.2 c16)
                      have c17b0 := eq_true (of_decide_eq_true (by first | (with_reducible assumption) | assumption) : 0 ≤ t111)
                      have c18b0 := eq_true (of_decide_eq_true (by first | (with_reducible assumption) | assumption) : t111 ≤ (x0_1.size : Int))
                      have H' := Aside0.mk H
                      clear H
                      go_wp2_with (first | ((with_reducible refine gate_callee (f := 26) rfl ?_); refine goesL_ (some 10) rfl rfl Tryd.func26 (by kernel_rfl) rfl #[.string x0_1] rfl (by (try simp only [List.map_toArray, List.map_cons, List.map_nil]); first | done | rfl | (simp only [List.length_drop, List.length_take]; rfl)) ?_; (with_reducible refine (spoorref01_First.calls k1 x0_1 t110 t111 true _ A3.out).mono ?_); rintro e w19 ⟨rfl, hb⟩; refine ⟨_, rfl, ?_⟩; have n0_ := Aside0.mk (below_step (by repeat (first | (with_reducible first | exact HB.out | apply below_alloc | apply pw_below_drewN | apply below_drew1) | exact HB.out)) hb); clear HB; have HB := n0_; clear n0_; (try clear hb); (try clear hb2); (try clear hk); (try clear hi)) | ((with_reducible refine gate_dst (N := 4) rfl ?_); refine box_event ?hg (N := 4) ?hd (cs := #[.int .i64 0, .int .i64 0, .bool false]) (t := 42) ?hr ?_; (case hd => rfl); (case hg => rfl); (case hr => first | (go_simp; done) | (go_simp; rfl)); intro gb113 hg w20 hbox hb; have n0_ := Aside0.mk (below_step (by repeat (first | (with_reducible first | exact HB.out | apply below_alloc | apply pw_below_drewN | apply below_drew1) | exact HB.out)) hb); have n1_ := Aside0.mk (hbox); have n2_ := Aside0.mk ((by rw [hg]; exact (below_size (by repeat (first | (with_reducible first | exact HB.out | apply below_alloc | apply pw_below_drewN | apply below_drew1) | exact HB.out))) : w.heap.size ≤ gb113)); have n3_ := Aside0.mk ((by rw [hg]; exact (below_size (by repeat (first | (with_reducible first | exact HB.out | apply below_alloc | apply pw_below_drewN | apply below_drew1) | exact HB.out))) : w.heap.size ≤ gb113)); clear HB; have HB := n0_; have BK113 := n1_; have GW113 := n2_; have GE113 := n3_; clear n0_ n1_ n2_ n3_; clear hb hbox hg; have hcz21_0 : w20.cell? ⟨gb113, 0, none⟩ = some (.int .i64 0) := (blk_cell BK113.out 0).trans rfl; have hcz21_1 : w20.cell? ⟨gb113, 1, none⟩ = some (.int .i64 0) := (blk_cell BK113.out 1).trans rfl; have hcz21_2 : w20.cell? ⟨gb113, 2, none⟩ = some (.bool false) := (blk_cell BK113.out 2).trans rfl; have hfz21_0 := blk_frozen BK113.out 0; have hfz21_1 := blk_frozen BK113.out 1; have hfz21_2 := blk_frozen BK113.out 2))
                      go_roundg k1
                      case measure => have := HK1.out; omega
                      case rel => exact ⟨(x0_1.extract (t111 : Int).toNat x0_1.size), (x3_1 ++ (x0_1.extract 0 (t111 : Int).toNat)), (by first | rfl | (simp; done) | (simp [*]; done)), (by first | rfl | (simp; done) | (simp [*]; done)), H', ⟨by have := HK1.out; omega⟩, ⟨by repeat (first | (with_reducible first | exact HB.out | apply below_alloc | apply pw_below_drewN | apply below_drew1 | refine below_set ?_ GE113.out) | exact HB.out)⟩⟩
                    · rw [if_neg c16] at H
                      exact absurd H (by simp)
                  · rw [if_neg c15] at H
                    exact absurd H (by simp)
                · rw [if_neg c14] at H
                  exact absurd H (by simp)
              · rw [if_neg c13] at H
                have c13b0 : decide (t110 ≤ 126) = false := decide_eq_false c13
                clear c13
                by_cases c22 : t110 ≥ 161
                · rw [if_pos c22] at H
                  have c22b0 : decide (161 ≤ t110) = true := decide_eq_true c22
                  clear c22
                  by_cases c23 : t110 ≤ 591
                  · rw [if_pos c23] at H
                    have c23b0 : decide (t110 ≤ 591) = true := decide_eq_true c23
                    clear c23
                    by_cases c24 : 0 ≤ t111
                    · rw [if_pos c24] at H
                      have c24b0 := eq_true c24
                      have c24b1 : decide (0 ≤ t111) = true := decide_eq_true c24
                      clear c24
                      by_cases c25 : t111 ≤ (x0_1.size : Int)
                      · rw [if_pos c25] at H
                        have c25b0 := eq_true c25
                        have c25b1 : decide (t111 ≤ (x0_1.size : Int)) = true := decide_eq_true c25
                        clear c25
                        by_cases c26 : x3_1.size + (x0_1.extract 0 (t111 : Int).toNat).size ≤ 9223372036854775807
                        · rw [if_pos c26] at H
                          have c26b0 := eq_true c26
                          have c26b1 : decide (x3_1.size + (x0_1.extract 0 (t111 : Int).toNat).size ≤ 9223372036854775807) = true := decide_eq_true c26
                          try have c26b2 : (9223372036854775807 < x3_1.size + (x0_1.extract 0 (t111 : Int).toNat).size) = False := eq_false (Nat.not_lt.2 c26)
                          have c27b0 := eq_true (of_decide_eq_true (by first | (with_reducible assumption) | assumption) : 0 ≤ t111)
                          have c28b0 := eq_true (of_decide_eq_true (by first | (with_reducible assumption) | assumption) : t111 ≤ (x0_1.size : Int))
                          have H' := Aside0.mk H
                          clear H
                          go_wp2_with (first | ((with_reducible refine gate_callee (f := 26) rfl ?_); refine goesL_ (some 10) rfl rfl Tryd.func26 (by kernel_rfl) rfl #[.string x0_1] rfl (by (try simp only [List.map_toArray, List.map_cons, List.map_nil]); first | done | rfl | (simp only [List.length_drop, List.length_take]; rfl)) ?_; (with_reducible refine (spoorref01_First.calls k1 x0_1 t110 t111 true _ A3.out).mono ?_); rintro e w29 ⟨rfl, hb⟩; refine ⟨_, rfl, ?_⟩; have n0_ := Aside0.mk (below_step (by repeat (first | (with_reducible first | exact HB.out | apply below_alloc | apply pw_below_drewN | apply below_drew1) | exact HB.out)) hb); clear HB; have HB := n0_; clear n0_; (try clear hb); (try clear hb2); (try clear hk); (try clear hi)) | ((with_reducible refine gate_dst (N := 4) rfl ?_); refine box_event ?hg (N := 4) ?hd (cs := #[.int .i64 0, .int .i64 0, .bool false]) (t := 42) ?hr ?_; (case hd => rfl); (case hg => rfl); (case hr => first | (go_simp; done) | (go_simp; rfl)); intro gb113 hg w30 hbox hb; have n0_ := Aside0.mk (below_step (by repeat (first | (with_reducible first | exact HB.out | apply below_alloc | apply pw_below_drewN | apply below_drew1) | exact HB.out)) hb); have n1_ := Aside0.mk (hbox); have n2_ := Aside0.mk ((by rw [hg]; exact (below_size (by repeat (first | (with_reducible first | exact HB.out | apply below_alloc | apply pw_below_drewN | apply below_drew1) | exact HB.out))) : w.heap.size ≤ gb113)); have n3_ := Aside0.mk ((by rw [hg]; exact (below_size (by repeat (first | (with_reducible first | exact HB.out | apply below_alloc | apply pw_below_drewN | apply below_drew1) | exact HB.out))) : w.heap.size ≤ gb113)); clear HB; have HB := n0_; have BK113 := n1_; have GW113 := n2_; have GE113 := n3_; clear n0_ n1_ n2_ n3_; clear hb hbox hg; have hcz31_0 : w30.cell? ⟨gb113, 0, none⟩ = some (.int .i64 0) := (blk_cell BK113.out 0).trans rfl; have hcz31_1 : w30.cell? ⟨gb113, 1, none⟩ = some (.int .i64 0) := (blk_cell BK113.out 1).trans rfl; have hcz31_2 : w30.cell? ⟨gb113, 2, none⟩ = some (.bool false) := (blk_cell BK113.out 2).trans rfl; have hfz31_0 := blk_frozen BK113.out 0; have hfz31_1 := blk_frozen BK113.out 1; have hfz31_2 := blk_frozen BK113.out 2))
                          go_roundg k1
                          case measure => have := HK1.out; omega
                          case rel => exact ⟨(x0_1.extract (t111 : Int).toNat x0_1.size), (x3_1 ++ (x0_1.extract 0 (t111 : Int).toNat)), (by first | rfl | (simp; done) | (simp [*]; done)), (by first | rfl | (simp; done) | (simp [*]; done)), H', ⟨by have := HK1.out; omega⟩, ⟨by repeat (first | (with_reducible first | exact HB.out | apply below_alloc | apply pw_below_drewN | apply below_drew1 | refine below_set ?_ GE113.out) | exact HB.out)⟩⟩
                        · rw [if_neg c26] at H
                          exact absurd H (by simp)
                      · rw [if_neg c25] at H
                        exact absurd H (by simp)
                    · rw [if_neg c24] at H
                      exact absurd H (by simp)
                  · rw [if_neg c23] at H
                    have c23b0 : decide (t110 ≤ 591) = false := decide_eq_false c23
                    clear c23
                    replace H := Option.bind_eq_some_iff.mp H
                    obtain ⟨t114, A320, H⟩ := H
                    replace H : (if 2 + t114.size ≤ 9223372036854775807 then (if ((⟨#[92, 117]⟩ : ByteArray) ++ t114).size + 1 ≤ 9223372036854775807 then (if x3_1.size + (((⟨#[92, 117]⟩ : ByteArray) ++ t114) ++ (⟨#[46]⟩ : ByteArray)).size ≤ 9223372036854775807 then (if 0 ≤ t111 then (if t111 ≤ (x0_1.size : Int) then (spoorref01_Quote.l0 k1 (x0_1.extract (t111 : Int).toNat x0_1.size) (x3_1 ++ (((⟨#[92, 117]⟩ : ByteArray) ++ t114) ++ (⟨#[46]⟩ : ByteArray)))) else (none)) else (none)) else (none)) else (none)) else (none)) = some r := H
                    have A32 := Aside0.mk A320
                    clear A320
                    by_cases c33 : 2 + t114.size ≤ 9223372036854775807
                    · rw [if_pos c33] at H
                      have c33b0 := eq_true c33
                      have c33b1 : decide (2 + t114.size ≤ 9223372036854775807) = true := decide_eq_true c33
                      try have c33b2 : (9223372036854775807 < 2 + t114.size) = False := eq_false (Nat.not_lt.2 c33)
                      by_cases c34 : ((⟨#[92, 117]⟩ : ByteArray) ++ t114).size + 1 ≤ 9223372036854775807
                      · rw [if_pos c34] at H
                        have c34b0 := eq_true c34
                        have c34b1 : decide (((⟨#[92, 117]⟩ : ByteArray) ++ t114).size + 1 ≤ 9223372036854775807) = true := decide_eq_true c34
                        try have c34b2 : (9223372036854775807 < ((⟨#[92, 117]⟩ : ByteArray) ++ t114).size + 1) = False := eq_false (Nat.not_lt.2 c34)
                        have c34b3 : (9223372036854775807 < 2 + t114.size + 1) = False := eq_false (by have h := of_eq_true c34b0; simp only [ByteArray.size_append] at h; have e1 : (⟨#[92, 117]⟩ : ByteArray).size = 2 := rfl; have e2 : (⟨#[46]⟩ : ByteArray).size = 1 := rfl; have e3 : (⟨#[92, 120]⟩ : ByteArray).size = 2 := rfl; omega)
                        by_cases c35 : x3_1.size + (((⟨#[92, 117]⟩ : ByteArray) ++ t114) ++ (⟨#[46]⟩ : ByteArray)).size ≤ 9223372036854775807
                        · rw [if_pos c35] at H
                          have c35b0 := eq_true c35
                          have c35b1 : decide (x3_1.size + (((⟨#[92, 117]⟩ : ByteArray) ++ t114) ++ (⟨#[46]⟩ : ByteArray)).size ≤ 9223372036854775807) = true := decide_eq_true c35
                          try have c35b2 : (9223372036854775807 < x3_1.size + (((⟨#[92, 117]⟩ : ByteArray) ++ t114) ++ (⟨#[46]⟩ : ByteArray)).size) = False := eq_false (Nat.not_lt.2 c35)
                          have c35b3 : (9223372036854775807 < x3_1.size + (2 + t114.size + 1)) = False := eq_false (by have h := of_eq_true c35b0; simp only [ByteArray.size_append] at h; have e1 : (⟨#[92, 117]⟩ : ByteArray).size = 2 := rfl; have e2 : (⟨#[46]⟩ : ByteArray).size = 1 := rfl; have e3 : (⟨#[92, 120]⟩ : ByteArray).size = 2 := rfl; omega)
                          by_cases c36 : 0 ≤ t111
                          · rw [if_pos c36] at H
                            have c36b0 := eq_true c36
                            have c36b1 : decide (0 ≤ t111) = true := decide_eq_true c36
                            clear c36
                            by_cases c37 : t111 ≤ (x0_1.size : Int)
                            · rw [if_pos c37] at H
                              have c37b0 := eq_true c37
                              have c37b1 : decide (t111 ≤ (x0_1.size : Int)) = true := decide_eq_true c37
                              clear c37
                              have H' := Aside0.mk H
                              clear H
                              go_wp2_with (first | ((with_reducible refine gate_callee (f := 26) rfl ?_); refine goesL_ (some 10) rfl rfl Tryd.func26 (by kernel_rfl) rfl #[.string x0_1] rfl (by (try simp only [List.map_toArray, List.map_cons, List.map_nil]); first | done | rfl | (simp only [List.length_drop, List.length_take]; rfl)) ?_; (with_reducible refine (spoorref01_First.calls k1 x0_1 t110 t111 true _ A3.out).mono ?_); rintro e w38 ⟨rfl, hb⟩; refine ⟨_, rfl, ?_⟩; have n0_ := Aside0.mk (below_step (by repeat (first | (with_reducible first | exact HB.out | apply below_alloc | apply pw_below_drewN | apply below_drew1) | exact HB.out)) hb); clear HB; have HB := n0_; clear n0_; (try clear hb); (try clear hb2); (try clear hk); (try clear hi)) | ((with_reducible refine gate_dst (N := 4) rfl ?_); refine box_event ?hg (N := 4) ?hd (cs := #[.int .i64 0, .int .i64 0, .bool false]) (t := 42) ?hr ?_; (case hd => rfl); (case hg => rfl); (case hr => first | (go_simp; done) | (go_simp; rfl)); intro gb113 hg w39 hbox hb; have n0_ := Aside0.mk (below_step (by repeat (first | (with_reducible first | exact HB.out | apply below_alloc | apply pw_below_drewN | apply below_drew1) | exact HB.out)) hb); have n1_ := Aside0.mk (hbox); have n2_ := Aside0.mk ((by rw [hg]; exact (below_size (by repeat (first | (with_reducible first | exact HB.out | apply below_alloc | apply pw_below_drewN | apply below_drew1) | exact HB.out))) : w.heap.size ≤ gb113)); have n3_ := Aside0.mk ((by rw [hg]; exact (below_size (by repeat (first | (with_reducible first | exact HB.out | apply below_alloc | apply pw_below_drewN | apply below_drew1) | exact HB.out))) : w.heap.size ≤ gb113)); clear HB; have HB := n0_; have BK113 := n1_; have GW113 := n2_; have GE113 := n3_; clear n0_ n1_ n2_ n3_; clear hb hbox hg; have hcz40_0 : w39.cell? ⟨gb113, 0, none⟩ = some (.int .i64 0) := (blk_cell BK113.out 0).trans rfl; have hcz40_1 : w39.cell? ⟨gb113, 1, none⟩ = some (.int .i64 0) := (blk_cell BK113.out 1).trans rfl; have hcz40_2 : w39.cell? ⟨gb113, 2, none⟩ = some (.bool false) := (blk_cell BK113.out 2).trans rfl; have hfz40_0 := blk_frozen BK113.out 0; have hfz40_1 := blk_frozen BK113.out 1; have hfz40_2 := blk_frozen BK113.out 2) | ((with_reducible refine gate_callee (f := 39) rfl ?_); refine goesL_ (some 14) rfl rfl Tryd.func39 (by kernel_rfl) rfl #[.int .i64 t110] rfl (by (try simp only [List.map_toArray, List.map_cons, List.map_nil]); first | done | rfl | (simp only [List.length_drop, List.length_take]; rfl)) ?_; (with_reducible refine (spoorref01_hex.calls k1 t110 t114 _ A32.out).mono ?_); rintro e w41 ⟨rfl, hb⟩; refine ⟨_, rfl, ?_⟩; have n0_ := Aside0.mk (blk_below (g := gb113) (o := .cells #[.int .i64 t110, .int .i64 t111, .bool true] 42 (0, 0)) (by (with_reducible repeat (first | refine blk_drewN ?_ _ | refine blk_drew ?_ | refine blk_alloc ?_ _)); refine blk_put (cs := #[.int .i64 t110, .int .i64 t111, .bool false]) ?_ 2 _ rfl; (with_reducible repeat (first | refine blk_drewN ?_ _ | refine blk_drew ?_ | refine blk_alloc ?_ _)); refine blk_put (cs := #[.int .i64 t110, .int .i64 0, .bool false]) ?_ 1 _ rfl; (with_reducible repeat (first | refine blk_drewN ?_ _ | refine blk_drew ?_ | refine blk_alloc ?_ _)); refine blk_put (cs := #[.int .i64 0, .int .i64 0, .bool false]) ?_ 0 _ rfl; (with_reducible repeat (first | refine blk_drewN ?_ _ | refine blk_drew ?_ | refine blk_alloc ?_ _)); exact BK113.out) hb); have n1_ := Aside0.mk (below_step (by repeat (first | (with_reducible first | exact HB.out | apply below_alloc | apply pw_below_drewN | apply below_drew1 | refine below_set ?_ GE113.out) | exact HB.out)) hb); clear BK113; clear HB; have BK113 := n0_; have HB := n1_; clear n0_ n1_; (try clear hb); (try clear hb2); (try clear hk); (try clear hi); have hcz42_0 : w41.cell? ⟨gb113, 0, none⟩ = some (.int .i64 t110) := (blk_cell BK113.out 0).trans rfl; have hcz42_1 : w41.cell? ⟨gb113, 1, none⟩ = some (.int .i64 t111) := (blk_cell BK113.out 1).trans rfl; have hcz42_2 : w41.cell? ⟨gb113, 2, none⟩ = some (.bool true) := (blk_cell BK113.out 2).trans rfl; have hfz42_0 := blk_frozen BK113.out 0; have hfz42_1 := blk_frozen BK113.out 1; have hfz42_2 := blk_frozen BK113.out 2))
                              go_roundg k1
                              case measure => have := HK1.out; omega
                              case rel => exact ⟨(x0_1.extract (t111 : Int).toNat x0_1.size), (x3_1 ++ (((⟨#[92, 117]⟩ : ByteArray) ++ t114) ++ (⟨#[46]⟩ : ByteArray))), (by first | rfl | (simp; done) | (simp [*]; done)), (by first | rfl | (simp; done) | (simp [*]; done)), H', ⟨by have := HK1.out; omega⟩, ⟨by repeat (first | (with_reducible first | exact HB.out | apply below_alloc | apply pw_below_drewN | apply below_drew1 | refine below_set ?_ GE113.out) | exact HB.out)⟩⟩
                            · rw [if_neg c37] at H
                              exact absurd H (by simp)
                          · rw [if_neg c36] at H
                            exact absurd H (by simp)
                        · rw [if_neg c35] at H
                          exact absurd H (by simp)
                      · rw [if_neg c34] at H
                        exact absurd H (by simp)
                    · rw [if_neg c33] at H
                      exact absurd H (by simp)
                · rw [if_neg c22] at H
                  have c22b0 : decide (161 ≤ t110) = false := decide_eq_false c22
                  clear c22
                  replace H := Option.bind_eq_some_iff.mp H
                  obtain ⟨t115, A430, H⟩ := H
                  replace H : (if 2 + t115.size ≤ 9223372036854775807 then (if ((⟨#[92, 117]⟩ : ByteArray) ++ t115).size + 1 ≤ 9223372036854775807 then (if x3_1.size + (((⟨#[92, 117]⟩ : ByteArray) ++ t115) ++ (⟨#[46]⟩ : ByteArray)).size ≤ 9223372036854775807 then (if 0 ≤ t111 then (if t111 ≤ (x0_1.size : Int) then (spoorref01_Quote.l0 k1 (x0_1.extract (t111 : Int).toNat x0_1.size) (x3_1 ++ (((⟨#[92, 117]⟩ : ByteArray) ++ t115) ++ (⟨#[46]⟩ : ByteArray)))) else (none)) else (none)) else (none)) else (none)) else (none)) = some r := H
                  have A43 := Aside0.mk A430
                  clear A430
                  by_cases c44 : 2 + t115.size ≤ 9223372036854775807
                  · rw [if_pos c44] at H
                    have c44b0 := eq_true c44
                    have c44b1 : decide (2 + t115.size ≤ 9223372036854775807) = true := decide_eq_true c44
                    try have c44b2 : (9223372036854775807 < 2 + t115.size) = False := eq_false (Nat.not_lt.2 c44)
                    by_cases c45 : ((⟨#[92, 117]⟩ : ByteArray) ++ t115).size + 1 ≤ 9223372036854775807
                    · rw [if_pos c45] at H
                      have c45b0 := eq_true c45
                      have c45b1 : decide (((⟨#[92, 117]⟩ : ByteArray) ++ t115).size + 1 ≤ 9223372036854775807) = true := decide_eq_true c45
                      try have c45b2 : (9223372036854775807 < ((⟨#[92, 117]⟩ : ByteArray) ++ t115).size + 1) = False := eq_false (Nat.not_lt.2 c45)
                      have c45b3 : (9223372036854775807 < 2 + t115.size + 1) = False := eq_false (by have h := of_eq_true c45b0; simp only [ByteArray.size_append] at h; have e1 : (⟨#[92, 117]⟩ : ByteArray).size = 2 := rfl; have e2 : (⟨#[46]⟩ : ByteArray).size = 1 := rfl; have e3 : (⟨#[92, 120]⟩ : ByteArray).size = 2 := rfl; omega)
                      by_cases c46 : x3_1.size + (((⟨#[92, 117]⟩ : ByteArray) ++ t115) ++ (⟨#[46]⟩ : ByteArray)).size ≤ 9223372036854775807
                      · rw [if_pos c46] at H
                        have c46b0 := eq_true c46
                        have c46b1 : decide (x3_1.size + (((⟨#[92, 117]⟩ : ByteArray) ++ t115) ++ (⟨#[46]⟩ : ByteArray)).size ≤ 9223372036854775807) = true := decide_eq_true c46
                        try have c46b2 : (9223372036854775807 < x3_1.size + (((⟨#[92, 117]⟩ : ByteArray) ++ t115) ++ (⟨#[46]⟩ : ByteArray)).size) = False := eq_false (Nat.not_lt.2 c46)
                        have c46b3 : (9223372036854775807 < x3_1.size + (2 + t115.size + 1)) = False := eq_false (by have h := of_eq_true c46b0; simp only [ByteArray.size_append] at h; have e1 : (⟨#[92, 117]⟩ : ByteArray).size = 2 := rfl; have e2 : (⟨#[46]⟩ : ByteArray).size = 1 := rfl; have e3 : (⟨#[92, 120]⟩ : ByteArray).size = 2 := rfl; omega)
                        by_cases c47 : 0 ≤ t111
                        · rw [if_pos c47] at H
                          have c47b0 := eq_true c47
                          have c47b1 : decide (0 ≤ t111) = true := decide_eq_true c47
                          clear c47
                          by_cases c48 : t111 ≤ (x0_1.size : Int)
                          · rw [if_pos c48] at H
                            have c48b0 := eq_true c48
                            have c48b1 : decide (t111 ≤ (x0_1.size : Int)) = true := decide_eq_true c48
                            clear c48
                            have H' := Aside0.mk H
                            clear H
                            go_wp2_with (first | ((with_reducible refine gate_callee (f := 26) rfl ?_); refine goesL_ (some 10) rfl rfl Tryd.func26 (by kernel_rfl) rfl #[.string x0_1] rfl (by (try simp only [List.map_toArray, List.map_cons, List.map_nil]); first | done | rfl | (simp only [List.length_drop, List.length_take]; rfl)) ?_; (with_reducible refine (spoorref01_First.calls k1 x0_1 t110 t111 true _ A3.out).mono ?_); rintro e w49 ⟨rfl, hb⟩; refine ⟨_, rfl, ?_⟩; have n0_ := Aside0.mk (below_step (by repeat (first | (with_reducible first | exact HB.out | apply below_alloc | apply pw_below_drewN | apply below_drew1) | exact HB.out)) hb); clear HB; have HB := n0_; clear n0_; (try clear hb); (try clear hb2); (try clear hk); (try clear hi)) | ((with_reducible refine gate_dst (N := 4) rfl ?_); refine box_event ?hg (N := 4) ?hd (cs := #[.int .i64 0, .int .i64 0, .bool false]) (t := 42) ?hr ?_; (case hd => rfl); (case hg => rfl); (case hr => first | (go_simp; done) | (go_simp; rfl)); intro gb113 hg w50 hbox hb; have n0_ := Aside0.mk (below_step (by repeat (first | (with_reducible first | exact HB.out | apply below_alloc | apply pw_below_drewN | apply below_drew1) | exact HB.out)) hb); have n1_ := Aside0.mk (hbox); have n2_ := Aside0.mk ((by rw [hg]; exact (below_size (by repeat (first | (with_reducible first | exact HB.out | apply below_alloc | apply pw_below_drewN | apply below_drew1) | exact HB.out))) : w.heap.size ≤ gb113)); have n3_ := Aside0.mk ((by rw [hg]; exact (below_size (by repeat (first | (with_reducible first | exact HB.out | apply below_alloc | apply pw_below_drewN | apply below_drew1) | exact HB.out))) : w.heap.size ≤ gb113)); clear HB; have HB := n0_; have BK113 := n1_; have GW113 := n2_; have GE113 := n3_; clear n0_ n1_ n2_ n3_; clear hb hbox hg; have hcz51_0 : w50.cell? ⟨gb113, 0, none⟩ = some (.int .i64 0) := (blk_cell BK113.out 0).trans rfl; have hcz51_1 : w50.cell? ⟨gb113, 1, none⟩ = some (.int .i64 0) := (blk_cell BK113.out 1).trans rfl; have hcz51_2 : w50.cell? ⟨gb113, 2, none⟩ = some (.bool false) := (blk_cell BK113.out 2).trans rfl; have hfz51_0 := blk_frozen BK113.out 0; have hfz51_1 := blk_frozen BK113.out 1; have hfz51_2 := blk_frozen BK113.out 2) | ((with_reducible refine gate_callee (f := 39) rfl ?_); refine goesL_ (some 14) rfl rfl Tryd.func39 (by kernel_rfl) rfl #[.int .i64 t110] rfl (by (try simp only [List.map_toArray, List.map_cons, List.map_nil]); first | done | rfl | (simp only [List.length_drop, List.length_take]; rfl)) ?_; (with_reducible refine (spoorref01_hex.calls k1 t110 t115 _ A43.out).mono ?_); rintro e w52 ⟨rfl, hb⟩; refine ⟨_, rfl, ?_⟩; have n0_ := Aside0.mk (blk_below (g := gb113) (o := .cells #[.int .i64 t110, .int .i64 t111, .bool true] 42 (0, 0)) (by (with_reducible repeat (first | refine blk_drewN ?_ _ | refine blk_drew ?_ | refine blk_alloc ?_ _)); refine blk_put (cs := #[.int .i64 t110, .int .i64 t111, .bool false]) ?_ 2 _ rfl; (with_reducible repeat (first | refine blk_drewN ?_ _ | refine blk_drew ?_ | refine blk_alloc ?_ _)); refine blk_put (cs := #[.int .i64 t110, .int .i64 0, .bool false]) ?_ 1 _ rfl; (with_reducible repeat (first | refine blk_drewN ?_ _ | refine blk_drew ?_ | refine blk_alloc ?_ _)); refine blk_put (cs := #[.int .i64 0, .int .i64 0, .bool false]) ?_ 0 _ rfl; (with_reducible repeat (first | refine blk_drewN ?_ _ | refine blk_drew ?_ | refine blk_alloc ?_ _)); exact BK113.out) hb); have n1_ := Aside0.mk (below_step (by repeat (first | (with_reducible first | exact HB.out | apply below_alloc | apply pw_below_drewN | apply below_drew1 | refine below_set ?_ GE113.out) | exact HB.out)) hb); clear BK113; clear HB; have BK113 := n0_; have HB := n1_; clear n0_ n1_; (try clear hb); (try clear hb2); (try clear hk); (try clear hi); have hcz53_0 : w52.cell? ⟨gb113, 0, none⟩ = some (.int .i64 t110) := (blk_cell BK113.out 0).trans rfl; have hcz53_1 : w52.cell? ⟨gb113, 1, none⟩ = some (.int .i64 t111) := (blk_cell BK113.out 1).trans rfl; have hcz53_2 : w52.cell? ⟨gb113, 2, none⟩ = some (.bool true) := (blk_cell BK113.out 2).trans rfl; have hfz53_0 := blk_frozen BK113.out 0; have hfz53_1 := blk_frozen BK113.out 1; have hfz53_2 := blk_frozen BK113.out 2))
                            go_roundg k1
                            case measure => have := HK1.out; omega
                            case rel => exact ⟨(x0_1.extract (t111 : Int).toNat x0_1.size), (x3_1 ++ (((⟨#[92, 117]⟩ : ByteArray) ++ t115) ++ (⟨#[46]⟩ : ByteArray))), (by first | rfl | (simp; done) | (simp [*]; done)), (by first | rfl | (simp; done) | (simp [*]; done)), H', ⟨by have := HK1.out; omega⟩, ⟨by repeat (first | (with_reducible first | exact HB.out | apply below_alloc | apply pw_below_drewN | apply below_drew1 | refine below_set ?_ GE113.out) | exact HB.out)⟩⟩
                          · rw [if_neg c48] at H
                            exact absurd H (by simp)
                        · rw [if_neg c47] at H
                          exact absurd H (by simp)
                      · rw [if_neg c46] at H
                        exact absurd H (by simp)
                    · rw [if_neg c45] at H
                      exact absurd H (by simp)
                  · rw [if_neg c44] at H
                    exact absurd H (by simp)
            · rw [if_neg c12] at H
              have c12b0 : decide (32 ≤ t110) = false := decide_eq_false c12
              clear c12
              by_cases c54 : t110 ≥ 161
              · rw [if_pos c54] at H
                have c54b0 : decide (161 ≤ t110) = true := decide_eq_true c54
                clear c54
                by_cases c55 : t110 ≤ 591
                · rw [if_pos c55] at H
                  have c55b0 : decide (t110 ≤ 591) = true := decide_eq_true c55
                  clear c55
                  by_cases c56 : 0 ≤ t111
                  · rw [if_pos c56] at H
                    have c56b0 := eq_true c56
                    have c56b1 : decide (0 ≤ t111) = true := decide_eq_true c56
                    clear c56
                    by_cases c57 : t111 ≤ (x0_1.size : Int)
                    · rw [if_pos c57] at H
                      have c57b0 := eq_true c57
                      have c57b1 : decide (t111 ≤ (x0_1.size : Int)) = true := decide_eq_true c57
                      clear c57
                      by_cases c58 : x3_1.size + (x0_1.extract 0 (t111 : Int).toNat).size ≤ 9223372036854775807
                      · rw [if_pos c58] at H
                        have c58b0 := eq_true c58
                        have c58b1 : decide (x3_1.size + (x0_1.extract 0 (t111 : Int).toNat).size ≤ 9223372036854775807) = true := decide_eq_true c58
                        try have c58b2 : (9223372036854775807 < x3_1.size + (x0_1.extract 0 (t111 : Int).toNat).size) = False := eq_false (Nat.not_lt.2 c58)
                        have c59b0 := eq_true (of_decide_eq_true (by first | (with_reducible assumption) | assumption) : 0 ≤ t111)
                        have c60b0 := eq_true (of_decide_eq_true (by first | (with_reducible assumption) | assumption) : t111 ≤ (x0_1.size : Int))
                        have H' := Aside0.mk H
                        clear H
                        go_wp2_with (first | ((with_reducible refine gate_callee (f := 26) rfl ?_); refine goesL_ (some 10) rfl rfl Tryd.func26 (by kernel_rfl) rfl #[.string x0_1] rfl (by (try simp only [List.map_toArray, List.map_cons, List.map_nil]); first | done | rfl | (simp only [List.length_drop, List.length_take]; rfl)) ?_; (with_reducible refine (spoorref01_First.calls k1 x0_1 t110 t111 true _ A3.out).mono ?_); rintro e w61 ⟨rfl, hb⟩; refine ⟨_, rfl, ?_⟩; have n0_ := Aside0.mk (below_step (by repeat (first | (with_reducible first | exact HB.out | apply below_alloc | apply pw_below_drewN | apply below_drew1) | exact HB.out)) hb); clear HB; have HB := n0_; clear n0_; (try clear hb); (try clear hb2); (try clear hk); (try clear hi)) | ((with_reducible refine gate_dst (N := 4) rfl ?_); refine box_event ?hg (N := 4) ?hd (cs := #[.int .i64 0, .int .i64 0, .bool false]) (t := 42) ?hr ?_; (case hd => rfl); (case hg => rfl); (case hr => first | (go_simp; done) | (go_simp; rfl)); intro gb113 hg w62 hbox hb; have n0_ := Aside0.mk (below_step (by repeat (first | (with_reducible first | exact HB.out | apply below_alloc | apply pw_below_drewN | apply below_drew1) | exact HB.out)) hb); have n1_ := Aside0.mk (hbox); have n2_ := Aside0.mk ((by rw [hg]; exact (below_size (by repeat (first | (with_reducible first | exact HB.out | apply below_alloc | apply pw_below_drewN | apply below_drew1) | exact HB.out))) : w.heap.size ≤ gb113)); have n3_ := Aside0.mk ((by rw [hg]; exact (below_size (by repeat (first | (with_reducible first | exact HB.out | apply below_alloc | apply pw_below_drewN | apply below_drew1) | exact HB.out))) : w.heap.size ≤ gb113)); clear HB; have HB := n0_; have BK113 := n1_; have GW113 := n2_; have GE113 := n3_; clear n0_ n1_ n2_ n3_; clear hb hbox hg; have hcz63_0 : w62.cell? ⟨gb113, 0, none⟩ = some (.int .i64 0) := (blk_cell BK113.out 0).trans rfl; have hcz63_1 : w62.cell? ⟨gb113, 1, none⟩ = some (.int .i64 0) := (blk_cell BK113.out 1).trans rfl; have hcz63_2 : w62.cell? ⟨gb113, 2, none⟩ = some (.bool false) := (blk_cell BK113.out 2).trans rfl; have hfz63_0 := blk_frozen BK113.out 0; have hfz63_1 := blk_frozen BK113.out 1; have hfz63_2 := blk_frozen BK113.out 2))
                        go_roundg k1
                        case measure => have := HK1.out; omega
                        case rel => exact ⟨(x0_1.extract (t111 : Int).toNat x0_1.size), (x3_1 ++ (x0_1.extract 0 (t111 : Int).toNat)), (by first | rfl | (simp; done) | (simp [*]; done)), (by first | rfl | (simp; done) | (simp [*]; done)), H', ⟨by have := HK1.out; omega⟩, ⟨by repeat (first | (with_reducible first | exact HB.out | apply below_alloc | apply pw_below_drewN | apply below_drew1 | refine below_set ?_ GE113.out) | exact HB.out)⟩⟩
                      · rw [if_neg c58] at H
                        exact absurd H (by simp)
                    · rw [if_neg c57] at H
                      exact absurd H (by simp)
                  · rw [if_neg c56] at H
                    exact absurd H (by simp)
                · rw [if_neg c55] at H
                  have c55b0 : decide (t110 ≤ 591) = false := decide_eq_false c55
                  clear c55
                  replace H := Option.bind_eq_some_iff.mp H
                  obtain ⟨t116, A640, H⟩ := H
                  replace H : (if 2 + t116.size ≤ 9223372036854775807 then (if ((⟨#[92, 117]⟩ : ByteArray) ++ t116).size + 1 ≤ 9223372036854775807 then (if x3_1.size + (((⟨#[92, 117]⟩ : ByteArray) ++ t116) ++ (⟨#[46]⟩ : ByteArray)).size ≤ 9223372036854775807 then (if 0 ≤ t111 then (if t111 ≤ (x0_1.size : Int) then (spoorref01_Quote.l0 k1 (x0_1.extract (t111 : Int).toNat x0_1.size) (x3_1 ++ (((⟨#[92, 117]⟩ : ByteArray) ++ t116) ++ (⟨#[46]⟩ : ByteArray)))) else (none)) else (none)) else (none)) else (none)) else (none)) = some r := H
                  have A64 := Aside0.mk A640
                  clear A640
                  by_cases c65 : 2 + t116.size ≤ 9223372036854775807
                  · rw [if_pos c65] at H
                    have c65b0 := eq_true c65
                    have c65b1 : decide (2 + t116.size ≤ 9223372036854775807) = true := decide_eq_true c65
                    try have c65b2 : (9223372036854775807 < 2 + t116.size) = False := eq_false (Nat.not_lt.2 c65)
                    by_cases c66 : ((⟨#[92, 117]⟩ : ByteArray) ++ t116).size + 1 ≤ 9223372036854775807
                    · rw [if_pos c66] at H
                      have c66b0 := eq_true c66
                      have c66b1 : decide (((⟨#[92, 117]⟩ : ByteArray) ++ t116).size + 1 ≤ 9223372036854775807) = true := decide_eq_true c66
                      try have c66b2 : (9223372036854775807 < ((⟨#[92, 117]⟩ : ByteArray) ++ t116).size + 1) = False := eq_false (Nat.not_lt.2 c66)
                      have c66b3 : (9223372036854775807 < 2 + t116.size + 1) = False := eq_false (by have h := of_eq_true c66b0; simp only [ByteArray.size_append] at h; have e1 : (⟨#[92, 117]⟩ : ByteArray).size = 2 := rfl; have e2 : (⟨#[46]⟩ : ByteArray).size = 1 := rfl; have e3 : (⟨#[92, 120]⟩ : ByteArray).size = 2 := rfl; omega)
                      by_cases c67 : x3_1.size + (((⟨#[92, 117]⟩ : ByteArray) ++ t116) ++ (⟨#[46]⟩ : ByteArray)).size ≤ 9223372036854775807
                      · rw [if_pos c67] at H
                        have c67b0 := eq_true c67
                        have c67b1 : decide (x3_1.size + (((⟨#[92, 117]⟩ : ByteArray) ++ t116) ++ (⟨#[46]⟩ : ByteArray)).size ≤ 9223372036854775807) = true := decide_eq_true c67
                        try have c67b2 : (9223372036854775807 < x3_1.size + (((⟨#[92, 117]⟩ : ByteArray) ++ t116) ++ (⟨#[46]⟩ : ByteArray)).size) = False := eq_false (Nat.not_lt.2 c67)
                        have c67b3 : (9223372036854775807 < x3_1.size + (2 + t116.size + 1)) = False := eq_false (by have h := of_eq_true c67b0; simp only [ByteArray.size_append] at h; have e1 : (⟨#[92, 117]⟩ : ByteArray).size = 2 := rfl; have e2 : (⟨#[46]⟩ : ByteArray).size = 1 := rfl; have e3 : (⟨#[92, 120]⟩ : ByteArray).size = 2 := rfl; omega)
                        by_cases c68 : 0 ≤ t111
                        · rw [if_pos c68] at H
                          have c68b0 := eq_true c68
                          have c68b1 : decide (0 ≤ t111) = true := decide_eq_true c68
                          clear c68
                          by_cases c69 : t111 ≤ (x0_1.size : Int)
                          · rw [if_pos c69] at H
                            have c69b0 := eq_true c69
                            have c69b1 : decide (t111 ≤ (x0_1.size : Int)) = true := decide_eq_true c69
                            clear c69
                            have H' := Aside0.mk H
                            clear H
                            go_wp2_with (first | ((with_reducible refine gate_callee (f := 26) rfl ?_); refine goesL_ (some 10) rfl rfl Tryd.func26 (by kernel_rfl) rfl #[.string x0_1] rfl (by (try simp only [List.map_toArray, List.map_cons, List.map_nil]); first | done | rfl | (simp only [List.length_drop, List.length_take]; rfl)) ?_; (with_reducible refine (spoorref01_First.calls k1 x0_1 t110 t111 true _ A3.out).mono ?_); rintro e w70 ⟨rfl, hb⟩; refine ⟨_, rfl, ?_⟩; have n0_ := Aside0.mk (below_step (by repeat (first | (with_reducible first | exact HB.out | apply below_alloc | apply pw_below_drewN | apply below_drew1) | exact HB.out)) hb); clear HB; have HB := n0_; clear n0_; (try clear hb); (try clear hb2); (try clear hk); (try clear hi)) | ((with_reducible refine gate_dst (N := 4) rfl ?_); refine box_event ?hg (N := 4) ?hd (cs := #[.int .i64 0, .int .i64 0, .bool false]) (t := 42) ?hr ?_; (case hd => rfl); (case hg => rfl); (case hr => first | (go_simp; done) | (go_simp; rfl)); intro gb113 hg w71 hbox hb; have n0_ := Aside0.mk (below_step (by repeat (first | (with_reducible first | exact HB.out | apply below_alloc | apply pw_below_drewN | apply below_drew1) | exact HB.out)) hb); have n1_ := Aside0.mk (hbox); have n2_ := Aside0.mk ((by rw [hg]; exact (below_size (by repeat (first | (with_reducible first | exact HB.out | apply below_alloc | apply pw_below_drewN | apply below_drew1) | exact HB.out))) : w.heap.size ≤ gb113)); have n3_ := Aside0.mk ((by rw [hg]; exact (below_size (by repeat (first | (with_reducible first | exact HB.out | apply below_alloc | apply pw_below_drewN | apply below_drew1) | exact HB.out))) : w.heap.size ≤ gb113)); clear HB; have HB := n0_; have BK113 := n1_; have GW113 := n2_; have GE113 := n3_; clear n0_ n1_ n2_ n3_; clear hb hbox hg; have hcz72_0 : w71.cell? ⟨gb113, 0, none⟩ = some (.int .i64 0) := (blk_cell BK113.out 0).trans rfl; have hcz72_1 : w71.cell? ⟨gb113, 1, none⟩ = some (.int .i64 0) := (blk_cell BK113.out 1).trans rfl; have hcz72_2 : w71.cell? ⟨gb113, 2, none⟩ = some (.bool false) := (blk_cell BK113.out 2).trans rfl; have hfz72_0 := blk_frozen BK113.out 0; have hfz72_1 := blk_frozen BK113.out 1; have hfz72_2 := blk_frozen BK113.out 2) | ((with_reducible refine gate_callee (f := 39) rfl ?_); refine goesL_ (some 14) rfl rfl Tryd.func39 (by kernel_rfl) rfl #[.int .i64 t110] rfl (by (try simp only [List.map_toArray, List.map_cons, List.map_nil]); first | done | rfl | (simp only [List.length_drop, List.length_take]; rfl)) ?_; (with_reducible refine (spoorref01_hex.calls k1 t110 t116 _ A64.out).mono ?_); rintro e w73 ⟨rfl, hb⟩; refine ⟨_, rfl, ?_⟩; have n0_ := Aside0.mk (blk_below (g := gb113) (o := .cells #[.int .i64 t110, .int .i64 t111, .bool true] 42 (0, 0)) (by (with_reducible repeat (first | refine blk_drewN ?_ _ | refine blk_drew ?_ | refine blk_alloc ?_ _)); refine blk_put (cs := #[.int .i64 t110, .int .i64 t111, .bool false]) ?_ 2 _ rfl; (with_reducible repeat (first | refine blk_drewN ?_ _ | refine blk_drew ?_ | refine blk_alloc ?_ _)); refine blk_put (cs := #[.int .i64 t110, .int .i64 0, .bool false]) ?_ 1 _ rfl; (with_reducible repeat (first | refine blk_drewN ?_ _ | refine blk_drew ?_ | refine blk_alloc ?_ _)); refine blk_put (cs := #[.int .i64 0, .int .i64 0, .bool false]) ?_ 0 _ rfl; (with_reducible repeat (first | refine blk_drewN ?_ _ | refine blk_drew ?_ | refine blk_alloc ?_ _)); exact BK113.out) hb); have n1_ := Aside0.mk (below_step (by repeat (first | (with_reducible first | exact HB.out | apply below_alloc | apply pw_below_drewN | apply below_drew1 | refine below_set ?_ GE113.out) | exact HB.out)) hb); clear BK113; clear HB; have BK113 := n0_; have HB := n1_; clear n0_ n1_; (try clear hb); (try clear hb2); (try clear hk); (try clear hi); have hcz74_0 : w73.cell? ⟨gb113, 0, none⟩ = some (.int .i64 t110) := (blk_cell BK113.out 0).trans rfl; have hcz74_1 : w73.cell? ⟨gb113, 1, none⟩ = some (.int .i64 t111) := (blk_cell BK113.out 1).trans rfl; have hcz74_2 : w73.cell? ⟨gb113, 2, none⟩ = some (.bool true) := (blk_cell BK113.out 2).trans rfl; have hfz74_0 := blk_frozen BK113.out 0; have hfz74_1 := blk_frozen BK113.out 1; have hfz74_2 := blk_frozen BK113.out 2))
                            go_roundg k1
                            case measure => have := HK1.out; omega
                            case rel => exact ⟨(x0_1.extract (t111 : Int).toNat x0_1.size), (x3_1 ++ (((⟨#[92, 117]⟩ : ByteArray) ++ t116) ++ (⟨#[46]⟩ : ByteArray))), (by first | rfl | (simp; done) | (simp [*]; done)), (by first | rfl | (simp; done) | (simp [*]; done)), H', ⟨by have := HK1.out; omega⟩, ⟨by repeat (first | (with_reducible first | exact HB.out | apply below_alloc | apply pw_below_drewN | apply below_drew1 | refine below_set ?_ GE113.out) | exact HB.out)⟩⟩
                          · rw [if_neg c69] at H
                            exact absurd H (by simp)
                        · rw [if_neg c68] at H
                          exact absurd H (by simp)
                      · rw [if_neg c67] at H
                        exact absurd H (by simp)
                    · rw [if_neg c66] at H
                      exact absurd H (by simp)
                  · rw [if_neg c65] at H
                    exact absurd H (by simp)
              · rw [if_neg c54] at H
                have c54b0 : decide (161 ≤ t110) = false := decide_eq_false c54
                clear c54
                replace H := Option.bind_eq_some_iff.mp H
                obtain ⟨t117, A750, H⟩ := H
                replace H : (if 2 + t117.size ≤ 9223372036854775807 then (if ((⟨#[92, 117]⟩ : ByteArray) ++ t117).size + 1 ≤ 9223372036854775807 then (if x3_1.size + (((⟨#[92, 117]⟩ : ByteArray) ++ t117) ++ (⟨#[46]⟩ : ByteArray)).size ≤ 9223372036854775807 then (if 0 ≤ t111 then (if t111 ≤ (x0_1.size : Int) then (spoorref01_Quote.l0 k1 (x0_1.extract (t111 : Int).toNat x0_1.size) (x3_1 ++ (((⟨#[92, 117]⟩ : ByteArray) ++ t117) ++ (⟨#[46]⟩ : ByteArray)))) else (none)) else (none)) else (none)) else (none)) else (none)) = some r := H
                have A75 := Aside0.mk A750
                clear A750
                by_cases c76 : 2 + t117.size ≤ 9223372036854775807
                · rw [if_pos c76] at H
                  have c76b0 := eq_true c76
                  have c76b1 : decide (2 + t117.size ≤ 9223372036854775807) = true := decide_eq_true c76
                  try have c76b2 : (9223372036854775807 < 2 + t117.size) = False := eq_false (Nat.not_lt.2 c76)
                  by_cases c77 : ((⟨#[92, 117]⟩ : ByteArray) ++ t117).size + 1 ≤ 9223372036854775807
                  · rw [if_pos c77] at H
                    have c77b0 := eq_true c77
                    have c77b1 : decide (((⟨#[92, 117]⟩ : ByteArray) ++ t117).size + 1 ≤ 9223372036854775807) = true := decide_eq_true c77
                    try have c77b2 : (9223372036854775807 < ((⟨#[92, 117]⟩ : ByteArray) ++ t117).size + 1) = False := eq_false (Nat.not_lt.2 c77)
                    have c77b3 : (9223372036854775807 < 2 + t117.size + 1) = False := eq_false (by have h := of_eq_true c77b0; simp only [ByteArray.size_append] at h; have e1 : (⟨#[92, 117]⟩ : ByteArray).size = 2 := rfl; have e2 : (⟨#[46]⟩ : ByteArray).size = 1 := rfl; have e3 : (⟨#[92, 120]⟩ : ByteArray).size = 2 := rfl; omega)
                    by_cases c78 : x3_1.size + (((⟨#[92, 117]⟩ : ByteArray) ++ t117) ++ (⟨#[46]⟩ : ByteArray)).size ≤ 9223372036854775807
                    · rw [if_pos c78] at H
                      have c78b0 := eq_true c78
                      have c78b1 : decide (x3_1.size + (((⟨#[92, 117]⟩ : ByteArray) ++ t117) ++ (⟨#[46]⟩ : ByteArray)).size ≤ 9223372036854775807) = true := decide_eq_true c78
                      try have c78b2 : (9223372036854775807 < x3_1.size + (((⟨#[92, 117]⟩ : ByteArray) ++ t117) ++ (⟨#[46]⟩ : ByteArray)).size) = False := eq_false (Nat.not_lt.2 c78)
                      have c78b3 : (9223372036854775807 < x3_1.size + (2 + t117.size + 1)) = False := eq_false (by have h := of_eq_true c78b0; simp only [ByteArray.size_append] at h; have e1 : (⟨#[92, 117]⟩ : ByteArray).size = 2 := rfl; have e2 : (⟨#[46]⟩ : ByteArray).size = 1 := rfl; have e3 : (⟨#[92, 120]⟩ : ByteArray).size = 2 := rfl; omega)
                      by_cases c79 : 0 ≤ t111
                      · rw [if_pos c79] at H
                        have c79b0 := eq_true c79
                        have c79b1 : decide (0 ≤ t111) = true := decide_eq_true c79
                        clear c79
                        by_cases c80 : t111 ≤ (x0_1.size : Int)
                        · rw [if_pos c80] at H
                          have c80b0 := eq_true c80
                          have c80b1 : decide (t111 ≤ (x0_1.size : Int)) = true := decide_eq_true c80
                          clear c80
                          have H' := Aside0.mk H
                          clear H
                          go_wp2_with (first | ((with_reducible refine gate_callee (f := 26) rfl ?_); refine goesL_ (some 10) rfl rfl Tryd.func26 (by kernel_rfl) rfl #[.string x0_1] rfl (by (try simp only [List.map_toArray, List.map_cons, List.map_nil]); first | done | rfl | (simp only [List.length_drop, List.length_take]; rfl)) ?_; (with_reducible refine (spoorref01_First.calls k1 x0_1 t110 t111 true _ A3.out).mono ?_); rintro e w81 ⟨rfl, hb⟩; refine ⟨_, rfl, ?_⟩; have n0_ := Aside0.mk (below_step (by repeat (first | (with_reducible first | exact HB.out | apply below_alloc | apply pw_below_drewN | apply below_drew1) | exact HB.out)) hb); clear HB; have HB := n0_; clear n0_; (try clear hb); (try clear hb2); (try clear hk); (try clear hi)) | ((with_reducible refine gate_dst (N := 4) rfl ?_); refine box_event ?hg (N := 4) ?hd (cs := #[.int .i64 0, .int .i64 0, .bool false]) (t := 42) ?hr ?_; (case hd => rfl); (case hg => rfl); (case hr => first | (go_simp; done) | (go_simp; rfl)); intro gb113 hg w82 hbox hb; have n0_ := Aside0.mk (below_step (by repeat (first | (with_reducible first | exact HB.out | apply below_alloc | apply pw_below_drewN | apply below_drew1) | exact HB.out)) hb); have n1_ := Aside0.mk (hbox); have n2_ := Aside0.mk ((by rw [hg]; exact (below_size (by repeat (first | (with_reducible first | exact HB.out | apply below_alloc | apply pw_below_drewN | apply below_drew1) | exact HB.out))) : w.heap.size ≤ gb113)); have n3_ := Aside0.mk ((by rw [hg]; exact (below_size (by repeat (first | (with_reducible first | exact HB.out | apply below_alloc | apply pw_below_drewN | apply below_drew1) | exact HB.out))) : w.heap.size ≤ gb113)); clear HB; have HB := n0_; have BK113 := n1_; have GW113 := n2_; have GE113 := n3_; clear n0_ n1_ n2_ n3_; clear hb hbox hg; have hcz83_0 : w82.cell? ⟨gb113, 0, none⟩ = some (.int .i64 0) := (blk_cell BK113.out 0).trans rfl; have hcz83_1 : w82.cell? ⟨gb113, 1, none⟩ = some (.int .i64 0) := (blk_cell BK113.out 1).trans rfl; have hcz83_2 : w82.cell? ⟨gb113, 2, none⟩ = some (.bool false) := (blk_cell BK113.out 2).trans rfl; have hfz83_0 := blk_frozen BK113.out 0; have hfz83_1 := blk_frozen BK113.out 1; have hfz83_2 := blk_frozen BK113.out 2) | ((with_reducible refine gate_callee (f := 39) rfl ?_); refine goesL_ (some 14) rfl rfl Tryd.func39 (by kernel_rfl) rfl #[.int .i64 t110] rfl (by (try simp only [List.map_toArray, List.map_cons, List.map_nil]); first | done | rfl | (simp only [List.length_drop, List.length_take]; rfl)) ?_; (with_reducible refine (spoorref01_hex.calls k1 t110 t117 _ A75.out).mono ?_); rintro e w84 ⟨rfl, hb⟩; refine ⟨_, rfl, ?_⟩; have n0_ := Aside0.mk (blk_below (g := gb113) (o := .cells #[.int .i64 t110, .int .i64 t111, .bool true] 42 (0, 0)) (by (with_reducible repeat (first | refine blk_drewN ?_ _ | refine blk_drew ?_ | refine blk_alloc ?_ _)); refine blk_put (cs := #[.int .i64 t110, .int .i64 t111, .bool false]) ?_ 2 _ rfl; (with_reducible repeat (first | refine blk_drewN ?_ _ | refine blk_drew ?_ | refine blk_alloc ?_ _)); refine blk_put (cs := #[.int .i64 t110, .int .i64 0, .bool false]) ?_ 1 _ rfl; (with_reducible repeat (first | refine blk_drewN ?_ _ | refine blk_drew ?_ | refine blk_alloc ?_ _)); refine blk_put (cs := #[.int .i64 0, .int .i64 0, .bool false]) ?_ 0 _ rfl; (with_reducible repeat (first | refine blk_drewN ?_ _ | refine blk_drew ?_ | refine blk_alloc ?_ _)); exact BK113.out) hb); have n1_ := Aside0.mk (below_step (by repeat (first | (with_reducible first | exact HB.out | apply below_alloc | apply pw_below_drewN | apply below_drew1 | refine below_set ?_ GE113.out) | exact HB.out)) hb); clear BK113; clear HB; have BK113 := n0_; have HB := n1_; clear n0_ n1_; (try clear hb); (try clear hb2); (try clear hk); (try clear hi); have hcz85_0 : w84.cell? ⟨gb113, 0, none⟩ = some (.int .i64 t110) := (blk_cell BK113.out 0).trans rfl; have hcz85_1 : w84.cell? ⟨gb113, 1, none⟩ = some (.int .i64 t111) := (blk_cell BK113.out 1).trans rfl; have hcz85_2 : w84.cell? ⟨gb113, 2, none⟩ = some (.bool true) := (blk_cell BK113.out 2).trans rfl; have hfz85_0 := blk_frozen BK113.out 0; have hfz85_1 := blk_frozen BK113.out 1; have hfz85_2 := blk_frozen BK113.out 2))
                          go_roundg k1
                          case measure => have := HK1.out; omega
                          case rel => exact ⟨(x0_1.extract (t111 : Int).toNat x0_1.size), (x3_1 ++ (((⟨#[92, 117]⟩ : ByteArray) ++ t117) ++ (⟨#[46]⟩ : ByteArray))), (by first | rfl | (simp; done) | (simp [*]; done)), (by first | rfl | (simp; done) | (simp [*]; done)), H', ⟨by have := HK1.out; omega⟩, ⟨by repeat (first | (with_reducible first | exact HB.out | apply below_alloc | apply pw_below_drewN | apply below_drew1 | refine below_set ?_ GE113.out) | exact HB.out)⟩⟩
                        · rw [if_neg c80] at H
                          exact absurd H (by simp)
                      · rw [if_neg c79] at H
                        exact absurd H (by simp)
                    · rw [if_neg c78] at H
                      exact absurd H (by simp)
                  · rw [if_neg c77] at H
                    exact absurd H (by simp)
                · rw [if_neg c76] at H
                  exact absurd H (by simp)
        · replace c4 := Bool.eq_false_iff.mpr c4
          subst c4
          have H1 : (if 0 < (x0_1.size : Int) then ((spoorref01_hex.f k1 (wrap64 (Int.tdiv (wrap64 (bt x0_1 0)) 16))).bind fun t118 => (if 2 + t118.size ≤ 9223372036854775807 then ((spoorref01_hex.f k1 (Int.tmod (wrap64 (bt x0_1 0)) 16)).bind fun t119 => (if ((⟨#[92, 120]⟩ : ByteArray) ++ t118).size + t119.size ≤ 9223372036854775807 then (if x3_1.size + (((⟨#[92, 120]⟩ : ByteArray) ++ t118) ++ t119).size ≤ 9223372036854775807 then (if 0 ≤ t111 then (if t111 ≤ (x0_1.size : Int) then (spoorref01_Quote.l0 k1 (x0_1.extract (t111 : Int).toNat x0_1.size) (x3_1 ++ (((⟨#[92, 120]⟩ : ByteArray) ++ t118) ++ t119))) else (none)) else (none)) else (none)) else (none))) else (none))) else (none)) = some r := by rw [if_neg (show ¬ (false = true) by decide)] at H; exact H
          clear H
          have H := H1
          clear H1
          by_cases c86 : 0 < (x0_1.size : Int)
          · rw [if_pos c86] at H
            have c86b0 : decide (0 < (x0_1.size : Int)) = true := decide_eq_true c86
            have c86b1 : decide (0 < x0_1.size) = true := decide_eq_true (by omega)
            clear c86
            replace H := Option.bind_eq_some_iff.mp H
            obtain ⟨t118, A880, H⟩ := H
            replace H : (if 2 + t118.size ≤ 9223372036854775807 then ((spoorref01_hex.f k1 (Int.tmod (wrap64 (bt x0_1 0)) 16)).bind fun t119 => (if ((⟨#[92, 120]⟩ : ByteArray) ++ t118).size + t119.size ≤ 9223372036854775807 then (if x3_1.size + (((⟨#[92, 120]⟩ : ByteArray) ++ t118) ++ t119).size ≤ 9223372036854775807 then (if 0 ≤ t111 then (if t111 ≤ (x0_1.size : Int) then (spoorref01_Quote.l0 k1 (x0_1.extract (t111 : Int).toNat x0_1.size) (x3_1 ++ (((⟨#[92, 120]⟩ : ByteArray) ++ t118) ++ t119))) else (none)) else (none)) else (none)) else (none))) else (none)) = some r := H
            have A88 := Aside0.mk A880
            clear A880
            by_cases c89 : 2 + t118.size ≤ 9223372036854775807
            · rw [if_pos c89] at H
              have c89b0 := eq_true c89
              have c89b1 : decide (2 + t118.size ≤ 9223372036854775807) = true := decide_eq_true c89
              try have c89b2 : (9223372036854775807 < 2 + t118.size) = False := eq_false (Nat.not_lt.2 c89)
              replace H := Option.bind_eq_some_iff.mp H
              obtain ⟨t119, A900, H⟩ := H
              replace H : (if ((⟨#[92, 120]⟩ : ByteArray) ++ t118).size + t119.size ≤ 9223372036854775807 then (if x3_1.size + (((⟨#[92, 120]⟩ : ByteArray) ++ t118) ++ t119).size ≤ 9223372036854775807 then (if 0 ≤ t111 then (if t111 ≤ (x0_1.size : Int) then (spoorref01_Quote.l0 k1 (x0_1.extract (t111 : Int).toNat x0_1.size) (x3_1 ++ (((⟨#[92, 120]⟩ : ByteArray) ++ t118) ++ t119))) else (none)) else (none)) else (none)) else (none)) = some r := H
              have A90 := Aside0.mk A900
              clear A900
              by_cases c91 : ((⟨#[92, 120]⟩ : ByteArray) ++ t118).size + t119.size ≤ 9223372036854775807
              · rw [if_pos c91] at H
                have c91b0 := eq_true c91
                have c91b1 : decide (((⟨#[92, 120]⟩ : ByteArray) ++ t118).size + t119.size ≤ 9223372036854775807) = true := decide_eq_true c91
                try have c91b2 : (9223372036854775807 < ((⟨#[92, 120]⟩ : ByteArray) ++ t118).size + t119.size) = False := eq_false (Nat.not_lt.2 c91)
                have c91b3 : (9223372036854775807 < 2 + t118.size + t119.size) = False := eq_false (by have h := of_eq_true c91b0; simp only [ByteArray.size_append] at h; have e1 : (⟨#[92, 117]⟩ : ByteArray).size = 2 := rfl; have e2 : (⟨#[46]⟩ : ByteArray).size = 1 := rfl; have e3 : (⟨#[92, 120]⟩ : ByteArray).size = 2 := rfl; omega)
                by_cases c92 : x3_1.size + (((⟨#[92, 120]⟩ : ByteArray) ++ t118) ++ t119).size ≤ 9223372036854775807
                · rw [if_pos c92] at H
                  have c92b0 := eq_true c92
                  have c92b1 : decide (x3_1.size + (((⟨#[92, 120]⟩ : ByteArray) ++ t118) ++ t119).size ≤ 9223372036854775807) = true := decide_eq_true c92
                  try have c92b2 : (9223372036854775807 < x3_1.size + (((⟨#[92, 120]⟩ : ByteArray) ++ t118) ++ t119).size) = False := eq_false (Nat.not_lt.2 c92)
                  have c92b3 : (9223372036854775807 < x3_1.size + (2 + t118.size + t119.size)) = False := eq_false (by have h := of_eq_true c92b0; simp only [ByteArray.size_append] at h; have e1 : (⟨#[92, 117]⟩ : ByteArray).size = 2 := rfl; have e2 : (⟨#[46]⟩ : ByteArray).size = 1 := rfl; have e3 : (⟨#[92, 120]⟩ : ByteArray).size = 2 := rfl; omega)
                  by_cases c93 : 0 ≤ t111
                  · rw [if_pos c93] at H
                    have c93b0 := eq_true c93
                    have c93b1 : decide (0 ≤ t111) = true := decide_eq_true c93
                    clear c93
                    by_cases c94 : t111 ≤ (x0_1.size : Int)
                    · rw [if_pos c94] at H
                      have c94b0 := eq_true c94
                      have c94b1 : decide (t111 ≤ (x0_1.size : Int)) = true := decide_eq_true c94
                      clear c94
                      have H' := Aside0.mk H
                      clear H
                      go_wp2_with (first | ((with_reducible refine gate_callee (f := 26) rfl ?_); refine goesL_ (some 10) rfl rfl Tryd.func26 (by kernel_rfl) rfl #[.string x0_1] rfl (by (try simp only [List.map_toArray, List.map_cons, List.map_nil]); first | done | rfl | (simp only [List.length_drop, List.length_take]; rfl)) ?_; (with_reducible refine (spoorref01_First.calls k1 x0_1 t110 t111 false _ A3.out).mono ?_); rintro e w95 ⟨rfl, hb⟩; refine ⟨_, rfl, ?_⟩; have n0_ := Aside0.mk (below_step (by repeat (first | (with_reducible first | exact HB.out | apply below_alloc | apply pw_below_drewN | apply below_drew1) | exact HB.out)) hb); clear HB; have HB := n0_; clear n0_; (try clear hb); (try clear hb2); (try clear hk); (try clear hi)) | ((with_reducible refine gate_dst (N := 4) rfl ?_); refine box_event ?hg (N := 4) ?hd (cs := #[.int .i64 0, .int .i64 0, .bool false]) (t := 42) ?hr ?_; (case hd => rfl); (case hg => rfl); (case hr => first | (go_simp; done) | (go_simp; rfl)); intro gb113 hg w96 hbox hb; have n0_ := Aside0.mk (below_step (by repeat (first | (with_reducible first | exact HB.out | apply below_alloc | apply pw_below_drewN | apply below_drew1) | exact HB.out)) hb); have n1_ := Aside0.mk (hbox); have n2_ := Aside0.mk ((by rw [hg]; exact (below_size (by repeat (first | (with_reducible first | exact HB.out | apply below_alloc | apply pw_below_drewN | apply below_drew1) | exact HB.out))) : w.heap.size ≤ gb113)); have n3_ := Aside0.mk ((by rw [hg]; exact (below_size (by repeat (first | (with_reducible first | exact HB.out | apply below_alloc | apply pw_below_drewN | apply below_drew1) | exact HB.out))) : w.heap.size ≤ gb113)); clear HB; have HB := n0_; have BK113 := n1_; have GW113 := n2_; have GE113 := n3_; clear n0_ n1_ n2_ n3_; clear hb hbox hg; have hcz97_0 : w96.cell? ⟨gb113, 0, none⟩ = some (.int .i64 0) := (blk_cell BK113.out 0).trans rfl; have hcz97_1 : w96.cell? ⟨gb113, 1, none⟩ = some (.int .i64 0) := (blk_cell BK113.out 1).trans rfl; have hcz97_2 : w96.cell? ⟨gb113, 2, none⟩ = some (.bool false) := (blk_cell BK113.out 2).trans rfl; have hfz97_0 := blk_frozen BK113.out 0; have hfz97_1 := blk_frozen BK113.out 1; have hfz97_2 := blk_frozen BK113.out 2; have p87 : 0 ≤ (0 : Int) := (by omega); have q87 : 0 < x0_1.size := (by have : (0 : Int) < (x0_1.size : Int) := of_decide_eq_true (by first | (with_reducible assumption) | assumption); omega); have hx87 : ∀ h : 0 < x0_1.size, ((x0_1[0]'h).toNat : Int) = bt x0_1 0 := bt_at x0_1 0; clear p87; have qi87 : (0 < (x0_1.size : Int)) = True := eq_true (of_decide_eq_true (by first | (with_reducible assumption) | assumption)); replace q87 := eq_true q87) | ((with_reducible refine gate_callee (f := 39) rfl ?_); refine goesL_ (some 28) rfl rfl Tryd.func39 (by kernel_rfl) rfl #[.int .i64 (wrap64 (Int.tdiv (wrap64 (bt x0_1 0)) 16))] rfl (by (try simp only [List.map_toArray, List.map_cons, List.map_nil]); first | done | rfl | (simp only [List.length_drop, List.length_take]; rfl)) ?_; (with_reducible refine (spoorref01_hex.calls k1 (wrap64 (Int.tdiv (wrap64 (bt x0_1 0)) 16)) t118 _ A88.out).mono ?_); rintro e w98 ⟨rfl, hb⟩; refine ⟨_, rfl, ?_⟩; have n0_ := Aside0.mk (blk_below (g := gb113) (o := .cells #[.int .i64 t110, .int .i64 t111, .bool false] 42 (0, 0)) (by (with_reducible repeat (first | refine blk_drewN ?_ _ | refine blk_drew ?_ | refine blk_alloc ?_ _)); refine blk_put (cs := #[.int .i64 t110, .int .i64 t111, .bool false]) ?_ 2 _ rfl; (with_reducible repeat (first | refine blk_drewN ?_ _ | refine blk_drew ?_ | refine blk_alloc ?_ _)); refine blk_put (cs := #[.int .i64 t110, .int .i64 0, .bool false]) ?_ 1 _ rfl; (with_reducible repeat (first | refine blk_drewN ?_ _ | refine blk_drew ?_ | refine blk_alloc ?_ _)); refine blk_put (cs := #[.int .i64 0, .int .i64 0, .bool false]) ?_ 0 _ rfl; (with_reducible repeat (first | refine blk_drewN ?_ _ | refine blk_drew ?_ | refine blk_alloc ?_ _)); exact BK113.out) hb); have n1_ := Aside0.mk (below_step (by repeat (first | (with_reducible first | exact HB.out | apply below_alloc | apply pw_below_drewN | apply below_drew1 | refine below_set ?_ GE113.out) | exact HB.out)) hb); clear BK113; clear HB; have BK113 := n0_; have HB := n1_; clear n0_ n1_; (try clear hb); (try clear hb2); (try clear hk); (try clear hi)) | ((with_reducible refine gate_callee (f := 39) rfl ?_); refine goesL_ (some 32) rfl rfl Tryd.func39 (by kernel_rfl) rfl #[.int .i64 (Int.tmod (wrap64 (bt x0_1 0)) 16)] rfl (by (try simp only [List.map_toArray, List.map_cons, List.map_nil]); first | done | rfl | (simp only [List.length_drop, List.length_take]; rfl)) ?_; (with_reducible refine (spoorref01_hex.calls k1 (Int.tmod (wrap64 (bt x0_1 0)) 16) t119 _ A90.out).mono ?_); rintro e w99 ⟨rfl, hb⟩; refine ⟨_, rfl, ?_⟩; have n0_ := Aside0.mk (blk_below (g := gb113) (o := .cells #[.int .i64 t110, .int .i64 t111, .bool false] 42 (0, 0)) (by (with_reducible repeat (first | refine blk_drewN ?_ _ | refine blk_drew ?_ | refine blk_alloc ?_ _)); exact BK113.out) hb); have n1_ := Aside0.mk (below_step (by repeat (first | (with_reducible first | exact HB.out | apply below_alloc | apply pw_below_drewN | apply below_drew1 | refine below_set ?_ GE113.out) | exact HB.out)) hb); clear BK113; clear HB; have BK113 := n0_; have HB := n1_; clear n0_ n1_; (try clear hb); (try clear hb2); (try clear hk); (try clear hi); have hcz100_0 : w99.cell? ⟨gb113, 0, none⟩ = some (.int .i64 t110) := (blk_cell BK113.out 0).trans rfl; have hcz100_1 : w99.cell? ⟨gb113, 1, none⟩ = some (.int .i64 t111) := (blk_cell BK113.out 1).trans rfl; have hcz100_2 : w99.cell? ⟨gb113, 2, none⟩ = some (.bool false) := (blk_cell BK113.out 2).trans rfl; have hfz100_0 := blk_frozen BK113.out 0; have hfz100_1 := blk_frozen BK113.out 1; have hfz100_2 := blk_frozen BK113.out 2))
                      go_roundg k1
                      case measure => have := HK1.out; omega
                      case rel => exact ⟨(x0_1.extract (t111 : Int).toNat x0_1.size), (x3_1 ++ (((⟨#[92, 120]⟩ : ByteArray) ++ t118) ++ t119)), (by first | rfl | (simp; done) | (simp [*]; done)), (by first | rfl | (simp; done) | (simp [*]; done)), H', ⟨by have := HK1.out; omega⟩, ⟨by repeat (first | (with_reducible first | exact HB.out | apply below_alloc | apply pw_below_drewN | apply below_drew1 | refine below_set ?_ GE113.out) | exact HB.out)⟩⟩
                    · rw [if_neg c94] at H
                      exact absurd H (by simp)
                  · rw [if_neg c93] at H
                    exact absurd H (by simp)
                · rw [if_neg c92] at H
                  exact absurd H (by simp)
              · rw [if_neg c91] at H
                exact absurd H (by simp)
            · rw [if_neg c89] at H
              exact absurd H (by simp)
          · rw [if_neg c86] at H
            exact absurd H (by simp)
      · rw [if_neg c2] at H
        have c2b0 : decide (0 < (x0_1.size : Int)) = false := decide_eq_false c2
        have c2b1 : decide (0 < x0_1.size) = false := decide_eq_false (by omega)
        clear c2
        obtain rfl := Option.some.inj H
        go_wp2
        go_ret
        exact ⟨by first | rfl | (simp [errW_none, errW_some] <;> rfl) | (simp [*, errW_none, errW_some] <;> rfl), by repeat (first | (with_reducible first | exact HB.out | apply below_alloc | apply pw_below_drewN | apply below_drew1) | exact HB.out)⟩

end Go.Proofs.YtlnafmibopkilaaDoor.PQuote
