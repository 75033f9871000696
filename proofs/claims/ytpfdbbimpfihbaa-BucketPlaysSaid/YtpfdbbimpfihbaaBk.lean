/- The bucket: what each of its calls does, by walks. -/
import Derived.Test.YtpfdbbimpfihbaaFr
import Derived.Test.YtpfdbbimpfihbaaProg
namespace Go.Proofs.Ytpfdbbimpfihbaa
open Go.RowKit

theorem umod_bd (x k : Int) (hk : 0 < k) (hk2 : k ≤ 4611686018427387904) : 0 ≤ wrap64 ((IntKind.u64.wrap x).tmod k) ∧ wrap64 ((IntKind.u64.wrap x).tmod k) < k := by
  have h0 : 0 ≤ IntKind.u64.wrap x := by simp [IntKind.wrap, IntKind.signed, IntKind.bits]; omega
  rw [Int.tmod_eq_emod_of_nonneg h0]
  have h1 := Int.emod_nonneg (IntKind.u64.wrap x) (by omega : k ≠ 0)
  have h2 := Int.emod_lt_of_pos (IntKind.u64.wrap x) hk
  unfold wrap64
  omega

/-- A bucket at block g. -/
def IsB (w : World) (g : Nat) (b r l t : Int) : Prop := w.heap[g]? = some (.cells #[.int .i64 b, .int .i64 r, .int .i64 l, .int .i64 t] 39 (0, 0))
/-- What a bucket's numbers keep. -/
def OkB (b r l t : Int) : Prop := 0 ≤ b ∧ b ≤ 1000 ∧ 0 ≤ r ∧ r ≤ 1000 ∧ 0 ≤ l ∧ l ≤ b ∧ 0 ≤ t ∧ t ≤ 1000000
def tkB (l : Int) : Bool := decide (1 ≤ l)
def tkL (l : Int) : Int := if 1 ≤ l then l - 1 else l
def tkT (l t : Int) : Int := if 1 ≤ l then t + 1 else t
def tiL (b r l : Int) : Int := if b < l + r then b else l + r

theorem IsB.fr {w w' : World} {g : Nat} {b r l t : Int} {S : Nat → Prop} (h : IsB w g b r l t) (hf : Fr S w w') (hs : ¬ S g) : IsB w' g b r l t := hf.blk h hs
theorem IsB.lt {w : World} {g : Nat} {b r l t : Int} (h : IsB w g b r l t) : g < w.heap.size := blk_lt h

set_option maxHeartbeats 400000 in
theorem left_any (g : Nat) (b r l t : Int) (w : World) (h : IsB w g b r l t) :
    Calls Try.prog 14 #[.pointer (some ⟨g, 0, none⟩)] w fun e w' => e = .returned (.int .i64 l) ∧ w = w' := by
  have hc2 := (blk_cell h 2).trans rfl
  clear h
  go_enter Try.func14, Try.ntmps14
  go_wp2
  go_ret
  exact ⟨rfl, rfl⟩

set_option maxHeartbeats 400000 in
theorem taken_any (g : Nat) (b r l t : Int) (w : World) (h : IsB w g b r l t) :
    Calls Try.prog 15 #[.pointer (some ⟨g, 0, none⟩)] w fun e w' => e = .returned (.int .i64 t) ∧ w = w' := by
  have hc2 := (blk_cell h 3).trans rfl
  clear h
  go_enter Try.func15, Try.ntmps15
  go_wp2
  go_ret
  exact ⟨rfl, rfl⟩

set_option maxHeartbeats 400000 in
theorem take_any (g : Nat) (b r l t : Int) (w : World) (h : IsB w g b r l t) (hk : OkB b r l t) :
    Calls Try.prog 10 #[.pointer (some ⟨g, 0, none⟩)] w fun e w' => e = .returned (.bool (tkB l)) ∧ IsB w' g b r (tkL l) (tkT l t) ∧ Fr (· = g) w w' := by
  have hc2 := (blk_cell h 2).trans rfl
  have hc3 := (blk_cell h 3).trans rfl
  have hf2 := blk_frozen h 2
  have hf3 := blk_frozen h 3
  have H := Lib.hid h
  clear h
  obtain ⟨k1, k2, k3, k4, k5, k6, k7, k8⟩ := hk
  by_cases hl : 1 ≤ l
  · have hl0 : (l == 0) = false := by simp; omega
    go_enter Try.func10, Try.ntmps10
    go_wp2
    go_ret
    refine ⟨by simp [tkB, hl], ?_, ((Fr.refl _ _).setCell (by simp) _).setCell (by simp) _⟩
    simp only [tkL, tkT, if_pos hl]
    simpa [IsB] using blk_set (blk_set H.out 2 (.int .i64 (l - 1))) 3 (.int .i64 (t + 1))
  · obtain rfl : l = 0 := by omega
    go_enter Try.func10, Try.ntmps10
    go_wp2
    go_ret
    exact ⟨rfl, H.out, Fr.refl _ _⟩

set_option maxHeartbeats 400000 in
theorem tick_any (g : Nat) (b r l t : Int) (w : World) (h : IsB w g b r l t) (hk : OkB b r l t) :
    Calls Try.prog 12 #[.pointer (some ⟨g, 0, none⟩)] w fun e w' => e = .returned (.tuple #[]) ∧ IsB w' g b r (tiL b r l) t ∧ Fr (· = g) w w' := by
  have hc0 := (blk_cell h 0).trans rfl
  have hc1 := (blk_cell h 1).trans rfl
  have hc2 := (blk_cell h 2).trans rfl
  have hf2 := blk_frozen h 2
  have H := Lib.hid h
  clear h
  obtain ⟨k1, k2, k3, k4, k5, k6, k7, k8⟩ := hk
  go_enter Try.func12, Try.ntmps12
  go_wp2
  go_region
  all_goals
    go_end0
    refine ⟨rfl, ?_, ((Fr.refl _ _).setCell (by simp) _).drew⟩
    show IsB (w.setCell ⟨g, 2, none⟩ (.int .i64 (tiL b r l))) g b r (tiL b r l) t
    simpa [IsB] using blk_set H.out 2 (.int .i64 (tiL b r l))

set_option maxHeartbeats 400000 in
theorem new_good (b r : Int) (w : World) (h1 : 0 ≤ b) (h2 : b ≤ 1000) (h3 : 0 ≤ r) (h4 : r ≤ 1000) :
    Calls Try.prog 8 #[.int .i64 b, .int .i64 r] w fun e w' => e = .returned (.tuple #[.pointer (some ⟨w.heap.size, 0, none⟩), .int .i64 0]) ∧ IsB w' w.heap.size b r b 0 ∧ w'.heap.size = w.heap.size + 1 ∧ Fr (fun _ => False) w w' := by
  have hmin : ¬ (if r < b then r else b) < 0 := by split <;> omega
  have hmax : ¬ 1000 < (if b < r then r else b) := by split <;> omega
  go_enter Try.func8, Try.ntmps8
  go_wp2
  all_goals
    first
      | (exfalso; omega)
      | (go_ret2
         exact ⟨rfl, blk_new _ _, by simp, (Fr.refl _ _).alloc _⟩)

set_option maxHeartbeats 400000 in
theorem new_bad (b r : Int) (w : World) (h : b < 0 ∨ 1000 < b ∨ r < 0 ∨ 1000 < r) :
    Calls Try.prog 8 #[.int .i64 b, .int .i64 r] w fun e w' => e = .returned (.tuple #[.pointer none, .int .i64 1]) ∧ w = w' := by
  have H := Lib.hid h
  clear h
  go_enter Try.func8, Try.ntmps8
  go_wp2
  all_goals
    first
      | (exfalso; have := H.out; omega)
      | (go_ret2
         exact ⟨rfl, rfl⟩)

set_option maxHeartbeats 400000 in
theorem left_nil (w : World) :
    Calls Try.prog 14 #[.pointer none] w fun e w' => e = .returned (.int .i64 0) ∧ w = w' := by
  go_enter Try.func14, Try.ntmps14
  go_wp2
  go_ret
  exact ⟨rfl, rfl⟩

set_option maxHeartbeats 400000 in
theorem taken_nil (w : World) :
    Calls Try.prog 15 #[.pointer none] w fun e w' => e = .returned (.int .i64 0) ∧ w = w' := by
  go_enter Try.func15, Try.ntmps15
  go_wp2
  go_ret
  exact ⟨rfl, rfl⟩

set_option maxHeartbeats 400000 in
theorem take_nil (w : World) :
    Calls Try.prog 10 #[.pointer none] w fun e w' => e = .returned (.bool false) ∧ w = w' := by
  go_enter Try.func10, Try.ntmps10
  go_wp2
  go_ret
  exact ⟨rfl, rfl⟩

set_option maxHeartbeats 400000 in
theorem tick_nil (w : World) :
    Calls Try.prog 12 #[.pointer none] w fun e w' => e = .returned (.tuple #[]) ∧ w = w' := by
  go_enter Try.func12, Try.ntmps12
  go_wp2
  go_end0
  exact ⟨rfl, rfl⟩

theorem left_q (g : Nat) (b r l t : Int) (w : World) (h : IsB w g b r l t) (n : Nat) :
    Calls Try.prog 14 #[.pointer (some ⟨g, 0, none⟩)] (w.drewN n) fun e w' => e = .returned (.int .i64 l) ∧ w' = w.drewN n :=
  (left_any g b r l t (w.drewN n) h).mono fun _ _ k => ⟨k.1, k.2.symm⟩
theorem taken_q (g : Nat) (b r l t : Int) (w : World) (h : IsB w g b r l t) (n : Nat) :
    Calls Try.prog 15 #[.pointer (some ⟨g, 0, none⟩)] (w.drewN n) fun e w' => e = .returned (.int .i64 t) ∧ w' = w.drewN n :=
  (taken_any g b r l t (w.drewN n) h).mono fun _ _ k => ⟨k.1, k.2.symm⟩

theorem OkB.take {b r l t : Int} (h : OkB b r l t) (ht : t ≤ 999999) : OkB b r (tkL l) (tkT l t) := by
  unfold OkB tkL tkT at *; split <;> omega
theorem OkB.tick {b r l t : Int} (h : OkB b r l t) : OkB b r (tiL b r l) t := by
  unfold OkB tiL at *; split <;> omega

theorem awake_lits : tkB 2 = true ∧ tkB (tkL 2) = true ∧ tkB (tkL (tkL 2)) = false ∧ tiL 2 1 (tkL (tkL (tkL 2))) = 1 ∧ tkT (tkL (tkL 2)) (tkT (tkL 2) (tkT 2 0)) = 2 := by decide

set_option maxHeartbeats 400000 in
theorem awake_any (w : World) :
    Calls Try.prog 7 #[] w fun e w' => e = .returned (.bool true) ∧ Fr (fun _ => False) w w' := by
  go_enter Try.func7, Try.ntmps7
  go_wp2_with fail
  go_at_call 8
  refine (new_good 2 1 _ (by omega) (by omega) (by omega) (by omega)).mono ?_
  rintro e w1 ⟨rfl, hb1, hz1, hf1⟩
  have H1 := Lib.hid (And.intro hb1 (And.intro hz1 hf1)); clear hb1 hz1 hf1
  go_wp2_with fail
  go_at_call 8
  refine (new_bad (-1) 0 _ (by omega)).mono ?_
  rintro e w2 ⟨rfl, rfl⟩
  go_wp2_with fail
  go_at_call 10
  refine (take_any _ _ _ _ _ _ H1.out.1 (by unfold OkB; omega)).mono ?_
  rintro e w3 ⟨rfl, hb3, hf3⟩
  have H3 := Lib.hid (And.intro hb3 hf3); clear hb3 hf3
  go_wp2_with fail
  go_at_call 10
  refine (take_any _ _ _ _ _ _ H3.out.1 (by unfold OkB tkL tkT; omega)).mono ?_
  rintro e w4 ⟨rfl, hb4, hf4⟩
  have H4 := Lib.hid (And.intro hb4 hf4); clear hb4 hf4
  go_wp2_with fail
  go_at_call 10
  refine (take_any _ _ _ _ _ _ H4.out.1 (by unfold OkB tkL tkT; omega)).mono ?_
  rintro e w5 ⟨rfl, hb5, hf5⟩
  have H5 := Lib.hid (And.intro hb5 hf5); clear hb5 hf5
  go_wp2_with fail
  go_at_call 12
  refine (tick_any _ _ _ _ _ _ H5.out.1 (by unfold OkB tkL tkT; omega)).mono ?_
  rintro e w6 ⟨rfl, hb6, hf6⟩
  have H6 := Lib.hid (And.intro hb6 hf6); clear hb6 hf6
  have q1 : tkB 2 = true := by decide
  have q2 : tkB (tkL 2) = true := by decide
  have q3 : tkB (tkL (tkL 2)) = false := by decide
  go_wp2_with fail
  go_at_call 14
  refine (left_any _ _ _ _ _ _ H6.out.1).mono ?_
  rintro e w7 ⟨rfl, rfl⟩
  have q4 : ((tiL 2 1 (tkL (tkL (tkL 2)))) == 1) = true := by decide
  go_wp2_with fail
  go_at_call 15
  refine (taken_any _ _ _ _ _ _ H6.out.1).mono ?_
  rintro e w8 ⟨rfl, rfl⟩
  have q5 : ((tkT (tkL (tkL 2)) (tkT (tkL 2) (tkT 2 0))) == 2) = true := by decide
  go_wp2_with fail
  go_ret
  refine ⟨rfl, ?_⟩
  have a := H1.out.2.2
  have c (u v : World) (h : Fr (· = w.heap.size) u v) (hu : w.heap.size ≤ u.heap.size) (k : Fr (fun _ => False) w u) : Fr (fun _ => False) w v :=
    ⟨h.os.trans k.os, h.tape.trans k.tape, h.output.trans k.output, Nat.le_trans k.size h.size, fun i hi _ => (h.block i (by omega) (by omega)).trans (k.block i hi (by simp))⟩
  have f3 := c _ _ H3.out.2 a.size a
  have f4 := c _ _ H4.out.2 f3.size f3
  have f5 := c _ _ H5.out.2 f4.size f4
  exact c _ _ H6.out.2 f5.size f5

end Go.Proofs.Ytpfdbbimpfihbaa
