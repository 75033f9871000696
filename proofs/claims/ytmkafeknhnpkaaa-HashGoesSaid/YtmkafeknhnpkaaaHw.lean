/- The hash's functions, each by a walk. -/
import Derived.Test.YtmkafeknhnpkaaaHm
import Derived.Test.YtmkafeknhnpkaaaFr
import Derived.Lib.ConvBytes
import Derived.Lib.SmallJoins
namespace Go.Proofs.Ytmkafeknhnpkaaa
open Go.RowKit Go.Proofs.Ytmkafeknhnpkaaa.PHashTells Go.Proofs.YtmkafeknhnpkaaaW.PrintWords

theorem fr_drawn {w w' : World} (h : Drawn0 w w') : Fr (fun _ => False) w w' := by
  obtain ⟨⟨n, rfl⟩⟩ := h
  exact (Fr.refl _ w).drewN n

theorem prio_any (s t : Int) (w : World) : Calls Try.prog 8 #[.int .u64 s, .int .i64 t] w fun e w' => e = .returned (.int .u64 (prio s t)) ∧ Fr (fun _ => False) w w' :=
  (hash_Priority.calls 21 s t _ w (prio_some s t 21 (by omega))).mono fun _ _ h => ⟨h.1, Fr.of_below h.2⟩
theorem rprio_any (s t : Int) (w : World) : Calls Try.prog 9 #[.int .u64 s, .int .i64 t] w fun e w' => e = .returned (.int .u64 (prio s t)) ∧ Fr (fun _ => False) w w' :=
  (spoorref03_Priority.calls 21 s t _ w (rprio_some s t 21 (by omega))).mono fun _ _ h => ⟨h.1, Fr.of_below h.2⟩
theorem compare_any (s a b : Int) (w : World) : Calls Try.prog 21 #[.int .u64 s, .int .i64 a, .int .i64 b] w fun e w' => e = .returned (.int .i64 (wcmp s a b)) ∧ Fr (fun _ => False) w w' :=
  (hash_compare.calls 21 s a b _ w (compare_some s a b 21 (by omega))).mono fun _ _ h => ⟨h.1, Fr.of_below h.2⟩
theorem less_any (s a b : Int) (w : World) : Calls Try.prog 16 #[.int .u64 s, .int .i64 a, .int .i64 b] w fun e w' => e = .returned (.bool (wless s a b)) ∧ Fr (fun _ => False) w w' :=
  (hash_Less.calls 21 s a b _ w (less_some s a b 21 (by omega))).mono fun _ _ h => ⟨h.1, Fr.of_below h.2⟩
theorem rsum_any (s : ByteArray) (w : World) (hs : s.size ≤ 140737488355328) : Calls Try.prog 11 #[.string s] w fun e w' => e = .returned (.int .u64 (mo first (bytesOf s))) ∧ Fr (fun _ => False) w w' :=
  (spoorref03_Sum.calls (s.size + 1) s _ w (sum_some s hs _ (by omega))).mono fun _ _ h => ⟨h.1, fr_drawn h.2⟩
def chk (s : ByteArray) : Int := Go.bits .xor .u32 ((mo first (bytesOf s) / 4294967296) % 4294967296) (mo first (bytesOf s) % 4294967296)
theorem rcheck_any (s : ByteArray) (w : World) (hs : s.size ≤ 140737488355328) : Calls Try.prog 13 #[.string s] w fun e w' => e = .returned (.int .u32 (chk s)) ∧ Fr (fun _ => False) w w' :=
  (spoorref03_Check.calls (s.size + 1) s _ w (rcheck_some s hs _ (by omega))).mono fun _ _ h => ⟨h.1, fr_drawn h.2⟩
theorem more_any (x : Int) (A : Option Addr) (c : Nat) (l : List Int) (w : World) (hr : Kd.C (Kd.int .u8) w A l.length l) (hc : l.length ≤ c) (hl : l.length ≤ 140737488355328) : Calls Try.prog 17 #[.int .u64 x, .slice A l.length c] w fun e w' => e = .returned (.int .u64 (mo x l)) ∧ Fr (fun _ => False) w w' :=
  (hash_more.calls (l.length + 1) x A c l _ w hr hc (more_some x l hl _ (by omega))).mono fun _ _ h => ⟨h.1, fr_drawn h.2⟩
theorem rleast_any (s : Int) (A : Option Addr) (c : Nat) (l : List Int) (w : World) (hr : Kd.C (Kd.int .i64) w A l.length l) (hc : l.length ≤ c) (hl : l.length ≤ 140737488355328) : Calls Try.prog 15 #[.int .u64 s, .slice A l.length c] w fun e w' => e = .returned (.int .i64 (least s l)) ∧ Fr (fun _ => False) w w' :=
  (spoorref03_Least.calls (l.length + 21) s A c l _ w hr hc (rleast_some s l hl _ (by omega))).mono fun _ _ h => ⟨h.1, Fr.of_below h.2⟩

/-- A row of numbers, cell by cell. -/
theorem row_ints {k : IntKind} {w : World} {A : Option Addr} {l : List Int} (hn : l.length ≤ 9223372036854775807) (h : 0 < l.length → ∃ ad, A = some ad ∧ ∀ i, i < l.length → w.cell? (ad.add i) = some (.int k (l.getD i 0))) : Kd.C (Kd.int k) w A l.length l := by
  refine ⟨rfl, hn, fun h0 => ?_⟩
  obtain ⟨ad, e, hc⟩ := h h0
  refine ⟨ad, e, fun j p hj => ⟨[.int k p], rfl, rfl, fun i u hu => ?_⟩⟩
  have hjl : j < l.length := by
    by_cases hj2 : j < l.length
    · exact hj2
    · rw [List.getElem?_eq_none (by omega)] at hj; cases hj
  cases i with
  | zero =>
    have e1 : u = .int k p := by simpa using hu.symm
    have e2 : l.getD j 0 = p := by rw [List.getD_eq_getElem?_getD, hj]; rfl
    have e3 : ad.add (j * (Kd.int k).sz + 0) = ad.add j := by show ad.add (j * 1 + 0) = _; rw [Nat.mul_one, Nat.add_zero]
    rw [e3, hc j hjl, e1, e2]
  | succ i => simp at hu

theorem bytes_row (w : World) (s : ByteArray) (hs : s.size ≤ 140737488355328) : Kd.C (Kd.int .u8) (Lib.bytesWorld w 5 s) (some ⟨w.heap.size, 0, none⟩) (bytesOf s).length (bytesOf s) := by
  refine row_ints (by rw [bytesOf_length]; omega) fun _ => ⟨_, rfl, fun i hi => ?_⟩
  rw [bytesOf_length] at hi
  have e : (⟨w.heap.size, 0, none⟩ : Addr).add i = ⟨w.heap.size, i, none⟩ := by simp [Addr.add]; omega
  rw [e, Lib.bytesWorld_cell w 5 s i hi]
  have e2 : i < s.data.toList.length := by simpa using hi
  simp [bytesOf, List.getD_eq_getElem?_getD, List.getElem?_eq_getElem e2]

theorem sum_any (s : ByteArray) (w : World) (hs : s.size ≤ 140737488355328) : Calls Try.prog 10 #[.string s] w fun e w' => e = .returned (.int .u64 (mo first (bytesOf s))) ∧ Fr (fun _ => False) w w' := by
  have hcv := fun w => Lib.run_convert_string_bytes (P := Try.prog) w 9 33 5 s (u := .string) Try.underlying9 Try.underlying33 Try.underlying5
  have hm := more_any first (some ⟨w.heap.size, 0, none⟩) (grownCap w s.size 0 5) (bytesOf s) (Lib.bytesWorld w 5 s) (bytes_row w s hs) (by rw [bytesOf_length]; exact grownCap_ge _ _ _ _) (by rw [bytesOf_length]; exact hs)
  rw [bytesOf_length] at hm
  have HB := Lib.hid (Fr.of_below (S := fun _ => False) (Go.Joins.below_bytesWorld w.heap.size w 5 s (Nat.le_refl _)))
  go_enter Try.func10, Try.ntmps10
  go_wp2_with fail
  go_at_call 17
  refine hm.mono ?_
  rintro e w1 ⟨rfl, hf⟩
  go_wp2_with fail
  go_ret
  exact ⟨rfl, HB.out.trans hf⟩

theorem check_any (s : ByteArray) (w : World) (hs : s.size ≤ 140737488355328) : Calls Try.prog 12 #[.string s] w fun e w' => e = .returned (.int .u32 (chk s)) ∧ Fr (fun _ => False) w w' := by
  unfold chk
  have hm := sum_any s w hs
  generalize mo first (bytesOf s) = x at *
  go_enter Try.func12, Try.ntmps12
  go_wp2_with fail
  go_at_call 10
  refine hm.mono ?_
  rintro e w1 ⟨rfl, hf⟩
  go_wp2_with fail
  go_ret
  exact ⟨rfl, hf⟩

theorem closure_any (s a b : Int) (g : Nat) (w : World) (hg : w.cell? ⟨g, 0, none⟩ = some (.int .u64 s)) :
    Calls Try.prog 20 #[.int .i64 a, .int .i64 b, .pointer (some ⟨g, 0, none⟩)] w fun e w' => e = .returned (.int .i64 (wcmp s a b)) ∧ Fr (fun _ => False) w w' := by
  go_enter Try.func20, Try.ntmps20
  go_wp2_with fail
  go_at_call 21
  refine (compare_any s a b _).mono ?_
  rintro e w1 ⟨rfl, hf⟩
  go_wp2_with fail
  go_ret
  exact ⟨rfl, hf⟩

theorem leastF_step (s m : Int) (l : List Int) (k : Nat) (h : k < l.length) : leastF s m (l.take (k + 1)) = if wless s (rd l k) (leastF s m (l.take k)) then rd l k else leastF s m (l.take k) := by
  rw [rd_take_succ l k h]
  exact leastG_snoc _ _ _ _
theorem leastF_take1 (s : Int) (x : Int) (l : List Int) : leastF s x ((x :: l).take 1) = x := leastG_take1 _ _ _
theorem leastF_all (s : Int) (x : Int) (l : List Int) : leastF s x (x :: l) = leastF s x l := leastG_self _ _ _
theorem least_cons (s : Int) (x : Int) (l : List Int) : least s (x :: l) = leastF s x (x :: l) := (leastF_all s x l).symm

set_option maxRecDepth 100000 in
set_option maxHeartbeats 1000000 in
theorem min_any (s x : Int) (A : Option Addr) (c : Nat) (l : List Int) (g : Nat) (w : World) (hr : Kd.C (Kd.int .i64) w A (x :: l).length (x :: l)) (hl : (x :: l).length ≤ 140737488355328) (hg : w.cell? ⟨g, 0, none⟩ = some (.int .u64 s)) :
    Calls Try.prog 19 #[.slice A (x :: l).length c, .func (.func 20) #[] #[.pointer (some ⟨g, 0, none⟩)]] w fun e w' => e = .returned (.int .i64 (least s (x :: l))) ∧ Fr (fun _ => False) w w' := by
  have h1 : 0 < (x :: l).length := by simp
  rw [least_cons]
  have ht1 := leastF_take1 s x l
  have hrd : rd (x :: l) 0 = x := rfl
  generalize x :: l = L at *
  obtain ⟨n, hn⟩ : ∃ n, n = L.length := ⟨_, rfl⟩
  rw [← hn] at hr h1 hl ⊢
  obtain ⟨ad, rfl, hc0⟩ := Kd.at_int hr 0 (by omega) (by omega)
  rw [hrd, show ad.add (0 : Int).toNat = ad from by first | rfl | (simp [Addr.add]; done) | (cases ad; simp [Addr.add]; done)] at hc0
  have hd1 : decide ((n : Int) < 1) = false := decide_eq_false (by omega)
  have HR := Lib.hid (And.intro hr (And.intro ht1 hn)); clear hr ht1 hn hrd
  go_enter Try.func19, Try.ntmps19
  go_wp2_with fail
  go_loopw [5, 6] (fun m i wr => ∃ (k : Nat), 1 ≤ k ∧ k ≤ n ∧ i = .int .i64 k ∧ m = .int .i64 (leastF s x (L.take k)) ∧ Fr (fun _ => False) w wr) (fun _ i _ => n - (intOf i).toNat)
  case atStart => exact ⟨1, by omega, by omega, rfl, by rw [HR.out.2.1], Fr.refl _ _⟩
  case round =>
    obtain ⟨k, hk1, hk, rfl, rfl, hf⟩ := hrel
    have HF := Lib.hid hf; clear hf
    by_cases hlt : k < n
    · obtain ⟨ad2, e2, hc1⟩ := Kd.at_int HR.out.1 (k : Int) (by omega) (by omega)
      obtain rfl : ad2 = ad := (Option.some.inj e2).symm
      rw [Int.toNat_natCast] at hc1
      have hst := leastF_step s x L k (by rw [← HR.out.2.2]; exact hlt)
      have hck : wr.cell? (ad2.add k) = some (.int .i64 (rd L k)) := by rw [HF.out.bel.cell (World.block_lt_of_cell? w _ hc1)]; exact hc1
      have hgr : wr.cell? ⟨g, 0, none⟩ = some (.int .u64 s) := by rw [HF.out.bel.cell (World.block_lt_of_cell? w _ hg)]; exact hg
      generalize leastF s x (L.take k) = m at *
      obtain ⟨m', hme⟩ : ∃ m', m' = leastF s x (L.take (k + 1)) := ⟨_, rfl⟩
      rw [← hme] at hst
      have HM := Lib.hid hme; clear hme
      generalize rd L k = y at *
      clear hc1 e2
      have HST := Lib.hid hst; clear hst
      have hwl := wcmp_lt s y m
      have hcl := closure_any s y m g wr hgr
      generalize wcmp s y m = q at *
      rw [← hwl] at HST
      clear hwl
      by_cases hq : q < 0
      · have hm' : m' = y := by rw [HST.out, if_pos (decide_eq_true hq)]
        subst hm'
        go_wp2_with (go_at_call 20; refine hcl.mono ?_; rintro e w4 ⟨rfl, hf4⟩; have H4 := Lib.hid hf4; clear hf4; have hck4 := (H4.out.bel.cell (World.block_lt_of_cell? wr _ hck)).trans hck)
        go_roundw
        case rel => exact ⟨k + 1, by omega, by omega, by go_num, by rw [← HM.out], HF.out.trans H4.out⟩
        case measure => simp [intOf]; omega
      · have hm' : m' = m := by rw [HST.out, if_neg (by simpa using hq)]
        subst hm'
        go_wp2_with (go_at_call 20; refine hcl.mono ?_; rintro e w4 ⟨rfl, hf4⟩; have H4 := Lib.hid hf4; clear hf4)
        go_roundw
        case rel => exact ⟨k + 1, by omega, by omega, by go_num, by rw [← HM.out], HF.out.trans H4.out⟩
        case measure => simp [intOf]; omega
    · obtain rfl : k = n := by omega
      have e9 : L.take k = L := List.take_of_length_le (by rw [← HR.out.2.2]; exact Nat.le_refl _)
      go_wp2_with fail
      go_ret
      exact ⟨congrArg (fun q => Ending.returned (.int .i64 (leastF s x q))) e9, HF.out⟩

set_option maxRecDepth 100000 in
theorem least_any (s : Int) (A : Option Addr) (c : Nat) (l : List Int) (w : World) (hr : Kd.C (Kd.int .i64) w A l.length l) (hl : l.length ≤ 140737488355328) :
    Calls Try.prog 14 #[.int .u64 s, .slice A l.length c] w fun e w' => e = .returned (.int .i64 (least s l)) ∧ Fr (fun _ => False) w w' := by
  have hmf : ∀ (fn : Fn) (first cap : Array Value) (w : World), (Instr.makeFunc fn first cap).run Try.prog w = .ok (.func fn first cap) w := fun _ _ _ _ => rfl
  cases l with
  | nil =>
    go_enter Try.func14, Try.ntmps14
    go_wp2_with fail
    go_ret
    exact ⟨rfl, (Fr.refl _ _).alloc _⟩
  | cons x l =>
    have hf0 : Fr (fun _ => False) w (w.alloc (.cells #[.int .u64 s] 22)) := (Fr.refl _ _).alloc _
    have hg : (w.alloc (.cells #[.int .u64 s] 22)).cell? ⟨w.heap.size, 0, none⟩ = some (.int .u64 s) := by
      rw [World.cell?_alloc_at _ _ _ _ rfl]; rfl
    have hm := min_any s x A c l w.heap.size _ (Kd.C_below hr hf0.bel) hl hg
    have HF := Lib.hid hf0; clear hf0 hg
    have h0 : 0 < (x :: l).length := by simp
    generalize x :: l = L at *
    obtain ⟨n, hn⟩ : ∃ n, n = L.length := ⟨_, rfl⟩
    rw [← hn] at h0 hm hl ⊢
    generalize least s L = q at *
    clear hr hn
    have h1 : ((n : Int) == 0) = false := by simp; omega
    go_enter Try.func14, Try.ntmps14
    go_wp2_with fail
    go_at_call 19
    refine hm.mono ?_
    rintro e w1 ⟨rfl, hf⟩
    go_wp2_with fail
    go_ret
    exact ⟨rfl, HF.out.trans hf⟩

end Go.Proofs.Ytmkafeknhnpkaaa
