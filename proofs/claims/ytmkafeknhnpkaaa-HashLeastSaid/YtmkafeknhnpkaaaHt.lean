/- HashTells, by a walk. -/
import Derived.Test.YtmkafeknhnpkaaaHa
namespace Go.Proofs.Ytmkafeknhnpkaaa
open Go.RowKit Go.Proofs.Ytmkafeknhnpkaaa.PHashTells Go.Proofs.YtmkafeknhnpkaaaW.PrintWords

def RdI (w : World) (a : Option Addr) (n : Nat) (xs : List Int) : Prop := xs.length = n ∧ n ≤ maxLen ∧ (∀ i, i < n → ∃ ad, a = some ad ∧ w.cell? (ad.add i) = some (.int .i64 (xs.getD i 0))) ∧ ∀ x ∈ xs, (Lit.int .i64 x).wf = true
theorem RdI.at {w w' : World} {a : Option Addr} {n : Nat} {xs : List Int} (h : RdI w a n xs) (hf : Fr (fun _ => False) w w') {i : Nat} (hi : i < n) : ∃ ad, a = some ad ∧ w'.cell? (ad.add i) = some (.int .i64 (xs.getD i 0)) := by
  obtain ⟨ad, e, hc⟩ := h.2.2.1 i hi
  exact ⟨ad, e, by rw [hf.bel.cell (World.block_lt_of_cell? w _ hc)]; exact hc⟩
theorem RdI.row {w w' : World} {a : Option Addr} {n : Nat} {xs : List Int} (h : RdI w a n xs) (hf : Fr (fun _ => False) w w') : Kd.C (Kd.int .i64) w' a xs.length xs := by
  refine row_ints (by have := h.1; have := h.2.1; unfold maxLen at *; omega) fun h0 => ?_
  obtain ⟨ad, e, _⟩ := h.at hf (by rw [← h.1]; exact h0)
  refine ⟨ad, e, fun i hi => ?_⟩
  obtain ⟨ad2, e2, hc⟩ := h.at hf (i := i) (by rw [← h.1]; exact hi)
  rw [e] at e2
  cases e2
  exact hc

def RdC (w : World) (a : Option Addr) (n c : Nat) (xs : List Int) : Prop := RdI w a n xs ∧ n ≤ c
theorem info3 : (Try.prog.info? 3).map (fun i => (i.zero, i.size, i.bytes)) = some (some (.int .i64 0), 1, 8) := by kernel_rfl
theorem own_empty (W : World) : (Kd.int .i64).R 3 (W.alloc (.cells #[] 3)) W.heap.size (fun _ => True) (.slice (some ⟨W.heap.size, 0, none⟩) 0 0) [] :=
  ⟨fun _ _ => trivial, [], World.ownsRow_lit (base := W.heap.size) (e := 3) (size := 1) W #[] 0 (Nat.le_refl _) (by decide) rfl, Reps.none _ _⟩

theorem append_ints {ops : Array Oper} {rest : List Oper} {o : Oper} {a : Act} {Q : Exit → Act → World → Prop} {W : World} (base : Nat) (hw : Region.wanted o (yielded ops a.tmps) = true) (s x : Operand)
    (ho : o.op = .call { callee := .builtin .append, args := #[s, x], argTypes := #[23, 23] }) (v : Value) (xs ys : List Int) (A : Option Addr) (m c : Nat) (hs : a.eval s = v) (hx : a.eval x = .slice A m c)
    (HO : (Kd.int .i64).R 3 W base (fun _ => True) v xs) (HR : (Kd.int .i64).C W A m ys) (hbase : base ≤ W.heap.size) (hl : (xs.length + m) * 8 ≤ 140737488355328)
    (h : ∀ A1 c1 w1, (Kd.int .i64).R 3 w1 base (fun _ => True) (.slice A1 (xs ++ ys).length c1) (xs ++ ys) → (Kd.int .i64).C w1 A1 (xs ++ ys).length (xs ++ ys) → (xs ++ ys).length ≤ c1 → Fr (fun k => some k = v.ownBlock) W w1 → wpList Try.prog ops Q rest (a.put o.dst (.slice A1 (xs ++ ys).length c1)) w1) :
    wpList Try.prog ops Q (o :: rest) a W := by
  refine wpList_step fun K hK => Kd.R_append_rows_step (Kd.int .i64) (w0 := W) base hw s x 23 3 (.int .i64 0) 8 ho Try.underlying23 info3 rfl (by decide) (by decide) v xs ys A m c (fun _ => True) (fun _ => False) hs hx HO HR (fun _ _ h => h) (fun _ h => h.elim) (fun _ _ => trivial) (Below.refl _ _) hbase hl ?_
  intro v1 w1 hR _ hg _
  obtain ⟨A1, c1, rfl, hc, hC⟩ := Kd.R_reads hR
  exact hK _ _ (h A1 c1 w1 hR hC hc (Fr.of_grown hg))

set_option maxRecDepth 100000 in
set_option maxHeartbeats 2000000 in
theorem tells_any (s : ByteArray) (seed : Int) (a : Option Addr) (n c : Nat) (xs : List Int) (w : World) (hs : s.size ≤ 140737488351232) (hxc : RdC w a n c xs) :
    Calls Try.prog 3 #[.string s, .int .u64 seed, .slice a n c] w fun e w' => e = .returned (.bool true) ∧ Fr (fun _ => False) w w' := by
  obtain ⟨hx, hcap⟩ := hxc
  have hm1 : n ≤ 9223372036854775807 := by have := hx.2.1; unfold maxLen at this; exact this
  have HX := Lib.hid hx
  have HCAP := Lib.hid hcap
  clear hcap
  clear hx
  by_cases h1 : 2000 < s.size
  · go_enter Try.func3, Try.ntmps3
    go_wp2_with fail
    go_at_call 7
    refine (awake_any _).mono ?_
    rintro e w1 ⟨rfl, hf1⟩
    go_wp2_with fail
    go_at_call 7
    refine (awake_any _).mono ?_
    rintro e w2 ⟨rfl, hf2⟩
    go_wp2_with fail
    go_ret
    exact ⟨rfl, hf1.trans hf2⟩
  · by_cases h2 : 200 < n
    · go_enter Try.func3, Try.ntmps3
      go_wp2_with fail
      go_at_call 7
      refine (awake_any _).mono ?_
      rintro e w1 ⟨rfl, hf1⟩
      go_wp2_with fail
      go_at_call 7
      refine (awake_any _).mono ?_
      rintro e w2 ⟨rfl, hf2⟩
      go_wp2_with fail
      go_ret
      exact ⟨rfl, hf1.trans hf2⟩
    · have HSZ : Hid (s.size ≤ 140737488355328) := Lib.hid (by omega)
      have HN : Hid (xs.length ≤ 140737488355328 ∧ n = xs.length) := Lib.hid (by have := HX.out.1; omega)
      go_enter Try.func3, Try.ntmps3
      go_wp2_with fail
      go_at_call 7
      refine (awake_any _).mono ?_
      rintro e w1 ⟨rfl, hf1⟩
      have H1 := Lib.hid hf1; clear hf1
      go_wp2_with fail
      go_loopw [24] (fun i wr => ∃ (k : Nat), k ≤ n ∧ i = .int .i64 k ∧ Fr (fun _ => False) w wr) (fun i _ => n - (intOf i).toNat)
      case atStart => exact ⟨0, by omega, rfl, H1.out⟩
      case round =>
        obtain ⟨k, hk, rfl, hf⟩ := hrel
        have HF := Lib.hid hf; clear hf
        by_cases hlt : k < n
        · obtain ⟨ad, rfl, hc⟩ := HX.out.at HF.out hlt
          generalize xs.getD k 0 = y at *
          go_wp2_with fail
          go_at_call 8
          refine (prio_any _ _ _).mono ?_
          obtain ⟨p, hp⟩ : ∃ p, p = prio seed y := ⟨_, rfl⟩
          rw [← hp]
          rintro e w4 ⟨rfl, hf⟩
          have H4 := Lib.hid (And.intro (HF.out.trans hf) hp); clear hf hp
          go_wp2_with fail
          go_at_call 9
          refine (rprio_any _ _ _).mono ?_
          rw [← H4.out.2]
          rintro e w5 ⟨rfl, hf⟩
          have H5 := Lib.hid (H4.out.1.trans hf); clear hf
          go_wp2_with fail
          go_roundw
          case rel => exact ⟨k + 1, by omega, by go_num, H5.out⟩
          case measure => simp [intOf]; omega
        · go_wp2_with fail
          go_at_call 10
          refine (sum_any _ _ HSZ.out).mono ?_
          obtain ⟨p, hp⟩ : ∃ p, p = mo first (bytesOf s) := ⟨_, rfl⟩
          rw [← hp]
          rintro e w4 ⟨rfl, hf⟩
          have H4 := Lib.hid (And.intro (HF.out.trans hf) hp); clear hf hp
          go_wp2_with fail
          go_at_call 11
          refine (rsum_any _ _ HSZ.out).mono ?_
          rw [← H4.out.2]
          rintro e w5 ⟨rfl, hf⟩
          have H5 := Lib.hid (H4.out.1.trans hf); clear hf
          go_wp2_with fail
          go_at_call 12
          refine (check_any _ _ HSZ.out).mono ?_
          obtain ⟨q, hq⟩ : ∃ q, q = chk s := ⟨_, rfl⟩
          rw [← hq]
          rintro e w6 ⟨rfl, hf⟩
          have H6 := Lib.hid (And.intro (H5.out.trans hf) hq); clear hf hq
          go_wp2_with fail
          go_at_call 13
          refine (rcheck_any _ _ HSZ.out).mono ?_
          rw [← H6.out.2]
          rintro e w7 ⟨rfl, hf⟩
          have H7 := Lib.hid (H6.out.1.trans hf); clear hf
          have hcr := HX.out.row H7.out
          rw [← HN.out.2] at hcr
          have HCR := Lib.hid hcr; clear hcr
          have HC2 := Lib.hid (Kd.C_alloc HCR.out (.cells #[] 3))
          have HSS : Hid (w7.heap.size ≤ (w7.alloc (.cells #[] 3)).heap.size ∧ (0 + n) * 8 ≤ 140737488355328) := Lib.hid ⟨by simp, by omega⟩
          go_wp2_with (at_builtin; refine append_ints w7.heap.size ?hw (.tmp 50) (.tmp 51) rfl (.slice (some ⟨w7.heap.size, 0, none⟩) 0 0) [] xs a n c rfl rfl (own_empty w7) HC2.out HSS.out.1 HSS.out.2 ?_; (case hw => rfl); intro A8 c8 w8 hr8 hc8 hl8 hf8; have H8 := Lib.hid (And.intro hc8 (And.intro hl8 hf8)); clear hr8 hc8 hl8 hf8)
          go_at_call 14
          refine (least_any seed A8 c8 xs _ H8.out.1 HN.out.1).mono ?_
          obtain ⟨z, hz⟩ : ∃ z, z = least seed xs := ⟨_, rfl⟩
          rw [← hz]
          rintro e w9 ⟨rfl, hf⟩
          have hf8 : Fr (fun _ => False) w w8 := (H7.out.alloc (.cells #[] 3)).own H8.out.2.2 (fun i e => by
            have e2 : w7.heap.size = i := by simpa [Value.ownBlock] using e.symm
            rw [← e2]; exact H7.out.size)
          have H9 := Lib.hid (And.intro (hf8.trans hf) hz); clear hf hz hf8
          go_wp2_with fail
          have hrl := rleast_any seed a c xs w9 (HX.out.row H9.out.1) (by rw [← HN.out.2]; exact HCAP.out) HN.out.1
          rw [← HN.out.2, ← H9.out.2] at hrl
          go_at_call 15
          refine hrl.mono ?_
          rintro e w10 ⟨rfl, hf⟩
          have H10 := Lib.hid (H9.out.1.trans hf); clear hf
          go_wp2_with fail
          go_ret
          exact ⟨rfl, H10.out⟩

end Go.Proofs.Ytmkafeknhnpkaaa
