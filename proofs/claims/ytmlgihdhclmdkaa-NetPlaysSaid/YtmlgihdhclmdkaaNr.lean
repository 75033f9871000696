/- The reference's net, by walks. -/
import Derived.Test.YtmlgihdhclmdkaaNb
namespace Go.Proofs.Ytmlgihdhclmdkaa
open Go.RowKit Go.Proofs.YtmlgihdhclmdkaaW.PrintWords

def vI (x : Int) : Value := .int .i64 x
def vS (x : ByteArray) : Value := .string x
def tos (L : List Lt) : List Int := L.map (·.t)
def sss (L : List Lt) : List ByteArray := L.map (·.s)
theorem info3 : (Try.prog.info? 3).map (fun i => (i.zero, i.size, i.bytes)) = some (some (.int .i64 0), 1, 8) := by kernel_rfl
theorem info9 : (Try.prog.info? 9).map (fun i => (i.zero, i.size, i.bytes)) = some (some (.string ⟨#[]⟩), 1, 16) := by kernel_rfl

/-- The reference's net at block g, its rows from block b on. -/
def IsF (w : World) (b g : Nat) (L : List Lt) : Prop :=
  ∃ v1 v2, w.heap[g]? = some (.cells #[v1, v2] 30 (0, 0)) ∧ w.ownsRow b 3 1 v1 L.length (encs vI (tos L)) ∧ w.ownsRow b 9 1 v2 L.length (encs vS (sss L)) ∧ b ≤ g ∧ L.length ≤ 200
def TF (w : World) (b g : Nat) (i : Nat) : Prop := b ≤ i ∧ (i = g ∨ ∃ cs fr, w.heap[i]? = some (.cells cs 3 fr) ∨ w.heap[i]? = some (.cells cs 9 fr))

theorem IsF.lt {w : World} {b g : Nat} {L : List Lt} (h : IsF w b g L) : g < w.heap.size := by
  obtain ⟨v1, v2, hb, _⟩ := h
  exact blk_lt hb
theorem IsF.fr {w w' : World} {b g : Nat} {L : List Lt} {S : Nat → Prop} (h : IsF w b g L) (hf : Fr S w w') (hs : ∀ i, b ≤ i → ¬ S i) : IsF w' b g L := by
  obtain ⟨v1, v2, h1, h2, h3, h4, h5⟩ := h
  exact ⟨v1, v2, hf.blk h1 (hs g h4), own_fr h2 hf hs, own_fr h3 hf hs, h4, h5⟩
theorem own_block3 {w : World} {b : Nat} {v : Value} {n : Nat} {xs : List Value} (h : w.ownsRow b 3 1 v n xs) : ∀ i, v.ownBlock = some i → b ≤ i ∧ ∃ cs fr, w.heap[i]? = some (.cells cs 3 fr) := by
  intro i hi
  rcases h.2 with ⟨rfl, _⟩ | ⟨g, cap, cur, rfl, hg, hh, _⟩
  · simp [Value.ownBlock] at hi
  · simp [Value.ownBlock] at hi
    subst hi
    exact ⟨hg, _, _, hh⟩
theorem own_block9 {w : World} {b : Nat} {v : Value} {n : Nat} {xs : List Value} (h : w.ownsRow b 9 1 v n xs) : ∀ i, v.ownBlock = some i → b ≤ i ∧ ∃ cs fr, w.heap[i]? = some (.cells cs 9 fr) := by
  intro i hi
  rcases h.2 with ⟨rfl, _⟩ | ⟨g, cap, cur, rfl, hg, hh, _⟩
  · simp [Value.ownBlock] at hi
  · simp [Value.ownBlock] at hi
    subst hi
    exact ⟨hg, _, _, hh⟩

set_option maxHeartbeats 1000000 in
theorem fplace_any (b g : Nat) (L : List Lt) (k : Int) (w : World) (h : IsF w b g L) (hL : L ≠ []) :
    Calls Try.prog 8 #[.pointer (some ⟨g, 0, none⟩), .int .i64 k] w fun e w' => e = .returned (.int .i64 (plN k L.length)) ∧ w = w' := by
  obtain ⟨v1, v2, h1, h2, h3, h4, h5⟩ := h
  have hc1 := (blk_cell h1 1).trans rfl
  obtain ⟨A, c, rfl⟩ := own_slice h3
  have hpos : 0 < L.length := List.length_pos_iff.2 hL
  have hn : ((L.length : Int) == 0) = false := by simp; exact hL
  have HP := Lib.hid (pl_num k L.length hpos (by omega))
  clear h1 h2 h3 hL
  generalize L.length = n at *
  go_enter Try.func8, Try.ntmps8
  go_wp2
  go_ret
  rw [HP.out]
  exact ⟨rfl, rfl⟩

set_option maxHeartbeats 1000000 in
theorem fplace_none (b g : Nat) (k : Int) (w : World) (h : IsF w b g []) :
    Calls Try.prog 8 #[.pointer (some ⟨g, 0, none⟩), .int .i64 k] w fun e w' => e = .returned (.int .i64 (-1)) ∧ w = w' := by
  obtain ⟨v1, v2, h1, h2, h3, h4, h5⟩ := h
  have hc1 := (blk_cell h1 1).trans rfl
  obtain ⟨A, c, rfl⟩ := own_slice h3
  clear h1 h2 h3
  go_enter Try.func8, Try.ntmps8
  go_wp2
  go_ret
  exact ⟨rfl, rfl⟩

set_option maxRecDepth 100000 in
set_option maxHeartbeats 1000000 in
theorem fsend_full (b g : Nat) (L : List Lt) (t : Int) (s : ByteArray) (w : World) (h : IsF w b g L) (hL : 200 ≤ L.length) :
    Calls Try.prog 10 #[.pointer (some ⟨g, 0, none⟩), .int .i64 t, .string s] w fun e w' => e = .returned (.int .i64 6) ∧ w = w' := by
  obtain ⟨v1, v2, h1, h2, h3, h4, h5⟩ := h
  have hc1 := (blk_cell h1 1).trans rfl
  obtain ⟨A, c, rfl⟩ := own_slice h3
  clear h1 h2 h3
  generalize L.length = n at *
  go_enter Try.func10, Try.ntmps10
  go_wp2
  go_ret
  exact ⟨rfl, rfl⟩

theorem app_int {ops : Array Oper} {rest : List Oper} {o : Oper} {a : Act} {Q : Exit → Act → World → Prop} {W : World} (b : Nat) (hgd : o.guard = none) (s x : Operand)
    (ho : o.op = .call { callee := .builtin .append, args := #[s, x], argTypes := #[27, 27] })
    (v : Value) (n : Nat) (xs : List Int) (y : Int) (hs : a.eval s = v) (hz : Nat) (hx : a.eval x = .slice (some ⟨hz, 0, none⟩) 1 1) (hh : W.heap.size = hz) (hn : xs.length = n)
    (HO : W.ownsRow b 3 1 v n (encs vI xs)) (hb : b ≤ W.heap.size) (hl : n ≤ 1000)
    (h : ∀ v1 w1, w1.ownsRow b 3 1 v1 (n + 1) (encs vI (xs ++ [y])) → W.grownBy w1 v.ownBlock → (v1.ownBlock = v.ownBlock ∨ ∃ b, v1.ownBlock = some b ∧ W.heap.size ≤ b) → wpList Try.prog ops Q rest (a.put o.dst v1) w1) :
    wpList Try.prog ops Q (o :: rest) a (W.alloc (.cells #[.int .i64 y] 3)) := by
  subst hn hh
  refine print_append_of (P := Try.prog) (w0 := W) vI b hgd s x 27 3 (.int .i64 0) 8 ho Try.underlying27 info3 rfl (by omega) v xs y hs hx rfl HO (Below.refl _ _) hb (by omega) ?_
  intro v1 w1 ho1 _ hg hat
  exact h v1 w1 (by simpa using ho1) hg hat
theorem app_str {ops : Array Oper} {rest : List Oper} {o : Oper} {a : Act} {Q : Exit → Act → World → Prop} {W : World} (b : Nat) (hgd : o.guard = none) (s x : Operand)
    (ho : o.op = .call { callee := .builtin .append, args := #[s, x], argTypes := #[28, 28] })
    (v : Value) (n : Nat) (xs : List ByteArray) (y : ByteArray) (hs : a.eval s = v) (hz : Nat) (hx : a.eval x = .slice (some ⟨hz, 0, none⟩) 1 1) (hh : W.heap.size = hz) (hn : xs.length = n)
    (HO : W.ownsRow b 9 1 v n (encs vS xs)) (hb : b ≤ W.heap.size) (hl : n ≤ 1000)
    (h : ∀ v1 w1, w1.ownsRow b 9 1 v1 (n + 1) (encs vS (xs ++ [y])) → W.grownBy w1 v.ownBlock → (v1.ownBlock = v.ownBlock ∨ ∃ b, v1.ownBlock = some b ∧ W.heap.size ≤ b) → wpList Try.prog ops Q rest (a.put o.dst v1) w1) :
    wpList Try.prog ops Q (o :: rest) a (W.alloc (.cells #[.string y] 9)) := by
  subst hn hh
  refine print_append_of (P := Try.prog) (w0 := W) vS b hgd s x 28 9 (.string ⟨#[]⟩) 16 ho Try.underlying28 info9 rfl (by omega) v xs y hs hx rfl HO (Below.refl _ _) hb (by omega) ?_
  intro v1 w1 ho1 _ hg hat
  exact h v1 w1 (by simpa using ho1) hg hat


theorem ne_ty {w : World} {b g e : Nat} {v : Value} {n : Nat} {xs : List Value} {cs : Array Value} (hb : w.heap[g]? = some (.cells cs 30 (0, 0))) (h : w.ownsRow b e 1 v n xs) (he : e ≠ 30) : some g ≠ v.ownBlock := own_ne h hb he

/-- Behind the first row's append and write. -/
theorem fs1 {w w1 : World} {b g n m : Nat} {v1 v2 v1' : Value} {xs ys zs : List Value} (hb : w.heap[g]? = some (.cells #[v1, v2] 30 (0, 0))) (h1 : w.ownsRow b 3 1 v1 n xs) (h2 : w.ownsRow b 9 1 v2 m ys) (hbg : b ≤ g)
    {k : Nat} (ho : w1.ownsRow b 3 1 v1' k zs) (hg : w.grownBy w1 v1.ownBlock) :
    w1.heap[g]? = some (.cells #[v1, v2] 30 (0, 0)) ∧ (w1.setCell ⟨g, 0, none⟩ v1').heap[g]? = some (.cells #[v1', v2] 30 (0, 0)) ∧ (w1.setCell ⟨g, 0, none⟩ v1').ownsRow b 3 1 v1' k zs ∧ (w1.setCell ⟨g, 0, none⟩ v1').ownsRow b 9 1 v2 m ys ∧ Fr (TF w b g) w (w1.setCell ⟨g, 0, none⟩ v1') := by
  have hb1 := blk_grown hb hg (ne_ty hb h1 (by decide))
  have h2' := own_other h2 hg (own_type_ne h2 h1 (by decide))
  refine ⟨hb1, by simpa using blk_set hb1 0 v1', own_setCell ho (ne_ty hb1 ho (by decide)) _, own_setCell h2' (ne_ty hb1 h2' (by decide)) _, ?_⟩
  refine ((Fr.of_grown hg).mono fun i _ hi => ?_).setCell (.inl ⟨hbg, .inl rfl⟩) _
  obtain ⟨q1, cs, fr, q2⟩ := own_block3 h1 i hi.symm
  exact ⟨q1, .inr ⟨cs, fr, .inl q2⟩⟩
/-- Behind the second row's. -/
theorem fs2 {w w1 : World} {b g n m : Nat} {v1 v2 v2' : Value} {xs ys zs : List Value} (hb : w.heap[g]? = some (.cells #[v1, v2] 30 (0, 0))) (h1 : w.ownsRow b 3 1 v1 n xs) (h2 : w.ownsRow b 9 1 v2 m ys) (hbg : b ≤ g)
    {k : Nat} (ho : w1.ownsRow b 9 1 v2' k zs) (hg : w.grownBy w1 v2.ownBlock) :
    w1.heap[g]? = some (.cells #[v1, v2] 30 (0, 0)) ∧ (w1.setCell ⟨g, 1, none⟩ v2').heap[g]? = some (.cells #[v1, v2'] 30 (0, 0)) ∧ (w1.setCell ⟨g, 1, none⟩ v2').ownsRow b 3 1 v1 n xs ∧ (w1.setCell ⟨g, 1, none⟩ v2').ownsRow b 9 1 v2' k zs ∧ Fr (TF w b g) w (w1.setCell ⟨g, 1, none⟩ v2') := by
  have hb1 := blk_grown hb hg (ne_ty hb h2 (by decide))
  have h1' := own_other h1 hg (own_type_ne h1 h2 (by decide))
  refine ⟨hb1, by simpa using blk_set hb1 1 v2', own_setCell h1' (ne_ty hb1 h1' (by decide)) _, own_setCell ho (ne_ty hb1 ho (by decide)) _, ?_⟩
  refine ((Fr.of_grown hg).mono fun i _ hi => ?_).setCell (.inl ⟨hbg, .inl rfl⟩) _
  obtain ⟨q1, cs, fr, q2⟩ := own_block9 h2 i hi.symm
  exact ⟨q1, .inr ⟨cs, fr, .inr q2⟩⟩
/-- What one step may write, the first world tells as well. -/
theorem TF.back {w w1 : World} {b g i : Nat} (h : TF w1 b g i) (hf : Fr (TF w b g) w w1) (hi : i < w.heap.size) : TF w b g i := by
  by_cases q : TF w b g i
  · exact q
  · rcases h with ⟨hb, rfl | ⟨cs, fr, h⟩⟩
    · exact ⟨hb, .inl rfl⟩
    · rw [hf.block i hi q] at h
      exact ⟨hb, .inr ⟨cs, fr, h⟩⟩
theorem Fr.tf {w w1 w2 : World} {b g : Nat} (h : Fr (TF w b g) w w1) (k : Fr (TF w1 b g) w1 w2) : Fr (TF w b g) w w2 :=
  ⟨k.os.trans h.os, k.tape.trans h.tape, k.output.trans h.output, Nat.le_trans h.size k.size, fun i hi hs => (k.block i (Nat.lt_of_lt_of_le hi h.size) (fun q => hs (q.back h hi))).trans (h.block i hi hs)⟩

set_option maxRecDepth 100000 in
set_option maxHeartbeats 2000000 in
theorem fsend_any (b g : Nat) (L : List Lt) (t : Int) (s : ByteArray) (w : World) (h : IsF w b g L) (hL : L.length < 200) :
    Calls Try.prog 10 #[.pointer (some ⟨g, 0, none⟩), .int .i64 t, .string s] w fun e w' => e = .returned (.int .i64 0) ∧ IsF w' b g (L ++ [⟨t, s⟩]) ∧ Fr (TF w b g) w w' := by
  obtain ⟨v1, v2, h1, h2, h3, h4, h5⟩ := h
  obtain ⟨A1, c1, rfl⟩ := own_slice h2
  obtain ⟨A2, c2, rfl⟩ := own_slice h3
  have hc0 := (blk_cell h1 0).trans rfl
  have hc1 := (blk_cell h1 1).trans rfl
  have hf0 := blk_frozen h1 0
  have hg : g < w.heap.size := blk_lt h1
  have hd : decide ((200 : Int) ≤ (L.length : Int)) = false := by simp; omega
  have HB : Hid (b ≤ w.heap.size) := Lib.hid (by omega)
  have HL : Hid (L.length ≤ 1000) := Lib.hid (by omega)
  have HT : Hid ((tos L).length = L.length) := Lib.hid (by simp [tos])
  have HT2 : Hid ((sss L).length = L.length) := Lib.hid (by simp [sss])
  have H := Lib.hid (And.intro h1 (And.intro h2 (And.intro h3 h4)))
  clear h1 h2 h3
  generalize hn : L.length = n at *
  have HN := Lib.hid hn; clear hn
  go_enter Try.func10, Try.ntmps10
  go_wp2_with (first | (at_builtin; refine app_int b rfl (.tmp 17) (.tmp 19) rfl (.slice A1 n c1) n (tos L) t rfl w.heap.size rfl rfl HT.out H.out.2.1 HB.out HL.out ?_; intro v1' w1 ho hgr _; obtain ⟨A1', c1', rfl⟩ := own_slice ho; have H5 := Lib.hid (fs1 H.out.1 H.out.2.1 H.out.2.2.1 H.out.2.2.2 ho hgr); have hc0' := (blk_cell H5.out.1 0).trans rfl; have hc1' := (blk_cell H5.out.1 1).trans rfl; have hf1' := blk_frozen H5.out.1 0; have HB2 : Hid (b ≤ (w1.setCell ⟨g, 0, none⟩ (.slice A1' (n + 1) c1')).heap.size) := Lib.hid (Nat.le_trans HB.out H5.out.2.2.2.2.size); have HZ : Hid ((w1.setCell ⟨g, 0, none⟩ (.slice A1' (n + 1) c1')).heap.size = w1.heap.size) := Lib.hid (by simp [World.setCell]); clear ho hgr) | (at_builtin; refine app_str b rfl (.tmp 27) (.tmp 29) rfl (.slice A2 n c2) n (sss L) s rfl w1.heap.size rfl HZ.out HT2.out H5.out.2.2.2.1 HB2.out HL.out ?_; intro v2' w2 ho hgr _; obtain ⟨A2', c2', rfl⟩ := own_slice ho; have H6 := Lib.hid (fs2 H5.out.2.1 H5.out.2.2.1 H5.out.2.2.2.1 H.out.2.2.2 ho hgr); have hd1' := (blk_cell H6.out.1 1).trans rfl; have hg1' := blk_frozen H6.out.1 1; clear ho hgr))
  go_ret
  refine ⟨rfl, ⟨_, _, H6.out.2.1, ?_, ?_, h4, ?_⟩, H5.out.2.2.2.2.tf H6.out.2.2.2.2⟩
  · have e : (L ++ [(⟨t, s⟩ : Lt)]).length = n + 1 := by simp [HN.out]
    have e2 : tos (L ++ [⟨t, s⟩]) = tos L ++ [t] := by simp [tos]
    rw [e, e2]
    exact H6.out.2.2.1
  · have e : (L ++ [(⟨t, s⟩ : Lt)]).length = n + 1 := by simp [HN.out]
    have e2 : sss (L ++ [⟨t, s⟩]) = sss L ++ [s] := by simp [sss]
    rw [e, e2]
    exact H6.out.2.2.2.1
  · simp [HN.out]; omega

/-- A row that is read, appended to a row of the call's own: its run. -/
theorem run_row {P : Program} {α : Type} (enc : α → Value) (d : α) (W : World) (base : Nat) (t ty e : TypeId) (i0 : TypeInfo) (z : Value) (bytes : Nat) (ht : P.underlying t = some (.slice e)) (hi : P.info? e = some i0) (hz0 : i0.zero = some z) (hz1 : i0.size = 1) (hz2 : i0.bytes = bytes) (hz : z.cells.size = 1) (hb0 : 0 < bytes) (h1 : ∀ x : α, (enc x).oneCell' = true)
    (v : Value) (n : Nat) (xs : List Value) (ys : List α) (A : Option Addr) (m c : Nat) (HO : W.ownsRow base e 1 v n xs) (HR : ReadsOf enc d W A m ys) (hbase : base ≤ W.heap.size) (hl : (n + m) * bytes ≤ 140737488355328) :
    ∃ v1 w1, (Builtin.append_ #[t, t] ty #[v, .slice A m c]).run P W = .ok v1 w1 ∧ w1.ownsRow base e 1 v1 (n + m) (xs ++ encs enc ys) ∧ W.grownBy w1 v.ownBlock ∧ (v1.ownBlock = v.ownBlock ∨ ∃ b, v1.ownBlock = some b ∧ W.heap.size ≤ b) := by
  have hm : ys.length = m := HR.1
  have hlen : n + m ≤ 140737488355328 := Nat.le_trans (Nat.le_mul_of_pos_right _ hb0) hl
  rcases A with _ | ad
  · obtain rfl : m = 0 := by
      rcases Nat.eq_zero_or_pos m with h0 | h0
      · exact h0
      · obtain ⟨ad, h, _⟩ := HR.2.2 h0
        cases h
    obtain rfl : ys = [] := List.eq_nil_of_length_eq_zero hm
    refine ⟨v, W, ?_, by simpa [encs] using HO, World.grownBy.refl W _, .inl rfl⟩
    rcases HO.2 with ⟨rfl, hn⟩ | ⟨g, cap, cur, rfl, _, _, hnc, _⟩
    · simp [Builtin.append_, run_underlying ht, sizeOf, typeInfo, hi, Builtin.lenOf, Builtin.firstCells]
    · simp [Builtin.append_, run_underlying ht, sizeOf, typeInfo, hi, Builtin.lenOf, Builtin.firstCells, hnc, storeCells]
  · have hcells : ∀ j u, (encs enc ys)[j]? = some u → W.cell? (ad.add j) = some u := by
      intro j u hu
      have hj : j < ys.length := by
        rcases Nat.lt_or_ge j ys.length with h | h
        · exact h
        · simp [encs, List.getElem?_eq_none h] at hu
      obtain ⟨ad', h', hc⟩ := HR.2.2 (by omega)
      injection h' with h'
      subst h'
      rw [encs_get (d := d) ys j hj] at hu
      rw [← hu]
      exact hc j (by omega)
    obtain ⟨v1, w1, hr, h2, h3, _, h5⟩ := run_append_own_at (P := P) W base t ty e i0 z 1 bytes ht hi hz0 hz1 hz2 hz (by omega) v n xs HO ad m c (encs enc ys) (by simp [encs, hm]) hcells
      (by intro u hu; simp only [encs, List.mem_map] at hu; obtain ⟨q, _, rfl⟩ := hu; exact h1 q) (by simp only [maxLen]; omega) hl hbase
    refine ⟨v1, w1, hr, h2, h3, ?_⟩
    rcases h5 with h5 | h5
    · exact .inl h5
    · exact .inr ⟨_, h5, Nat.le_refl _⟩

/-- The same as a step of a region that draws. -/
theorem step_row {P : Program} {α : Type} (enc : α → Value) (d : α) {ops : Array Oper} {o : Oper} {a : Act} {W : World} {K : Act → World → Prop} {Q : Exit → Act → World → Prop} {E : Prop} (hgd : o.guard = none) (s x : Operand) (t : TypeId)
    (ho : o.op = .call { callee := .builtin .append, args := #[s, x], argTypes := #[t, t] }) (base : Nat) (e : TypeId) (i0 : TypeInfo) (z : Value) (bytes : Nat) (ht : P.underlying t = some (.slice e)) (hi : P.info? e = some i0) (hz0 : i0.zero = some z) (hz1 : i0.size = 1) (hz2 : i0.bytes = bytes) (hz : z.cells.size = 1) (hb0 : 0 < bytes) (h1 : ∀ x : α, (enc x).oneCell' = true)
    (v : Value) (n : Nat) (xs : List Value) (ys : List α) (A : Option Addr) (m c : Nat) (hs : a.eval s = v) (hx : a.eval x = .slice A m c) (HO : W.ownsRow base e 1 v n xs) (HR : ReadsOf enc d W A m ys) (hbase : base ≤ W.heap.size) (hl : (n + m) * bytes ≤ 140737488355328)
    (h : ∀ A1 c1 w1, w1.ownsRow base e 1 (.slice A1 (n + m) c1) (n + m) (xs ++ encs enc ys) → W.grownBy w1 v.ownBlock → ((Value.slice A1 (n + m) c1).ownBlock = v.ownBlock ∨ ∃ b, (Value.slice A1 (n + m) c1).ownBlock = some b ∧ W.heap.size ≤ b) → K (a.put o.dst (.slice A1 (n + m) c1)) w1) :
    if Region.wanted o (yielded ops a.tmps) = true then Oper.wp P o a W K Q else E := by
  have hw : Region.wanted o (yielded ops a.tmps) = true := by simp [Region.wanted, hgd]
  rw [if_pos hw]
  obtain ⟨v1, w1, hr, hown, hg, hat⟩ := run_row (P := P) enc d W base t o.type e i0 z bytes ht hi hz0 hz1 hz2 hz hb0 h1 v n xs ys A m c HO HR hbase hl
  obtain ⟨A1, c1, rfl⟩ := own_slice hown
  unfold Oper.wp execOp
  simp only [ho, resolve, invoke, builtin, Sem.run_bind, Sem.run_pure, Result.andThen_ok, List.map_toArray, List.map_cons, List.map_nil, hs, hx, hr]
  exact h A1 c1 w1 hown hg hat

end Go.Proofs.Ytmlgihdhclmdkaa
