/- A map of counts that the call makes; slices of strings and of numbers that came in. -/
import Derived.Test.YtmlgihdhclmdkaaNb
import Derived.Maps.OwnOps
import Derived.Maps.Views
import Derived.Maps.OwnIn
namespace Go.Proofs.Ytmlgihdhclmdkaa
open Go.RowKit Go.Proofs.YtmlgihdhclmdkaaW.PrintWords Go.WideMaps Go.Maps

def RdI (w : World) (a : Option Addr) (n : Nat) (xs : List Int) : Prop := xs.length = n ∧ n ≤ maxLen ∧ (∀ i, i < n → ∃ ad, a = some ad ∧ w.cell? (ad.add i) = some (.int .i64 (xs.getD i 0))) ∧ ∀ x ∈ xs, (Lit.int .i64 x).wf = true
def RdS (w : World) (a : Option Addr) (n : Nat) (xs : List ByteArray) : Prop := xs.length = n ∧ n ≤ maxLen ∧ (∀ i, i < n → ∃ ad, a = some ad ∧ w.cell? (ad.add i) = some (.string (xs.getD i ByteArray.empty))) ∧ ∀ x ∈ xs, x.size ≤ maxLen
theorem RdI.at {w w' : World} {a : Option Addr} {n : Nat} {xs : List Int} (h : RdI w a n xs) (hf : Fr (fun _ => False) w w') {i : Nat} (hi : i < n) : ∃ ad, a = some ad ∧ w'.cell? (ad.add i) = some (.int .i64 (xs.getD i 0)) := by
  obtain ⟨ad, e, hc⟩ := h.2.2.1 i hi
  exact ⟨ad, e, by rw [hf.bel.cell (World.block_lt_of_cell? w _ hc)]; exact hc⟩
theorem RdS.at {w w' : World} {a : Option Addr} {n : Nat} {xs : List ByteArray} (h : RdS w a n xs) (hf : Fr (fun _ => False) w w') {i : Nat} (hi : i < n) : ∃ ad, a = some ad ∧ w'.cell? (ad.add i) = some (.string (xs.getD i ByteArray.empty)) := by
  obtain ⟨ad, e, hc⟩ := h.2.2.1 i hi
  exact ⟨ad, e, by rw [hf.bel.cell (World.block_lt_of_cell? w _ hc)]; exact hc⟩
theorem RdS.size {w : World} {a : Option Addr} {n : Nat} {xs : List ByteArray} (h : RdS w a n xs) (i : Nat) : (xs.getD i ByteArray.empty).size ≤ maxLen := by
  by_cases hi : i < xs.length
  · rw [List.getD_eq_getElem?_getD, List.getElem?_eq_getElem hi]; exact h.2.2.2 _ (List.getElem_mem hi)
  · rw [List.getD_eq_getElem?_getD, List.getElem?_eq_none (by omega)]; exact Nat.zero_le _

def cnt (L : List Lt) (s : ByteArray) : Int := ((L.filter fun x => decide (x.s = s)).length : Int)
theorem cnt_bd (L : List Lt) (s : ByteArray) : 0 ≤ cnt L s ∧ cnt L s ≤ L.length := by
  unfold cnt
  have := List.length_filter_le (fun x : Lt => decide (x.s = s)) L
  omega
theorem cnt_snoc (L : List Lt) (x : Lt) (s : ByteArray) : cnt (L ++ [x]) s = cnt L s + if x.s = s then 1 else 0 := by
  unfold cnt
  rw [List.filter_append]
  by_cases h : x.s = s <;> simp [h]
theorem cnt_erase (L : List Lt) (i : Nat) (hi : i < L.length) (s : ByteArray) : cnt (L.eraseIdx i) s = cnt L s - if (L.getD i default).s = s then 1 else 0 := by
  have e : L = L.take i ++ L.getD i default :: L.drop (i + 1) := by
    rw [List.getD_eq_getElem?_getD, List.getElem?_eq_getElem hi, Option.getD_some, ← List.drop_eq_getElem_cons hi, List.take_append_drop]
  have e2 : cnt L s = cnt (L.take i ++ L.getD i default :: L.drop (i + 1)) s := by rw [← e]
  rw [e2, List.eraseIdx_eq_take_drop_succ]
  generalize L.getD i default = z
  unfold cnt
  rw [List.filter_append, List.filter_append, List.filter_cons]
  by_cases h : z.s = s <;> simp [h] <;> omega

theorem law9 : Keyed Try.prog 9 := string_keyed Try.underlying9
theorem zero3 (w : World) : (zeroValue 3).run Try.prog w = .ok (.int .i64 0) w := by kernel_rfl

/-- The map at block bm counts the letters of L. -/
def Mp (w : World) (bm n : Nat) (L : List Lt) : Prop := ∃ D : DataW Unit, w.ownsMap Try.prog 9 (plainElem Try.prog 3) bm n D ∧ IsMap D ∧ ∀ s : ByteArray, D.atKey (.string s.data.toList) (.lit (.int .i64 0)) = .lit (.int .i64 (cnt L s))

theorem Mp.fr {w w' : World} {bm n : Nat} {L : List Lt} {S : Nat → Prop} (h : Mp w bm n L) (hf : Fr S w w') (hs : ¬ S bm) : Mp w' bm n L := by
  obtain ⟨D, ⟨es, ck, hb, h1⟩, h2⟩ := h
  exact ⟨D, ⟨es, ck, hf.blk hb hs, h1⟩, h2⟩
theorem Mp.blk {w : World} {bm n : Nat} {L : List Lt} (h : Mp w bm n L) : ∃ es ck, w.heap[bm]? = some (.map es ck) := by
  obtain ⟨D, ⟨es, ck, hb, h1⟩, h2⟩ := h
  exact ⟨es, ck, hb⟩
theorem Mp.made (w : World) : Mp (w.alloc (.map #[] 0)) w.heap.size 0 [] :=
  ⟨.map [], World.ownsMap_made _ _ _ _, isMap_empty, fun s => rfl⟩

theorem look_cnt {w : World} {ops : Array Oper} {rest : List Oper} {o : Oper} {a : Act} {Q : Exit → Act → World → Prop} (hg : o.guard = none) (m x : Operand) (hop : o.op = Op.lookup 44 m x false)
    (bm n : Nat) (L : List Lt) (hm : a.eval m = .map (some bm)) (s : ByteArray) (hx : a.eval x = .string s) (hs : s.size ≤ maxLen) (h : Mp w bm n L) (hK : wpList Try.prog ops Q rest (a.put o.dst (.int .i64 (cnt L s))) w) :
    wpList Try.prog ops Q (o :: rest) a w := by
  obtain ⟨D, h1, h2, h3⟩ := h
  refine wpList_lookup_own_int w hg m x 44 hop 9 3 .i64 law9 Try.underlying44 Try.underlying3 (zero3 _) bm n D hm h1 (.string s) _ hx (keyOf_string_mk Try.underlying9 hs) ?_
  intro c hat _
  rw [h3] at hat
  simp at hat
  rw [← hat]
  exact hK

theorem put_cnt {w : World} {ops : Array Oper} {rest : List Oper} {o : Oper} {a : Act} {Q : Exit → Act → World → Prop} (hg : o.guard = none) (m x v : Operand) (hop : o.op = Op.mapUpdate 44 m x v)
    (bm n : Nat) (L M : List Lt) (hm : a.eval m = .map (some bm)) (s : ByteArray) (hx : a.eval x = .string s) (hs : s.size ≤ maxLen) (c : Int) (hv : a.eval v = .int .i64 c) (hc : c = cnt M s) (hM : ∀ t, t ≠ s → cnt M t = cnt L t) (hl : M.length ≤ 1000) (hn : n ≤ 1000)
    (h : Mp w bm n L) (hK : ∀ w', Mp w' bm (n + 1) M → w.grownBy w' (some bm) → wpList Try.prog ops Q rest (a.put o.dst undef) w') :
    wpList Try.prog ops Q (o :: rest) a w := by
  obtain ⟨D, h1, h2, h3⟩ := h
  have hb := cnt_bd M s
  have hwf : (Lit.int .i64 c).wf = true := by
    subst hc
    simp [Lit.wf, IntKind.min, IntKind.max, IntKind.signed, IntKind.bits]
    omega
  refine wpList_mapUpdate_own w hg m x v 44 hop 9 3 law9 Try.underlying44 _ bm n D hm h1 (by unfold maxLen; omega) (.string s) (.int .i64 c) _ hx hv (keyOf_string_mk Try.underlying9 hs) _ [] (plainElem_int Try.underlying3 hwf) ?_
  intro w' ho hgr
  refine hK w' ⟨_, ho, h2.put _ _, fun t => ?_⟩ hgr
  by_cases ht : t = s
  · subst ht
    rw [atKey_put_same h2 (by simp [WideAt.IsKeyLit]), hc]
  · rw [atKey_put_other (by
      intro e
      injection e with e
      exact ht (by
        have e2 : t.data = s.data := Array.ext' e
        cases t; cases s; simpa using e2)), h3, hM t ht]

/-- A net stays where no block of cells is written. -/
theorem IsN.frM {w w' : World} {b g bm : Nat} {L : List Lt} (h : IsN w b g L) {es : Array MapEntry} {ck : Nat} (hm : w.heap[bm]? = some (.map es ck)) (hf : Fr (· = bm) w w') : IsN w' b g L := by
  obtain ⟨v, h1, h2, h3, h4⟩ := h
  refine ⟨v, hf.blk h1 (by rintro rfl; rw [h1] at hm; simp at hm), ?_, h3, h4⟩
  obtain ⟨q1, q2⟩ := h2
  refine ⟨q1, ?_⟩
  rcases q2 with q2 | ⟨x, cap, cur, hv, hx, hh, q⟩
  · exact .inl q2
  · exact .inr ⟨x, cap, cur, hv, hx, hf.blk hh (by rintro rfl; rw [hh] at hm; simp at hm), q⟩
theorem tn_map {w : World} {b g bm : Nat} {L : List Lt} (h : IsN w b g L) {es : Array MapEntry} {ck : Nat} (hm : w.heap[bm]? = some (.map es ck)) : ¬ TN w b g bm := by
  rintro ⟨_, rfl | ⟨cs, fr, hh⟩⟩
  · obtain ⟨v, h1, _⟩ := h
    rw [h1] at hm; simp at hm
  · rw [hh] at hm; simp at hm

end Go.Proofs.Ytmlgihdhclmdkaa
