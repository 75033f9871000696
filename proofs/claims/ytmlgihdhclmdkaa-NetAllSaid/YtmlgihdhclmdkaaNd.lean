/- slices.Delete of one letter, by a walk. -/
import Derived.Test.YtmlgihdhclmdkaaNt
namespace Go.Proofs.Ytmlgihdhclmdkaa
open Go.RowKit Go.Proofs.YtmlgihdhclmdkaaW.PrintWords

theorem zero_letter (w : World) : (zeroValue 51).run Try.prog w = .ok (.agg #[.int .i64 0, .string ⟨#[]⟩]) w := by kernel_rfl

theorem run_clear_letter (w : World) (ty : TypeId) (g o c : Nat) (hc : ∀ j, j < 2 → (w.cell? ⟨g, o + j, none⟩).isSome = true) (hf : ∀ j, j < 2 → w.frozen? ⟨g, o + j, none⟩ = false) :
    (Builtin.clear_ #[46] ty #[.slice (some ⟨g, o, none⟩) 1 c]).run Try.prog w = .ok (.tuple #[]) (w.setCells g o [.int .i64 0, .string ⟨#[]⟩]) := by
  have hzc : (Builtin.zeroCells (Value.agg #[.int .i64 0, .string ⟨#[]⟩]).cells 1).toList = [.int .i64 0, .string ⟨#[]⟩] := by
    simp [Builtin.zeroCells, Value.cells, List.range_succ]
  have hst := run_storeCells_cells (P := Try.prog) g o [.int .i64 0, .string ⟨#[]⟩] 0 w (by simpa using hc) (by simpa using hf) (by simp [Value.oneCell'])
  simp only [Nat.add_zero] at hst
  simp [Builtin.clear_, run_underlying Try.underlying46, zero_letter, hzc, hst]

theorem add_at (g o j : Nat) : (⟨g, o, none⟩ : Addr).add j = ⟨g, o + j, none⟩ := by unfold Addr.add; split <;> simp_all

/-- The world behind a delete. -/
def dw (w : World) (g i r : Nat) (L : List Lt) : World := (w.drew.setCells g (i * 2) (ltc (L.drop (i + 1)))).setCells g ((i + r) * 2) [.int .i64 0, .string ⟨#[]⟩]

theorem clear_after {w : World} {g cap i r : Nat} {L : List Lt} {cur : Array Value} (hb : w.heap[g]? = some (.cells cur 51 (0, 0))) (hsz : cur.size = cap * 2) (hr : i + r ≤ cap) (hr1 : i + 1 + r ≤ cap) (hlen : (ltc (L.drop (i + 1))).length = r * 2) :
    (Builtin.clear_ #[46] 0 #[.slice (some ⟨g, (i + r) * 2, none⟩) (i + 1 + r - (i + r)) (cap - (i + r))]).run Try.prog (w.drew.setCells g (i * 2) (ltc (L.drop (i + 1)))) = .ok (.tuple #[]) (dw w g i r L) := by
  have e : i + 1 + r - (i + r) = 1 := by omega
  rw [e]
  obtain ⟨cur1, h1, h2, h3⟩ := setCells_row (ltc (L.drop (i + 1))) (i * 2) w.drew cur hb (by rw [hlen, hsz]; omega)
  refine run_clear_letter _ _ _ _ _ (fun j hj => ?_) (fun j hj => blk_frozen h1 _)
  rw [blk_cell h1, Array.getElem?_eq_getElem (by omega)]
  rfl

theorem own_deleted {w : World} {g cap i r b : Nat} {L : List Lt} {cur : Array Value} (hb : w.heap[g]? = some (.cells cur 51 (0, 0))) (hsz : cur.size = cap * 2) (htk : cur.toList.take ((i + 1 + r) * 2) = ltc L) (hL : L.length = i + 1 + r) (hbase : b ≤ g) (hle : i + 1 + r ≤ cap) (hcm : cap ≤ maxLen) :
    (dw w g i r L).ownsRow b 51 2 (.slice (some ⟨g, 0, none⟩) (i + r) cap) (i + r) (ltc (L.eraseIdx i)) := by
  have hlen : (ltc (L.drop (i + 1))).length = r * 2 := by rw [ltc_length, List.length_drop, hL]; omega
  obtain ⟨cur1, h1, h2, h3⟩ := setCells_row (ltc (L.drop (i + 1))) (i * 2) w.drew cur hb (by rw [hlen, hsz]; omega)
  obtain ⟨cur2, q1, q2, q3⟩ := setCells_row [.int .i64 0, .string ⟨#[]⟩] ((i + r) * 2) _ cur1 h1 (by simp; omega)
  have e1 : cur1.toList.take ((i + r) * 2) = ltc (L.eraseIdx i) := by
    have e2 : cur.toList.take (i * 2) = ltc (L.take i) := by
      rw [← ltc_take, ← htk, List.take_take, Nat.min_eq_left (by omega)]
    have e3 : (ltc (L.take i)).length = i * 2 := by rw [ltc_length, List.length_take, hL]; omega
    rw [h3, e2, List.eraseIdx_eq_take_drop_succ, ltc_append, List.take_append_of_le_length (by rw [List.length_append, e3, hlen]; omega), List.take_of_length_le (by rw [List.length_append, e3, hlen]; omega)]
  refine ⟨by rw [ltc_length, List.length_eraseIdx, hL, if_pos (by omega)]; omega, .inr ⟨g, cap, cur2, rfl, hbase, q1, by omega, hcm, by omega, ?_⟩⟩
  rw [q3, List.append_assoc, List.take_append_of_le_length (by simp; omega), List.take_take, Nat.min_self]
  exact e1

theorem fr_deleted {w : World} {g i r : Nat} {L : List Lt} : Fr (· = g) w (dw w g i r L) := by
  obtain ⟨a1, a2, a3, a4⟩ := setCells_same g (ltc (L.drop (i + 1))) (i * 2) w.drew
  obtain ⟨b1, b2, b3, b4⟩ := setCells_same g [.int .i64 0, .string ⟨#[]⟩] ((i + r) * 2) (w.drew.setCells g (i * 2) (ltc (L.drop (i + 1))))
  refine ⟨b1.trans a1, b2.trans a2, b3.trans a3, by rw [dw, b4, a4]; exact Nat.le_refl _, fun k _ hk => ?_⟩
  rw [dw, setCells_far _ _ _ hk, setCells_far _ _ _ hk]
  rfl

set_option maxHeartbeats 2000000 in
theorem delete_any (g cap i r : Nat) (L : List Lt) (b : Nat) (w : World) (h : w.ownsRow b 51 2 (.slice (some ⟨g, 0, none⟩) (i + 1 + r) cap) (i + 1 + r) (ltc L)) (hL : L.length = i + 1 + r) (hn : i + 1 + r ≤ 1000) :
    Calls Try.prog 17 #[.slice (some ⟨g, 0, none⟩) (i + 1 + r) cap, .int .i64 i, .int .i64 (i + 1)] w fun e w' =>
      e = .returned (.slice (some ⟨g, 0, none⟩) (i + r) cap) ∧ w'.ownsRow b 51 2 (.slice (some ⟨g, 0, none⟩) (i + r) cap) (i + r) (ltc (L.eraseIdx i)) ∧ Fr (· = g) w w' := by
  have hle := own_le h
  obtain ⟨cur, hb, hsz, htk, hcm⟩ : ∃ cur, w.heap[g]? = some (.cells cur 51 (0, 0)) ∧ cur.size = cap * 2 ∧ cur.toList.take ((i + 1 + r) * 2) = ltc L ∧ cap ≤ maxLen := by
    rcases h.2 with ⟨h2, _⟩ | ⟨g', cap', cur, hv, _, hh, _, q0, q1, q2⟩
    · simp at h2
    · injection hv with a1 a2 a3
      injection a1 with a1
      injection a1 with a1
      subst a1 a3
      exact ⟨cur, hh, q1, q2, q0⟩
  obtain ⟨i0, hi, hzz⟩ := Option.map_eq_some_iff.1 infoL
  simp only [Prod.mk.injEq] at hzz
  obtain ⟨_, hs2, _⟩ := hzz
  have HI := Lib.hid (And.intro hi hs2)
  have hbase := own_base h g rfl
  have H := Lib.hid (And.intro hb (And.intro hsz (And.intro htk (And.intro hL (And.intro hbase hcm)))))
  have hlen : (ltc (L.drop (i + 1))).length = r * 2 := by rw [ltc_length, List.length_drop, hL]; omega
  have hone : ∀ u ∈ ltc (L.drop (i + 1)), u.oneCell' = true := by
    intro u hu
    simp only [ltc, List.mem_flatMap] at hu
    obtain ⟨x, _, hx⟩ := hu
    simp at hx
    rcases hx with rfl | rfl <;> rfl
  have hnews : ∀ j u, (ltc (L.drop (i + 1)))[j]? = some u → w.cell? ⟨g, (i + 1) * 2 + j, none⟩ = some u := by
    intro j u hu
    rw [blk_cell hb, ← Array.getElem?_toList]
    rw [← ltc_drop, ← htk, List.getElem?_drop, List.getElem?_take] at hu
    split at hu
    · exact hu
    · cases hu
  have hsp : ∀ j, j < (ltc (L.drop (i + 1))).length → (w.cell? ⟨g, 0 + i * 2 + j, none⟩).isSome = true ∧ w.frozen? ⟨g, 0 + i * 2 + j, none⟩ = false := by
    intro j hj
    rw [hlen] at hj
    refine ⟨?_, blk_frozen hb _⟩
    rw [blk_cell hb, Array.getElem?_eq_getElem (by omega)]
    rfl
  have HA := Lib.hid (And.intro hlen (And.intro hone (And.intro hnews hsp)))
  have hroom : i + r ≤ cap := by omega
  have HR := Lib.hid (And.intro hroom hle)
  clear h hb hsz htk hL hi hs2 hlen hone hnews hsp hroom hcm
  have hic : i ≤ cap := by omega
  have hic1 : i + 1 ≤ cap := by omega
  have hb1 : (0 : Int) ≤ (i : Int) + 1 := by omega
  have hb2 : (i : Int) + 1 ≤ (i : Int) + 1 + (r : Int) := by omega
  by_cases hcap : cap = i + 1
  · obtain rfl : r = 0 := by omega
    subst hcap
    have hnil : L.drop (i + 1) = [] := List.drop_eq_nil_of_le (by rw [H.out.2.2.2.1]; omega)
    have e0 : ltc (L.drop (i + 1)) = [] := by rw [hnil]; rfl
    have hcl : (Builtin.clear_ #[46] 0 #[.slice (some ⟨g, i * 2, none⟩) 1 1]).run Try.prog (w.drew.setCells g (i * 2) []) = .ok (.tuple #[]) (dw w g i 0 L) := by
      have q := clear_after (i := i) (r := 0) H.out.1 H.out.2.1 HR.out.1 HR.out.2 HA.out.1
      rw [e0] at q
      have e1 : i + 1 + 0 - (i + 0) = 1 := by omega
      rw [e1] at q
      exact q
    clear e0 hnil hic1
    have hi1 : (i : Int) ≤ (i : Int) + 1 := by omega
    go_enter Try.func17, Try.ntmps17
    go_wp2
    go_region_law (refine step_append_room rfl (.tmp 22) (.tmp 25) 46 rfl 51 i0 2 Try.underlying46 HI.out.1 HI.out.2 g 0 i (i + 1) rfl ⟨g, 0, none⟩ 0 0 [] rfl rfl (fun j u hu => by simp at hu) (fun u hu => by simp at hu) hic (fun j hj => by simp at hj) ?_)
    go_wp2
    go_ret
    exact ⟨rfl, own_deleted H.out.1 H.out.2.1 H.out.2.2.1 H.out.2.2.2.1 H.out.2.2.2.2.1 HR.out.2 H.out.2.2.2.2.2, fr_deleted⟩
  · go_enter Try.func17, Try.ntmps17
    go_wp2
    go_region_law (refine step_append_room rfl (.tmp 22) (.tmp 25) 46 rfl 51 i0 2 Try.underlying46 HI.out.1 HI.out.2 g 0 i cap rfl ⟨g, (i + 1) * 2, none⟩ r (cap - (i + 1)) (ltc (L.drop (i + 1))) rfl HA.out.1 (fun j u hu => by rw [add_at]; exact HA.out.2.2.1 j u hu) HA.out.2.1 HR.out.1 HA.out.2.2.2 ?_)
    have hcl := clear_after (i := i) (r := r) H.out.1 H.out.2.1 HR.out.1 HR.out.2 HA.out.1
    go_wp2
    go_ret
    exact ⟨rfl, own_deleted H.out.1 H.out.2.1 H.out.2.2.1 H.out.2.2.2.1 H.out.2.2.2.2.1 HR.out.2 H.out.2.2.2.2.2, fr_deleted⟩

end Go.Proofs.Ytmlgihdhclmdkaa
