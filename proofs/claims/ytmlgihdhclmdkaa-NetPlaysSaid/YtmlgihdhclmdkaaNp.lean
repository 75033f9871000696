/- NetPlays, by a walk. -/
import Derived.Test.YtmlgihdhclmdkaaNs
import Derived.Test.YtmlgihdhclmdkaaRp
namespace Go.Proofs.Ytmlgihdhclmdkaa
open Go.RowKit Go.Proofs.YtmlgihdhclmdkaaW.PrintWords

set_option maxHeartbeats 1000000 in
theorem fdrop_none (b g : Nat) (k : Int) (w : World) (h : IsF w b g []) :
    Calls Try.prog 13 #[.pointer (some ⟨g, 0, none⟩), .int .i64 k] w fun e w' => e = .returned (.bool false) ∧ w = w' := by
  go_enter Try.func13, Try.ntmps13
  go_wp2_with fail
  go_at_call 8
  refine (fplace_none b g k _ (by exact h)).mono ?_
  rintro e w1 ⟨rfl, rfl⟩
  go_wp2_with fail
  go_ret
  exact ⟨rfl, rfl⟩

/-- An own row stays where no block of its elements' type is written. -/
theorem own_fr_ty {S : Nat → Prop} {w w' : World} {base : Nat} {e : TypeId} {size : Nat} {v : Value} {n : Nat} {xs : List Value} (h : w.ownsRow base e size v n xs) (hf : Fr S w w') (hS : ∀ k cs fr, w.heap[k]? = some (.cells cs e fr) → ¬ S k) : w'.ownsRow base e size v n xs := by
  obtain ⟨h1, h2⟩ := h
  refine ⟨h1, ?_⟩
  rcases h2 with h2 | ⟨g, cap, cur, hv, hg, hh, r⟩
  · exact Or.inl h2
  · exact Or.inr ⟨g, cap, cur, hv, hg, hf.blk hh (hS _ _ _ hh), r⟩

/-- Both nets, side by side. -/
def Sn (w wr : World) (b c : Nat) (L : List Lt) : Prop := IsN wr b b L ∧ IsF wr c c L ∧ Fr (fun _ => False) w wr
def Bx (w : World) (p : Nat) (o : Op4) : Prop := w.heap[p]? = some (.cells #[.int .i64 o.a, .int .i64 o.b, .int .i64 o.c, .string o.s] 32 (0, 0))

theorem tn_ne {w : World} {b g p : Nat} {L : List Lt} {cs : Array Value} {t : TypeId} {fr : Nat × Nat} (hn : IsN w b g L) (hp : w.heap[p]? = some (.cells cs t fr)) (h1 : t ≠ 51) (h2 : t ≠ 48) : ¬ TN w b g p := by
  rintro ⟨_, rfl | ⟨cs', fr', h⟩⟩
  · obtain ⟨v, hb, _⟩ := hn
    rw [hb] at hp
    simp at hp
    exact h2 hp.2.1.symm
  · rw [hp] at h
    simp at h
    exact h1 h.2.1
theorem tf_ne {w : World} {b g p : Nat} {L : List Lt} {cs : Array Value} {t : TypeId} {fr : Nat × Nat} (hn : IsF w b g L) (hp : w.heap[p]? = some (.cells cs t fr)) (h1 : t ≠ 3) (h2 : t ≠ 9) (h3 : t ≠ 30) : ¬ TF w b g p := by
  rintro ⟨_, rfl | ⟨cs', fr', h | h⟩⟩
  · obtain ⟨v, v', hb, _⟩ := hn
    rw [hb] at hp
    simp at hp
    exact h3 hp.2.1.symm
  · rw [hp] at h
    simp at h
    exact h1 h.2.1
  · rw [hp] at h
    simp at h
    exact h2 h.2.1

theorem IsF.tn {w w' : World} {b g c d : Nat} {L M : List Lt} (h : IsF w c d L) (hn : IsN w b g M) (hf : Fr (TN w b g) w w') : IsF w' c d L := by
  obtain ⟨v1, v2, h1, h2, h3, h4⟩ := h
  exact ⟨v1, v2, hf.blk h1 (tn_ne hn h1 (by decide) (by decide)), own_fr_ty h2 hf (fun k cs fr hk => tn_ne hn hk (by decide) (by decide)), own_fr_ty h3 hf (fun k cs fr hk => tn_ne hn hk (by decide) (by decide)), h4⟩
theorem IsN.tf {w w' : World} {b g c d : Nat} {L M : List Lt} (h : IsN w b g L) (hn : IsF w c d M) (hf : Fr (TF w c d) w w') : IsN w' b g L := by
  obtain ⟨v1, h1, h2, h4⟩ := h
  exact ⟨v1, hf.blk h1 (tf_ne hn h1 (by decide) (by decide) (by decide)), own_fr_ty h2 hf (fun k cs fr hk => tf_ne hn hk (by decide) (by decide) (by decide)), h4⟩

theorem Sn.boxed {w wr : World} {b c : Nat} {L : List Lt} (h : Sn w wr b c L) (o : Op4) : Sn w (wr.alloc (.cells #[.int .i64 o.a, .int .i64 o.b, .int .i64 o.c, .string o.s] 32)) b c L ∧ Bx (wr.alloc (.cells #[.int .i64 o.a, .int .i64 o.b, .int .i64 o.c, .string o.s] 32)) wr.heap.size o :=
  ⟨⟨h.1.fr ((Fr.refl (fun _ => False) _).alloc _) (by simp), h.2.1.fr ((Fr.refl (fun _ => False) _).alloc _) (by simp), h.2.2.alloc _⟩, blk_new _ _⟩

/-- Half way: the net told, the reference not yet; and the other way round. -/
def Hn (w wr : World) (b c p : Nat) (M L : List Lt) (o : Op4) : Prop := IsN wr b b M ∧ IsF wr c c L ∧ Fr (fun _ => False) w wr ∧ Bx wr p o
theorem Sn.n1 {w wr w' : World} {b c p : Nat} {L M : List Lt} {o : Op4} (h : Sn w wr b c L) (hb : Bx wr p o) (hw : w.heap.size ≤ b) (hn : IsN w' b b M) (hf : Fr (TN wr b b) wr w') : Hn w w' b c p M L o :=
  ⟨hn, h.2.1.tn h.1 hf, h.2.2.own hf (fun _ q => Nat.le_trans hw q.1), hf.blk hb (tn_ne h.1 hb (by decide) (by decide))⟩
theorem Hn.n2 {w wr w' : World} {b c p : Nat} {L M : List Lt} {o : Op4} (h : Hn w wr b c p M L o) (hw : w.heap.size ≤ c) (hn : IsF w' c c M) (hf : Fr (TF wr c c) wr w') : Sn w w' b c M ∧ Bx w' p o :=
  ⟨⟨h.1.tf h.2.1 hf, hn, h.2.2.1.own hf (fun _ q => Nat.le_trans hw q.1)⟩, hf.blk h.2.2.2 (tf_ne h.2.1 h.2.2.2 (by decide) (by decide) (by decide))⟩
theorem Sn.f1 {w wr w' : World} {b c p : Nat} {L M : List Lt} {o : Op4} (h : Sn w wr b c L) (hb : Bx wr p o) (hw : w.heap.size ≤ c) (hn : IsF w' c c M) (hf : Fr (TF wr c c) wr w') : Hn w w' b c p L M o :=
  ⟨h.1.tf h.2.1 hf, hn, h.2.2.own hf (fun _ q => Nat.le_trans hw q.1), hf.blk hb (tf_ne h.2.1 hb (by decide) (by decide) (by decide))⟩
theorem Hn.f2 {w wr w' : World} {b c p : Nat} {L M : List Lt} {o : Op4} (h : Hn w wr b c p L M o) (hw : w.heap.size ≤ b) (hn : IsN w' b b M) (hf : Fr (TN wr b b) wr w') : Sn w w' b c M ∧ Bx w' p o :=
  ⟨⟨hn, h.2.1.tn h.1 hf, h.2.2.1.own hf (fun _ q => Nat.le_trans hw q.1)⟩, hf.blk h.2.2.2 (tn_ne h.1 h.2.2.2 (by decide) (by decide))⟩
theorem Fr.und1 {S : Nat → Prop} {a b : World} (h : Fr S a.drew b) : Fr S a b := ⟨h.os, h.tape, h.output, h.size, h.block⟩

theorem len_q (b g : Nat) (L : List Lt) (w : World) (h : IsN w b g L) (n : Nat) :
    Calls Try.prog 15 #[.pointer (some ⟨g, 0, none⟩)] (w.drewN n) fun e w' => e = .returned (.int .i64 L.length) ∧ w' = w.drewN n :=
  (len_any b g L (w.drewN n) h).mono fun _ _ k => ⟨k.1, k.2.symm⟩
theorem sendf_q (b g : Nat) (L : List Lt) (t : Int) (s : ByteArray) (w : World) (h : IsN w b g L) (hL : 200 ≤ L.length) (n : Nat) :
    Calls Try.prog 9 #[.pointer (some ⟨g, 0, none⟩), .int .i64 t, .string s] (w.drewN n) fun e w' => e = .returned (.int .i64 6) ∧ w' = w.drewN n :=
  (send_full b g L t s (w.drewN n) h hL).mono fun _ _ k => ⟨k.1, k.2.symm⟩
theorem fsendf_q (b g : Nat) (L : List Lt) (t : Int) (s : ByteArray) (w : World) (h : IsF w b g L) (hL : 200 ≤ L.length) (n : Nat) :
    Calls Try.prog 10 #[.pointer (some ⟨g, 0, none⟩), .int .i64 t, .string s] (w.drewN n) fun e w' => e = .returned (.int .i64 6) ∧ w' = w.drewN n :=
  (fsend_full b g L t s (w.drewN n) h hL).mono fun _ _ k => ⟨k.1, k.2.symm⟩
theorem drop_q (b g : Nat) (k : Int) (w : World) (h : IsN w b g []) (n : Nat) :
    Calls Try.prog 14 #[.pointer (some ⟨g, 0, none⟩), .int .i64 k] (w.drewN n) fun e w' => e = .returned (.bool false) ∧ w' = w.drewN n :=
  (drop_none b g k (w.drewN n) h).mono fun _ _ k => ⟨k.1, k.2.symm⟩
theorem fdrop_q (b g : Nat) (k : Int) (w : World) (h : IsF w b g []) (n : Nat) :
    Calls Try.prog 13 #[.pointer (some ⟨g, 0, none⟩), .int .i64 k] (w.drewN n) fun e w' => e = .returned (.bool false) ∧ w' = w.drewN n :=
  (fdrop_none b g k (w.drewN n) h).mono fun _ _ k => ⟨k.1, k.2.symm⟩
def plI (k : Int) (L : List Lt) : Int := if L.isEmpty then -1 else plN k L.length
theorem fplace_gen (b g : Nat) (L : List Lt) (k : Int) (w : World) (h : IsF w b g L) :
    Calls Try.prog 8 #[.pointer (some ⟨g, 0, none⟩), .int .i64 k] w fun e w' => e = .returned (.int .i64 (plI k L)) ∧ w = w' := by
  by_cases hL : L = []
  · subst hL
    exact fplace_none b g k w h
  · have e : plI k L = plN k L.length := by simp [plI, hL]
    rw [e]
    exact fplace_any b g L k w h hL
theorem pl0 (n : Nat) : plN 0 n = 0 := by simp [plN]
theorem drop_first (L : List Lt) (k : Nat) (h : k < L.length) : (L.drop k).getD 0 default = L.getD k default := by
  simp [List.getD_eq_getElem?_getD, List.getElem?_drop]
theorem drop_rest (L : List Lt) (k : Nat) : (L.drop k).eraseIdx 0 = L.drop (k + 1) := by
  rw [List.eraseIdx_zero, List.tail_drop]
theorem IsF.len {w : World} {b g : Nat} {L : List Lt} (h : IsF w b g L) : ∃ A d, w.cell? ⟨g, 1, none⟩ = some (.slice A L.length d) := by
  obtain ⟨v1, v2, h1, h2, h3, _⟩ := h
  obtain ⟨A, d, rfl⟩ := own_slice h3
  exact ⟨A, d, (blk_cell h1 1).trans rfl⟩
theorem IsF.at {w : World} {b g : Nat} {L : List Lt} (h : IsF w b g L) {i : Nat} (hi : i < L.length) : ∃ q1 d1 q2 d2, w.cell? ⟨g, 0, none⟩ = some (.slice (some ⟨q1, 0, none⟩) L.length d1) ∧ w.cell? ⟨g, 1, none⟩ = some (.slice (some ⟨q2, 0, none⟩) L.length d2) ∧
    w.cell? ⟨q1, i, none⟩ = some (.int .i64 (L.getD i default).t) ∧ w.cell? ⟨q2, i, none⟩ = some (.string (L.getD i default).s) := by
  obtain ⟨v1, v2, h1, h2, h3, _⟩ := h
  obtain ⟨q1, d1, rfl, _, _⟩ := h2.form (by omega)
  obtain ⟨q2, d2, rfl, _, _⟩ := h3.form (by omega)
  have c1 := h2.cells (g := q1) rfl i _ (encs_get (d := (default : Lt).t) (tos L) i (by simpa [tos] using hi))
  have c2 := h3.cells (g := q2) rfl i _ (encs_get (d := (default : Lt).s) (sss L) i (by simpa [sss] using hi))
  rw [add_plain] at c1 c2
  refine ⟨q1, d1, q2, d2, (blk_cell h1 0).trans rfl, (blk_cell h1 1).trans rfl, ?_, ?_⟩
  · rw [c1]; simp [vI, tos, List.getD_eq_getElem?_getD, List.getElem?_map]
  · rw [c2]; simp [vS, sss, List.getD_eq_getElem?_getD, List.getElem?_map]

set_option maxRecDepth 100000 in
set_option maxHeartbeats 1000000 in
theorem plays_big (a : Option Addr) (n c : Nat) (w : World) (hn : 500 < n) (hm : n ≤ 9223372036854775807) :
    Calls Try.prog 3 #[.slice a n c] w fun e w' => e = .returned (.bool true) ∧ Fr (fun _ => False) w w' := by
  go_enter Try.func3, Try.ntmps3
  go_wp2_with fail
  go_at_call 6
  refine (awake_any _).mono ?_
  rintro e w1 ⟨rfl, hf1⟩
  go_wp2_with fail
  go_at_call 6
  refine (awake_any _).mono ?_
  rintro e w2 ⟨rfl, hf2⟩
  go_wp2_with fail
  go_ret
  exact ⟨rfl, hf1.trans hf2⟩

end Go.Proofs.Ytmlgihdhclmdkaa
