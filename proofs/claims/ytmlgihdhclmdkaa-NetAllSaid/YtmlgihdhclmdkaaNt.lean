/- The net: what each of its calls does, by walks. -/
import Derived.Test.YtmlgihdhclmdkaaFr
import Derived.Test.YtmlgihdhclmdkaaProg
import Derived.Test.YtmlgihdhclmdkaaWWords
import Derived.Laws.IdiomCopy
import Derived.Deep.RegionLaw
namespace Go.Proofs.Ytmlgihdhclmdkaa
open Go.RowKit Go.Proofs.YtmlgihdhclmdkaaW.PrintWords

/-- A letter. -/
structure Lt where
  t : Int
  s : ByteArray
instance : Inhabited Lt := ⟨⟨0, ByteArray.empty⟩⟩
def ltc (L : List Lt) : List Value := L.flatMap fun x => [.int .i64 x.t, .string x.s]
theorem ltc_length (L : List Lt) : (ltc L).length = L.length * 2 := by
  induction L with
  | nil => rfl
  | cons x r ih => simp [ltc] at *; omega
theorem ltc_cons (x : Lt) (r : List Lt) : ltc (x :: r) = .int .i64 x.t :: .string x.s :: ltc r := rfl
theorem ltc_append (L M : List Lt) : ltc (L ++ M) = ltc L ++ ltc M := by simp [ltc]
theorem ltc_get (L : List Lt) (i : Nat) (h : i < L.length) : (ltc L)[i * 2]? = some (.int .i64 (L.getD i default).t) ∧ (ltc L)[i * 2 + 1]? = some (.string (L.getD i default).s) := by
  induction L generalizing i with
  | nil => simp at h
  | cons x r ih =>
    cases i with
    | zero => simp [ltc_cons]
    | succ i =>
      have := ih i (by simpa using h)
      rw [ltc_cons, show (i + 1) * 2 = i * 2 + 1 + 1 by omega, show i * 2 + 1 + 1 + 1 = (i * 2 + 1) + 1 + 1 by omega]
      simpa using this
theorem ltc_take (L : List Lt) (i : Nat) : (ltc L).take (i * 2) = ltc (L.take i) := by
  induction L generalizing i with
  | nil => simp [ltc]
  | cons x r ih =>
    cases i with
    | zero => simp [ltc]
    | succ i => rw [ltc_cons, show (i + 1) * 2 = i * 2 + 1 + 1 by omega]; simp [ltc_cons, ih]
theorem ltc_drop (L : List Lt) (i : Nat) : (ltc L).drop (i * 2) = ltc (L.drop i) := by
  induction L generalizing i with
  | nil => simp [ltc]
  | cons x r ih =>
    cases i with
    | zero => simp
    | succ i => rw [ltc_cons, show (i + 1) * 2 = i * 2 + 1 + 1 by omega]; simp [ih]

theorem infoL : (Try.prog.info? 51).map (fun i => (i.zero, i.size, i.bytes)) = some (some (.agg #[.int .i64 0, .string ByteArray.empty]), 2, 24) := by kernel_rfl

/-- A net at block g, its letters in a row of its own, both from block b on. -/
def IsN (w : World) (b g : Nat) (L : List Lt) : Prop :=
  ∃ v, w.heap[g]? = some (.cells #[v] 48 (0, 0)) ∧ w.ownsRow b 51 2 v L.length (ltc L) ∧ b ≤ g ∧ L.length ≤ 200
/-- What a net's calls may write. -/
def TN (w : World) (b g : Nat) (i : Nat) : Prop := b ≤ i ∧ (i = g ∨ ∃ cs fr, w.heap[i]? = some (.cells cs 51 fr))

theorem IsN.lt {w : World} {b g : Nat} {L : List Lt} (h : IsN w b g L) : g < w.heap.size := by
  obtain ⟨v, hb, _⟩ := h
  exact blk_lt hb
theorem IsN.fr {w w' : World} {b g : Nat} {L : List Lt} {S : Nat → Prop} (h : IsN w b g L) (hf : Fr S w w') (hs : ∀ i, b ≤ i → ¬ S i) : IsN w' b g L := by
  obtain ⟨v, h1, h2, h3, h4⟩ := h
  exact ⟨v, hf.blk h1 (hs g h3), own_fr h2 hf hs, h3, h4⟩
theorem own_block_tn {w : World} {b : Nat} {v : Value} {n : Nat} {xs : List Value} (h : w.ownsRow b 51 2 v n xs) : ∀ i, v.ownBlock = some i → b ≤ i ∧ ∃ cs fr, w.heap[i]? = some (.cells cs 51 fr) := by
  intro i hi
  rcases h.2 with ⟨rfl, _⟩ | ⟨g, cap, cur, rfl, hg, hh, _⟩
  · simp [Value.ownBlock] at hi
  · simp [Value.ownBlock] at hi
    subst hi
    exact ⟨hg, _, _, hh⟩

set_option maxHeartbeats 400000 in
theorem nnew_any (w : World) :
    Calls Try.prog 7 #[] w fun e w' => e = .returned (.pointer (some ⟨w.heap.size, 0, none⟩)) ∧ IsN w' w.heap.size w.heap.size [] ∧ w'.heap.size = w.heap.size + 1 ∧ Fr (fun _ => False) w w' := by
  go_enter Try.func7, Try.ntmps7
  go_wp2
  go_ret
  exact ⟨rfl, ⟨.slice none 0 0, blk_new _ _, own_nil _ _ _ _, Nat.le_refl _, by decide⟩, by simp, (Fr.refl _ _).alloc _⟩

set_option maxHeartbeats 400000 in
theorem len_any (b g : Nat) (L : List Lt) (w : World) (h : IsN w b g L) :
    Calls Try.prog 15 #[.pointer (some ⟨g, 0, none⟩)] w fun e w' => e = .returned (.int .i64 L.length) ∧ w = w' := by
  obtain ⟨v, h1, h2, _⟩ := h
  obtain ⟨A, c, rfl⟩ := own_slice h2
  have hc := (blk_cell h1 0).trans rfl
  clear h1 h2
  go_enter Try.func15, Try.ntmps15
  go_wp2
  go_ret
  exact ⟨rfl, rfl⟩

/-- The place of a message. -/
def plN (k : Int) (n : Nat) : Nat := (k % 18446744073709551616).toNat % n
theorem plN_lt (k : Int) (n : Nat) (h : 0 < n) : plN k n < n := Nat.mod_lt _ h
theorem pl_num (k : Int) (n : Nat) (h : 0 < n) (hn : n ≤ 1000000) : wrap64 ((IntKind.u64.wrap k).tmod (n : Int)) = (plN k n : Int) := by
  have hw : IntKind.u64.wrap k = k % 18446744073709551616 := by simp [IntKind.wrap, IntKind.signed, IntKind.bits]
  rw [hw]
  unfold plN
  have h0 : 0 ≤ k % 18446744073709551616 := Int.emod_nonneg _ (by omega)
  obtain ⟨m, hm⟩ := Int.eq_ofNat_of_zero_le h0
  rw [hm]
  simp only [Int.toNat_natCast]
  rw [Int.tmod_eq_emod_of_nonneg (by omega)]
  have hlt := Nat.mod_lt m h
  have em : (m : Int) % (n : Int) = ((m % n : Nat) : Int) := by omega
  rw [em]
  unfold wrap64
  omega

set_option maxHeartbeats 1000000 in
theorem place_any (b g : Nat) (L : List Lt) (k : Int) (w : World) (h : IsN w b g L) (hL : L ≠ []) :
    Calls Try.prog 16 #[.pointer (some ⟨g, 0, none⟩), .int .i64 k] w fun e w' => e = .returned (.tuple #[.int .i64 (plN k L.length), .bool true]) ∧ w = w' := by
  have H := Lib.hid h
  have hlen : L.length ≤ 200 := h.choose_spec.2.2.2
  have hpos : 0 < L.length := List.length_pos_iff.2 hL
  have hn : ((L.length : Int) == 0) = false := by simp; exact hL
  have HP := Lib.hid (pl_num k L.length hpos (by omega))
  clear h hL
  generalize hl : L.length = n at *
  have HL := Lib.hid hl; clear hl
  go_enter Try.func16, Try.ntmps16
  go_wp2_with fail
  go_at_call 15
  refine (len_any b g L _ (by exact H.out)).mono ?_
  rintro e w1 ⟨rfl, rfl⟩
  rw [HL.out]
  go_wp2_with fail
  go_ret2
  rw [HP.out]
  exact ⟨rfl, rfl⟩

set_option maxHeartbeats 1000000 in
theorem place_none (b g : Nat) (k : Int) (w : World) (h : IsN w b g []) :
    Calls Try.prog 16 #[.pointer (some ⟨g, 0, none⟩), .int .i64 k] w fun e w' => e = .returned (.tuple #[.int .i64 0, .bool false]) ∧ w = w' := by
  go_enter Try.func16, Try.ntmps16
  go_wp2_with fail
  go_at_call 15
  refine (len_any b g [] _ (by exact h)).mono ?_
  rintro e w1 ⟨rfl, rfl⟩
  go_wp2_with fail
  go_ret2
  exact ⟨rfl, rfl⟩

theorem ltc_cells {w : World} {b g n c : Nat} {L : List Lt} (h : w.ownsRow b 51 2 (.slice (some ⟨g, 0, none⟩) n c) n (ltc L)) (hn : L.length = n) (i : Nat) (hi : i < n) :
    w.cell? ⟨g, i * 2, none⟩ = some (.int .i64 (L.getD i default).t) ∧ w.cell? ⟨g, i * 2 + 1, none⟩ = some (.string (L.getD i default).s) := by
  obtain ⟨h0, h1⟩ := ltc_get L i (by omega)
  have c0 := h.cells (g := g) rfl _ _ h0
  have c1 := h.cells (g := g) rfl _ _ h1
  rw [add_plain] at c0 c1
  exact ⟨c0, c1⟩

set_option maxHeartbeats 1000000 in
theorem look_any (b g : Nat) (L : List Lt) (k : Int) (w : World) (h : IsN w b g L) (hL : L ≠ []) :
    Calls Try.prog 11 #[.pointer (some ⟨g, 0, none⟩), .int .i64 k] w fun e w' => e = .returned (.tuple #[.int .i64 (L.getD (plN k L.length) default).t, .string (L.getD (plN k L.length) default).s, .bool true]) ∧ ∃ m, w' = w.drewN m := by
  have H := Lib.hid (And.intro h hL)
  have hpos : 0 < L.length := List.length_pos_iff.2 hL
  have hpl := plN_lt k L.length hpos
  obtain ⟨v, h1, h2, h3, h4⟩ := h
  obtain ⟨g2, c, rfl, hg2, hl2⟩ := h2.form hpos
  obtain ⟨c0, c1⟩ := ltc_cells h2 rfl _ hpl
  have hc := (blk_cell h1 0).trans rfl
  clear h1 h2 h3 hL
  generalize hpe : plN k L.length = i at *
  have HP := Lib.hid hpe; clear hpe
  generalize hle : L.length = n at *
  have HL := Lib.hid hle; clear hle
  generalize L.getD i default = x at *
  go_enter Try.func11, Try.ntmps11
  go_wp2_with fail
  go_at_call 16
  refine (place_any b g L k _ (by exact H.out.1) H.out.2).mono ?_
  rintro e w1 ⟨rfl, rfl⟩
  rw [HL.out, HP.out]
  go_wp2_with fail
  go_quiet (fail)
  go_wp2_with fail
  go_ret3
  exact ⟨rfl, _, rfl⟩

set_option maxHeartbeats 1000000 in
theorem look_none (b g : Nat) (k : Int) (w : World) (h : IsN w b g []) :
    Calls Try.prog 11 #[.pointer (some ⟨g, 0, none⟩), .int .i64 k] w fun e w' => e = .returned (.tuple #[.int .i64 0, .string ByteArray.empty, .bool false]) ∧ w = w' := by
  go_enter Try.func11, Try.ntmps11
  go_wp2_with fail
  go_at_call 16
  refine (place_none b g k _ (by exact h)).mono ?_
  rintro e w1 ⟨rfl, rfl⟩
  go_wp2_with fail
  go_ret3
  exact ⟨rfl, rfl⟩

set_option maxRecDepth 100000 in
set_option maxHeartbeats 1000000 in
theorem send_full (b g : Nat) (L : List Lt) (t : Int) (s : ByteArray) (w : World) (h : IsN w b g L) (hL : 200 ≤ L.length) :
    Calls Try.prog 9 #[.pointer (some ⟨g, 0, none⟩), .int .i64 t, .string s] w fun e w' => e = .returned (.int .i64 6) ∧ w = w' := by
  obtain ⟨v, h1, h2, h3, h4⟩ := h
  have hc0 := (blk_cell h1 0).trans rfl
  obtain ⟨A, c, rfl⟩ := own_slice h2
  clear h1 h2
  generalize L.length = n at *
  go_enter Try.func9, Try.ntmps9
  go_wp2
  go_ret
  exact ⟨rfl, rfl⟩

theorem nset {w : World} {b g : Nat} {v v' : Value} {L : List Lt} (h1 : w.heap[g]? = some (.cells #[v] 48 (0, 0))) (h2 : w.ownsRow b 51 2 v' L.length (ltc L)) (h3 : b ≤ g) (h4 : L.length ≤ 200) :
    IsN (w.setCell ⟨g, 0, none⟩ v') b g L := by
  have hne : some g ≠ v'.ownBlock := fun e => by
    obtain ⟨_, cs, fr, hh⟩ := own_block_tn h2 g e.symm
    rw [h1] at hh
    simp at hh
  refine ⟨v', ?_, own_setCell h2 hne _, h3, h4⟩
  have q := blk_set h1 0 v'
  simpa using q

/-- A letter appended. -/
theorem app_letter {ops : Array Oper} {rest : List Oper} {o : Oper} {a : Act} {Q : Exit → Act → World → Prop} {W : World} (b : Nat) (hgd : o.guard = none) (s x : Operand)
    (ho : o.op = .call { callee := .builtin .append, args := #[s, x], argTypes := #[46, 46] })
    (v : Value) (L : List Lt) (t : Int) (y : ByteArray) (hs : a.eval s = v) (hx : a.eval x = .slice (some ⟨W.heap.size, 0, none⟩) 1 1)
    (HO : W.ownsRow b 51 2 v L.length (ltc L)) (hb : b ≤ W.heap.size) (hl : L.length ≤ 1000)
    (h : ∀ v1 w1, w1.ownsRow b 51 2 v1 (L ++ [(⟨t, y⟩ : Lt)]).length (ltc (L ++ [⟨t, y⟩])) → W.grownBy w1 v.ownBlock → wpList Try.prog ops Q rest (a.put o.dst v1) w1) :
    wpList Try.prog ops Q (o :: rest) a (W.alloc (.cells #[.int .i64 t, .string y] 51)) := by
  refine print_append_cells (P := Try.prog) (w0 := W) b hgd s x 46 51 (.agg #[.int .i64 0, .string ByteArray.empty]) 2 24 ho Try.underlying46 infoL rfl (by omega) (by omega) v L.length (ltc L) [.int .i64 t, .string y] hs hx rfl (by simp [Value.oneCell']) HO (Below.refl _ _) hb (by omega) ?_
  intro v1 w1 ho1 _ hg _
  refine h v1 w1 ?_ hg
  have e1 : ltc L ++ [.int .i64 t, .string y] = ltc (L ++ [⟨t, y⟩]) := by rw [ltc_append]; rfl
  rw [e1] at ho1
  simpa using ho1

set_option maxRecDepth 100000 in
set_option maxHeartbeats 1000000 in
theorem send_any (b g : Nat) (L : List Lt) (t : Int) (s : ByteArray) (w : World) (h : IsN w b g L) (hL : L.length < 200) :
    Calls Try.prog 9 #[.pointer (some ⟨g, 0, none⟩), .int .i64 t, .string s] w fun e w' => e = .returned (.int .i64 0) ∧ IsN w' b g (L ++ [⟨t, s⟩]) ∧ Fr (TN w b g) w w' := by
  obtain ⟨v, h1, h2, h3, h4⟩ := h
  have hc0 := (blk_cell h1 0).trans rfl
  have hf0 := blk_frozen h1 0
  have hg : g < w.heap.size := blk_lt h1
  have H := Lib.hid (And.intro h1 h2)
  obtain ⟨A, c, rfl⟩ := own_slice h2
  have hd : decide ((200 : Int) ≤ (L.length : Int)) = false := by simp; omega
  have HB : Hid (b ≤ w.heap.size) := Lib.hid (by omega)
  have HL : Hid (L.length ≤ 1000) := Lib.hid (by omega)
  clear h1 h2
  go_enter Try.func9, Try.ntmps9
  go_wp2_with (at_builtin; refine app_letter b rfl (.tmp 21) (.tmp 25) rfl (.slice A L.length c) L t s rfl rfl H.out.2 HB.out HL.out ?_; intro v1 w1 ho hgr; obtain ⟨A1, c1, rfl⟩ := own_slice ho; have hb1 := blk_grown H.out.1 hgr (own_ne H.out.2 H.out.1 (by decide)); have hc1 := (blk_cell hb1 0).trans rfl; have hf1 := blk_frozen hb1 0; have H5 := Lib.hid (And.intro ho (And.intro hgr hb1)); clear ho hgr hb1)
  go_ret
  obtain ⟨ho, hgr, hb⟩ := H5.out
  refine ⟨rfl, nset hb (by simpa using ho) h3 (by simp; omega), ?_⟩
  have f1 := Fr.of_grown hgr
  refine (f1.mono fun i _ hi => ?_).setCell (.inl ⟨h3, .inl rfl⟩) _
  have q := own_block_tn H.out.2 i hi.symm
  exact ⟨q.1, .inr q.2⟩

end Go.Proofs.Ytmlgihdhclmdkaa
