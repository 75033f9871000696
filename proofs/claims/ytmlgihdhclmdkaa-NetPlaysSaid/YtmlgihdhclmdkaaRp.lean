/- A slice of structs that came in, each of whole numbers and a string: its cells by place. -/
import Derived.Test.YtmlgihdhclmdkaaFr
import Derived.Deep.Slices
import Derived.Deep.Fields
import Derived.ChangeSame
namespace Go.Proofs.Ytmlgihdhclmdkaa
open Go.RowKit Go.ChangeShapes Go.WideShapes Go.Deep

section
variable {H : Type} {enc : TypeId × Value → H} {P : Program} {w : World} {base : Nat} {spare : Nat → Bool} {held : Bool}

/-- One field of a struct that is read: its cell, and its own reading. -/
theorem field_read {e : TypeId} {fs : Array Field} {fuel : Nat} {cs : List Value} {y : DataW H × List MemPlace} {p : Addr} (he : P.underlying e = some (.struct fs)) (hone : oneCellFields P fs = true)
    (hc : w.cells? base p fs.size = some cs) (ht : DataW.trod enc P w base spare held fuel e cs = some y) (j : Nat) (f : Field) (hj : fs[j]? = some f) :
    ∃ (v : Value) (z : DataW H × List MemPlace) (m : Nat), w.cell? (p.add j) = some v ∧ DataW.trod enc P w base spare held m f.type [v] = some z := by
  obtain ⟨zs, m, _, _, _, hzl, hf⟩ := DataW.trod_struct he ht
  obtain ⟨_, hcl, hat⟩ := World.cells?_some hc
  obtain ⟨ho, hk⟩ := hone_of hone j f hj
  have hjl : j < fs.size := (Array.getElem?_eq_some_iff.1 hj).1
  have q := hf j f hj
  have hone1 : (cs.drop f.offset).take (P.cellsOf f.type) = [cs[j]'(by omega)] := by
    rw [ho, hk, List.drop_eq_getElem_cons (by omega)]
    rfl
  rw [hone1, List.getElem?_eq_getElem (by omega : j < zs.length)] at q
  exact ⟨_, _, m, by rw [hat j hjl]; exact List.getElem?_eq_getElem (by omega), q⟩
end

/-- An act of three numbers and a string. -/
structure Op4 where
  a : Int
  b : Int
  c : Int
  s : ByteArray
instance : Inhabited Op4 := ⟨⟨0, 0, 0, ByteArray.empty⟩⟩

def RdO (w : World) (A : Option Addr) (n : Nat) (xs : List Op4) : Prop := xs.length = n ∧ n ≤ maxLen ∧ ∀ i, i < n → ∃ ad, A = some ad ∧
  w.cell? (ad.add (i * 4)) = some (.int .i64 (xs.getD i default).a) ∧ w.cell? ⟨(ad.add (i * 4)).block, (ad.add (i * 4)).off + 1, none⟩ = some (.int .i64 (xs.getD i default).b) ∧ w.cell? ⟨(ad.add (i * 4)).block, (ad.add (i * 4)).off + 2, none⟩ = some (.int .i64 (xs.getD i default).c) ∧ w.cell? ⟨(ad.add (i * 4)).block, (ad.add (i * 4)).off + 3, none⟩ = some (.string (xs.getD i default).s) ∧ (xs.getD i default).s.size ≤ maxLen

theorem cell_fr {w w' : World} (hf : Fr (fun _ => False) w w') {p : Addr} {v : Value} (hc : w.cell? p = some v) : w'.cell? p = some v := by
  rw [hf.bel.cell (World.block_lt_of_cell? w _ hc)]; exact hc
theorem RdO.fr {w w' : World} {a : Option Addr} {n : Nat} {xs : List Op4} (h : RdO w a n xs) (hf : Fr (fun _ => False) w w') : RdO w' a n xs :=
  ⟨h.1, h.2.1, fun i hi => by
    obtain ⟨ad, e, h1, h2, h3, h4, h5⟩ := h.2.2 i hi
    exact ⟨ad, e, cell_fr hf h1, cell_fr hf h2, cell_fr hf h3, cell_fr hf h4, h5⟩⟩

section
variable {H : Type} {enc : TypeId × Value → H} {P : Program} {w : World} {base : Nat} {spare : Nat → Bool} {held : Bool}
theorem RdO.open {t e : TypeId} {f0 f1 f2 f3 : Field} {fuel : Nat} {A : Option Addr} {n c : Nat} {x : DataW H × List MemPlace} (ht : P.underlying t = some (.slice e)) (he : P.underlying e = some (.struct #[f0, f1, f2, f3]))
    (hone : oneCellFields P #[f0, f1, f2, f3] = true) (hC : P.cellsOf e = 4) (t0 : P.underlying f0.type = some (.int .i64)) (t1 : P.underlying f1.type = some (.int .i64)) (t2 : P.underlying f2.type = some (.int .i64)) (t3 : P.underlying f3.type = some .string)
    (h : DataW.trod enc P w base spare held fuel t [.slice A n c] = some x) : ∃ xs, RdO w A n xs := by
  rcases open_slice ht h with ⟨h0, _⟩ | ⟨a, len, cap, m, q, D, Pl, hcs, hb, hl, hm, hmm, _, hi⟩
  · simp at h0
    obtain ⟨rfl, rfl, rfl⟩ := h0
    exact ⟨[], rfl, Nat.zero_le _, fun i hi => by omega⟩
  · simp at hcs
    obtain ⟨rfl, rfl, rfl⟩ := hcs
    have hmn : n ≤ m := by rw [hmm]; split <;> omega
    obtain ⟨o, ho⟩ := choose_lt (n := n) (α := Op4) (p := fun i o => w.cell? (a.add (i * 4)) = some (.int .i64 o.a) ∧ w.cell? ⟨(a.add (i * 4)).block, (a.add (i * 4)).off + 1, none⟩ = some (.int .i64 o.b) ∧ w.cell? ⟨(a.add (i * 4)).block, (a.add (i * 4)).off + 2, none⟩ = some (.int .i64 o.c) ∧ w.cell? ⟨(a.add (i * 4)).block, (a.add (i * 4)).off + 3, none⟩ = some (.string o.s) ∧ o.s.size ≤ maxLen) (fun i hin => by
      obtain ⟨cs, hc, htr⟩ := hi i (by omega)
      rw [hC] at hc
      obtain ⟨v0, z0, m0, c0, r0⟩ := field_read he hone hc htr 0 f0 rfl
      obtain ⟨v1, z1, m1, c1, r1⟩ := field_read he hone hc htr 1 f1 rfl
      obtain ⟨v2, z2, m2, c2, r2⟩ := field_read he hone hc htr 2 f2 rfl
      obtain ⟨v3, z3, m3, c3, r3⟩ := field_read he hone hc htr 3 f3 rfl
      obtain ⟨x0, e0, _, _⟩ := DataW.trod_int t0 r0
      obtain ⟨x1, e1, _, _⟩ := DataW.trod_int t1 r1
      obtain ⟨x2, e2, _, _⟩ := DataW.trod_int t2 r2
      obtain ⟨s3, e3, _, w3⟩ := DataW.trod_string t3 r3
      simp at e0 e1 e2 e3
      subst e0 e1 e2 e3
      exact ⟨⟨x0, x1, x2, s3⟩, by simpa [Addr.add] using c0, by simpa [Addr.add] using c1, by simpa [Addr.add] using c2, by simpa [Addr.add] using c3, w3⟩)
    refine ⟨(List.range n).map o, by simp, by omega, fun i hin => ⟨a, rfl, ?_⟩⟩
    have e : ((List.range n).map o).getD i default = o i := by simp [List.getD_eq_getElem?_getD, hin]
    rw [e]
    exact ho i hin
end

end Go.Proofs.Ytmlgihdhclmdkaa
