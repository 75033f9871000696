/- Names: the order of two texts is an order. -/
import Derived.Test.YtlnafmibopkilaaDoorUa
import Derived.Test.YtlnafmibopkilaaDoorUc
namespace Go.Proofs.YtlnafmibopkilaaDoor
open Go Go.Lib Go.RowKit

/-- A comparison that is an order. -/
structure Good {α : Type} (c : α → α → Int) : Prop where
  anti : ∀ x y, c y x = - c x y
  tri : ∀ x y z, c x y ≤ 0 → c y z ≤ 0 → c x z ≤ 0
  eq : ∀ x y, c x y = 0 → x = y
theorem Good.self {α : Type} {c : α → α → Int} (h : Good c) (x : α) : c x x = 0 := by have := h.anti x x; omega

/-- First by c behind f, then by d. -/
def thenC {α β : Type} (c : α → α → Int) (f : β → α) (d : β → β → Int) (x y : β) : Int := if c (f x) (f y) = 0 then d x y else c (f x) (f y)
theorem thenC_anti {α β : Type} {c : α → α → Int} {f : β → α} {d : β → β → Int} (hc : Good c) (hd : ∀ x y, d y x = - d x y) (x y : β) : thenC c f d y x = - thenC c f d x y := by
  unfold thenC
  rw [hc.anti (f x) (f y), hd x y]
  by_cases h : c (f x) (f y) = 0
  · rw [if_pos (by omega), if_pos h]
  · rw [if_neg (by omega), if_neg h]
theorem thenC_tri {α β : Type} {c : α → α → Int} {f : β → α} {d : β → β → Int} (hc : Good c) (hd : ∀ x y z, d x y ≤ 0 → d y z ≤ 0 → d x z ≤ 0) (x y z : β) (h1 : thenC c f d x y ≤ 0) (h2 : thenC c f d y z ≤ 0) : thenC c f d x z ≤ 0 := by
  unfold thenC at *
  by_cases a1 : c (f x) (f y) = 0
  · rw [if_pos a1] at h1
    rw [hc.eq _ _ a1]
    by_cases a2 : c (f y) (f z) = 0
    · rw [if_pos a2] at h2 ⊢
      exact hd x y z h1 h2
    · rw [if_neg a2] at h2 ⊢
      exact h2
  · rw [if_neg a1] at h1
    by_cases a2 : c (f y) (f z) = 0
    · rw [← hc.eq _ _ a2, if_neg a1]
      exact h1
    · rw [if_neg a2] at h2
      have h3 := hc.tri _ _ _ h1 h2
      by_cases a3 : c (f x) (f z) = 0
      · exfalso
        have e := hc.eq _ _ a3
        rw [← e, hc.anti] at h2
        omega
      · rw [if_neg a3]
        exact h3
theorem Good.thenC {α β : Type} {c : α → α → Int} {f : β → α} {d : β → β → Int} (hc : Good c) (hd : Good d) : Good (thenC c f d) := by
  refine ⟨thenC_anti hc hd.anti, thenC_tri hc hd.tri, fun x y h => ?_⟩
  by_cases a1 : c (f x) (f y) = 0
  · exact hd.eq _ _ (by simp only [_root_.Go.Proofs.YtlnafmibopkilaaDoor.thenC, a1, if_true] at h; exact h)
  · exact absurd (by simp only [_root_.Go.Proofs.YtlnafmibopkilaaDoor.thenC, if_neg a1] at h; exact h) a1

def lexL {α : Type} (c : α → α → Int) : List α → List α → Int
  | [], [] => 0
  | [], _ :: _ => -1
  | _ :: _, [] => 1
  | a :: x, b :: y => if c a b = 0 then lexL c x y else c a b
theorem lex_anti {α : Type} {c : α → α → Int} (h : Good c) : ∀ x y : List α, lexL c y x = - lexL c x y
  | [], [] => rfl
  | [], _ :: _ => rfl
  | _ :: _, [] => rfl
  | a :: x, b :: y => by
    simp only [lexL]
    rw [h.anti a b]
    by_cases e : c a b = 0
    · rw [if_pos (by omega), if_pos e]
      exact lex_anti h x y
    · rw [if_neg (by omega), if_neg e]
theorem lex_eq {α : Type} {c : α → α → Int} (h : Good c) : ∀ x y : List α, lexL c x y = 0 → x = y
  | [], [], _ => rfl
  | [], _ :: _, e => by simp [lexL] at e
  | _ :: _, [], e => by simp [lexL] at e
  | a :: x, b :: y, e => by
    simp only [lexL] at e
    by_cases e1 : c a b = 0
    · rw [if_pos e1] at e
      rw [h.eq _ _ e1, lex_eq h x y e]
    · rw [if_neg e1] at e
      exact absurd e e1
theorem lex_tri {α : Type} {c : α → α → Int} (h : Good c) : ∀ x y z : List α, lexL c x y ≤ 0 → lexL c y z ≤ 0 → lexL c x z ≤ 0
  | [], _, [], _, _ => by simp [lexL]
  | [], _, _ :: _, _, _ => by simp [lexL]
  | _ :: _, [], _, h1, _ => by simp [lexL] at h1
  | _ :: _, _ :: _, [], _, h2 => by simp [lexL] at h2
  | a :: x, b :: y, z0 :: z, h1, h2 => by
    simp only [lexL] at *
    by_cases a1 : c a b = 0
    · rw [if_pos a1] at h1
      rw [h.eq _ _ a1]
      by_cases a2 : c b z0 = 0
      · rw [if_pos a2] at h2 ⊢
        exact lex_tri h x y z h1 h2
      · rw [if_neg a2] at h2 ⊢
        exact h2
    · rw [if_neg a1] at h1
      by_cases a2 : c b z0 = 0
      · rw [← h.eq _ _ a2, if_neg a1]
        exact h1
      · rw [if_neg a2] at h2
        have h3 := h.tri _ _ _ h1 h2
        by_cases a3 : c a z0 = 0
        · exfalso
          have e := h.eq _ _ a3
          rw [← e, h.anti] at h2
          omega
        · rw [if_neg a3]
          exact h3
theorem Good.lex {α : Type} {c : α → α → Int} (h : Good c) : Good (lexL c) := ⟨lex_anti h, lex_tri h, lex_eq h⟩
theorem lex_take {α : Type} {c : α → α → Int} (h : Good c) : ∀ (n : Nat) (x : List α), lexL c (x.take n) x ≤ 0
  | 0, [] => by simp [lexL]
  | 0, _ :: _ => by simp [lexL]
  | _ + 1, [] => by simp [lexL]
  | n + 1, a :: x => by
    simp only [List.take_succ_cons, lexL]
    rw [if_pos (h.self a)]
    exact lex_take h n x

def cmp2 (p q : Nat × Nat) : Int := if compareInt p.1 q.1 = 0 then compareInt p.2 q.2 else compareInt p.1 q.1
theorem good_nat : Good (fun x y : Nat => compareInt x y) := by
  refine ⟨fun x y => ?_, fun x y z h1 h2 => ?_, fun x y h => ?_⟩
  · unfold compareInt; repeat' split
    all_goals omega
  · unfold compareInt at *; repeat' split
    all_goals (try omega)
    all_goals (repeat' split at h1)
    all_goals (try omega)
    all_goals (repeat' split at h2)
    all_goals omega
  · unfold compareInt at h; repeat' split at h
    all_goals omega
theorem good_two : Good cmp2 := by
  refine ⟨fun x y => ?_, fun x y z h1 h2 => ?_, fun x y h => ?_⟩
  · exact thenC_anti (f := Prod.fst) (d := fun p q : Nat × Nat => compareInt p.2 q.2) good_nat (fun x y => good_nat.anti x.2 y.2) x y
  · exact thenC_tri (f := Prod.fst) (d := fun p q : Nat × Nat => compareInt p.2 q.2) good_nat (fun x y z => good_nat.tri x.2 y.2 z.2) x y z h1 h2
  · unfold cmp2 at h
    by_cases e : compareInt (x.1 : Int) y.1 = 0
    · rw [if_pos e] at h
      exact Prod.ext (good_nat.eq _ _ e) (good_nat.eq _ _ h)
    · rw [if_neg e] at h
      exact absurd h e
def cmpB (a b : UInt8) : Int := if a < b then -1 else if b < a then 1 else 0
theorem good_byte : Good cmpB := by
  refine ⟨fun x y => ?_, fun x y z h1 h2 => ?_, fun x y h => ?_⟩
  · unfold cmpB
    simp only [UInt8.lt_iff_toNat_lt]
    repeat' split
    all_goals omega
  · unfold cmpB at *
    simp only [UInt8.lt_iff_toNat_lt] at *
    repeat' split at h1
    all_goals (repeat' split at h2)
    all_goals (repeat' split)
    all_goals omega
  · unfold cmpB at h
    simp only [UInt8.lt_iff_toNat_lt] at h
    apply UInt8.toNat_inj.1
    repeat' split at h
    all_goals omega
theorem cmpS_lex : ∀ x y : List UInt8, cmpS x y = lexL cmpB x y
  | [], [] => by simp [cmpS, lexL, Op.bytesLess]
  | [], _ :: _ => by simp [cmpS, lexL, Op.bytesLess]
  | _ :: _, [] => by simp [cmpS, lexL, Op.bytesLess]
  | a :: x, b :: y => by
    have ih := cmpS_lex x y
    simp only [lexL]
    unfold cmpS at *
    by_cases e : cmpB a b = 0
    · have e2 := good_byte.eq _ _ e
      subst e2
      rw [if_pos e, ← ih]
      simp [Op.bytesLess]
    · rw [if_neg e]
      unfold cmpB at *
      by_cases h1 : a < b
      · simp [Op.bytesLess, h1]
      · by_cases h2 : b < a
        · have hne : a ≠ b := by intro e; subst e; exact h1 h2
          simp [Op.bytesLess, h1, h2, hne]
        · rw [if_neg h1, if_neg h2] at e
          exact absurd rfl e
theorem good_str : Good cmpS := by
  have h : cmpS = lexL cmpB := by funext x y; exact cmpS_lex x y
  rw [h]
  exact good_byte.lex

theorem drop_short (a : List UInt8) (hne : a ≠ []) : (a.drop (decodeL a).2).length < a.length := by
  have hp := dw_pos a hne
  have hl : 0 < a.length := List.length_pos_iff.2 hne
  rw [List.length_drop]
  omega
theorem ordF_lex (x y : List UInt8) : ∀ (f : Nat) (a b : List UInt8), a.length < f → ordF x y f a b = if lexL cmp2 (runes a) (runes b) = 0 then cmpS x y else lexL cmp2 (runes a) (runes b)
  | 0, _, _, h => by omega
  | f + 1, a, b, h => by
    unfold ordF
    by_cases ha : a = []
    · subst ha
      rw [if_pos (.inl rfl), runes_nil]
      cases b with
      | nil => rfl
      | cons q b =>
        rw [runes_cons _ (List.cons_ne_nil _ _)]
        have e : compareInt (([] : List UInt8).length : Int) ((q :: b).length : Int) = -1 := by unfold compareInt; rw [if_pos (by simp; try omega)]
        rw [e]
        rfl
    · by_cases hb : b = []
      · subst hb
        rw [if_pos (.inr rfl), runes_nil, runes_cons a ha]
        have hl : 0 < a.length := List.length_pos_iff.2 ha
        have e : compareInt (a.length : Int) (([] : List UInt8).length : Int) = 1 := by unfold compareInt; rw [if_neg (by simp; try omega), if_pos (by simp; try omega)]
        rw [e]
        rfl
      · rw [if_neg (by simp [ha, hb]), runes_cons a ha, runes_cons b hb]
        have hs := drop_short a ha
        have ih := ordF_lex x y f (a.drop (decodeL a).2) (b.drop (decodeL b).2) (by omega)
        show (if cmp2 (decodeL a) (decodeL b) = 0 then _ else cmp2 (decodeL a) (decodeL b)) = if (if cmp2 (decodeL a) (decodeL b) = 0 then _ else cmp2 (decodeL a) (decodeL b)) = 0 then _ else (if cmp2 (decodeL a) (decodeL b) = 0 then _ else cmp2 (decodeL a) (decodeL b))
        by_cases e : cmp2 (decodeL a) (decodeL b) = 0
        · rw [if_pos e, if_pos e, ih]
        · rw [if_neg e, if_neg e, if_neg e]
theorem order_then (x y : List UInt8) : orderP x y = thenC (lexL cmp2) runes cmpS x y := ordF_lex x y _ x y (by omega)
theorem good_order : Good orderP := by
  have h : orderP = thenC (lexL cmp2) runes cmpS := by funext x y; exact order_then x y
  rw [h]
  exact good_two.lex.thenC good_str
theorem order_cut (l : List UInt8) (n : Int) : orderP (cutL l n) l ≤ 0 := by
  rw [order_then]
  unfold thenC
  rw [runes_cutL]
  have h1 := lex_take good_two n.toNat (runes l)
  by_cases e : lexL cmp2 ((runes l).take n.toNat) (runes l) = 0
  · rw [if_pos e]
    have e2 := good_two.lex.eq _ _ e
    have h3 : cutL l n = l := by
      unfold cutL cutN
      rw [e2, wsum_all l.length l (Nat.le_refl _), List.take_length]
    rw [h3, good_str.self]
    exact Int.le_refl 0
  · rw [if_neg e]
    exact h1

theorem cutS_list (s : ByteArray) (n : Int) : (cutS s n).data.toList = cutL s.data.toList n := by
  unfold cutS cutL
  rw [extract_data, List.drop_zero, Nat.sub_zero]
theorem bytes_eq (a b : ByteArray) : a.data.toList = b.data.toList ↔ a = b := by
  refine ⟨fun h => ?_, fun h => by rw [h]⟩
  apply ByteArray.ext
  exact Array.ext' h
theorem order_plain (a b c : ByteArray) : orderP b.data.toList a.data.toList = - orderP a.data.toList b.data.toList ∧ (orderP a.data.toList b.data.toList = 0 ↔ a = b) ∧
    (0 < orderP a.data.toList b.data.toList ∨ 0 < orderP b.data.toList c.data.toList ∨ orderP a.data.toList c.data.toList ≤ 0) ∧ (orderP a.data.toList b.data.toList < 0 ∨ orderP b.data.toList c.data.toList < 0 ∨ 0 ≤ orderP a.data.toList c.data.toList) ∧ orderP (cutS a 2).data.toList a.data.toList ≤ 0 := by
  have g := good_order
  have t1 := g.tri a.data.toList b.data.toList c.data.toList
  have t2 := g.tri c.data.toList b.data.toList a.data.toList
  have a1 := g.anti a.data.toList b.data.toList
  have a2 := g.anti b.data.toList c.data.toList
  have a3 := g.anti a.data.toList c.data.toList
  refine ⟨a1, ⟨fun h => (bytes_eq a b).1 (g.eq _ _ h), fun h => by rw [h]; exact g.self _⟩, ?_, ?_, ?_⟩
  · generalize orderP a.data.toList b.data.toList = p at *
    generalize orderP b.data.toList c.data.toList = q at *
    generalize orderP a.data.toList c.data.toList = r at *
    omega
  · generalize orderP a.data.toList b.data.toList = p at *
    generalize orderP b.data.toList c.data.toList = q at *
    generalize orderP a.data.toList c.data.toList = r at *
    omega
  · rw [cutS_list]; exact order_cut _ _

end Go.Proofs.YtlnafmibopkilaaDoor
