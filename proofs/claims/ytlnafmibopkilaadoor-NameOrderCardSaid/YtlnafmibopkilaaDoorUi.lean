/- NameOrder, by a walk. -/
import Derived.Test.YtlnafmibopkilaaDoorUv
namespace Go.Proofs.YtlnafmibopkilaaDoor
open Go Go.Lib Go.RowKit

theorem cmp_range (x y : Int) : -1 ≤ compareInt x y ∧ compareInt x y ≤ 1 := by
  unfold compareInt
  repeat' split
  all_goals omega
theorem lex_range {α : Type} {c : α → α → Int} (h : ∀ x y, -1 ≤ c x y ∧ c x y ≤ 1) : ∀ x y : List α, -1 ≤ lexL c x y ∧ lexL c x y ≤ 1
  | [], [] => by simp [lexL]
  | [], _ :: _ => by simp [lexL]
  | _ :: _, [] => by simp [lexL]
  | a :: x, b :: y => by
    simp only [lexL]
    by_cases e : c a b = 0
    · rw [if_pos e]; exact lex_range h x y
    · rw [if_neg e]; exact h a b
theorem order_range (x y : List UInt8) : -1 ≤ orderP x y ∧ orderP x y ≤ 1 := by
  rw [order_then]
  unfold thenC
  have h2 : ∀ p q, -1 ≤ cmp2 p q ∧ cmp2 p q ≤ 1 := by
    intro p q
    unfold cmp2
    by_cases e : compareInt (p.1 : Int) q.1 = 0
    · rw [if_pos e]; exact cmp_range _ _
    · rw [if_neg e]; exact cmp_range _ _
  by_cases e : lexL cmp2 (runes x) (runes y) = 0
  · rw [if_pos e]
    unfold cmpS
    repeat' split
    all_goals omega
  · rw [if_neg e]; exact lex_range h2 _ _

set_option maxRecDepth 100000 in
set_option maxHeartbeats 4000000 in
theorem norder_any (a b c : ByteArray) (w : World) (hT : Tabs w) (ha : a.size ≤ 140737488351232) (hb : b.size ≤ 140737488351232) (hc : c.size ≤ 140737488351232) :
    Calls Tryd.prog 6 #[.string a, .string b, .string c] w fun e w' => e = .returned (.bool true) ∧ Below w.heap.size w w' := by
  by_cases h1 : 500 < a.size + b.size + c.size
  · have h2 : (500 : Int) < (a.size : Int) + b.size + c.size := by omega
    clear h1
    go_enter Tryd.func6, Tryd.ntmps6
    go_wp2_with fail
    go_at_call 10
    refine (awake_any _ hT).mono ?_
    rintro e w1 ⟨rfl, hb1⟩
    go_wp2_with fail
    go_at_call 10
    refine (awake_any _ (hT.below hb1)).mono ?_
    rintro e w2 ⟨rfl, hb2⟩
    go_wp2_with fail
    go_ret
    exact ⟨rfl, hb1.trans (hb2.mono hb1.size)⟩
  · have h2 : (a.size : Int) + b.size + c.size ≤ 500 := by omega
    clear h1
    have hab := fun W hT => order_any a b W hT ha hb
    have hbc := fun W hT => order_any b c W hT hb hc
    have hac := fun W hT => order_any a c W hT ha hc
    have hba := fun W hT => order_any b a W hT hb ha
    have hcu := fun W => cut_any a 2 W ha (by decide)
    have hcs : (cutS a 2).size ≤ 140737488351232 := by
      have := cutN_le a.data.toList 2
      unfold cutS
      simp at this ⊢
      omega
    have hca := fun W hT => order_any (cutS a 2) a W hT hcs ha
    obtain ⟨p1, p2, p3, p4, p5⟩ := order_plain a b c
    have r1 := order_range a.data.toList b.data.toList
    have heq : (a.toList == b.toList) = decide (a = b) := by
      rw [str_list, str_list]
      by_cases h : a = b
      · simp [h]
      · have h3 : ¬ a.data.toList = b.data.toList := fun e => h ((bytes_eq a b).1 e)
        rw [beq_eq_false_iff_ne.2 h3, decide_eq_false h]
    rw [p1] at hba
    generalize orderP a.data.toList b.data.toList = x at *
    generalize orderP b.data.toList c.data.toList = y at *
    generalize orderP a.data.toList c.data.toList = z at *
    generalize orderP (cutS a 2).data.toList a.data.toList = v at *
    generalize cutS a 2 = ct at *
    have HC := Lib.hid (And.intro hab (And.intro hbc (And.intro hac (And.intro hba (And.intro hcu hca))))); clear hab hbc hac hba hcu hca hcs p1
    have hx : (x = 1 ∧ y < 0) ∨ (x = 1 ∧ 0 ≤ y ∧ 0 ≤ z) ∨ (x = -1 ∧ 0 < y) ∨ (x = -1 ∧ y ≤ 0 ∧ z ≤ 0) ∨ (x = 0 ∧ 0 < y ∧ 0 ≤ z) ∨ (x = 0 ∧ y < 0 ∧ z ≤ 0) ∨ (x = 0 ∧ y = 0 ∧ z = 0) := by omega
    have hd : (x = 0 ∧ (a.toList == b.toList) = true) ∨ (x ≠ 0 ∧ (a.toList == b.toList) = false) := by
      by_cases h : a = b
      · exact .inl ⟨p2.2 h, by rw [heq]; simpa using h⟩
      · exact .inr ⟨fun e => h (p2.1 e), by rw [heq]; simpa using h⟩
    clear p2 p3 p4 r1 heq
    rcases hx with ⟨rfl, g1⟩ | ⟨rfl, g1, g2⟩ | ⟨rfl, g1⟩ | ⟨rfl, g1, g2⟩ | ⟨rfl, g1, g2⟩ | ⟨rfl, g1, g2⟩ | ⟨rfl, rfl, rfl⟩
    all_goals
      rcases hd with ⟨h0, he⟩ | ⟨h0, he⟩
      all_goals first
        | (exact absurd h0 (by decide))
        | (exact absurd rfl h0)
        | skip
    all_goals
      clear h0
      go_enter Tryd.func6, Tryd.ntmps6
      go_wp2_with fail
      go_at_call 10
      refine (awake_any _ hT).mono ?_
      rintro e w1 ⟨rfl, hb1⟩
      have B1 := Lib.hid hb1; clear hb1
      go_wp2_with fail
      go_at_call 19
      refine (HC.out.1 _ (hT.below B1.out)).mono ?_
      rintro e w2 ⟨rfl, hb2⟩
      have B2 := Lib.hid (B1.out.trans (hb2.mono B1.out.size)); clear hb2
      go_wp2_with fail
      go_at_call 19
      refine (HC.out.2.1 _ (hT.below B2.out)).mono ?_
      rintro e w3 ⟨rfl, hb3⟩
      have B3 := Lib.hid (B2.out.trans (hb3.mono B2.out.size)); clear hb3
      go_wp2_with fail
      go_at_call 19
      refine (HC.out.2.2.1 _ (hT.below B3.out)).mono ?_
      rintro e w4 ⟨rfl, hb4⟩
      have B4 := Lib.hid (B3.out.trans (hb4.mono B3.out.size)); clear hb4
      go_wp2_with fail
      go_at_call 19
      refine (HC.out.2.2.2.1 _ (hT.below B4.out)).mono ?_
      rintro e w5 ⟨rfl, hb5⟩
      have B5 := Lib.hid (B4.out.trans (hb5.mono B4.out.size)); clear hb5
      go_wp2_with fail
      go_at_call 17
      refine (HC.out.2.2.2.2.1 _).mono ?_
      rintro e w6 ⟨rfl, hb6⟩
      have B6 := Lib.hid (B5.out.trans (hb6.mono B5.out.size)); clear hb6
      go_wp2_with fail
      go_at_call 19
      refine (HC.out.2.2.2.2.2 _ (hT.below B6.out)).mono ?_
      rintro e w7 ⟨rfl, hb7⟩
      have B7 := Lib.hid (B6.out.trans (hb7.mono B6.out.size)); clear hb7
      go_wp2_with fail
      go_ret
      exact ⟨rfl, B7.out⟩

end Go.Proofs.YtlnafmibopkilaaDoor
