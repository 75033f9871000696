/- The plain laws of the order of worth, and of sums that go on. -/
import Derived.Test.YtmkafeknhnpkaaaHw
import Derived.Laws.Bits64
namespace Go.Proofs.Ytmkafeknhnpkaaa
open Go.RowKit Go.Proofs.Ytmkafeknhnpkaaa.PHashTells Go.Proofs.YtmkafeknhnpkaaaW.PrintWords

theorem wl_iff (s a b : Int) : wless s a b = true ↔ (prio s a < prio s b ∨ prio s a = prio s b ∧ a < b) := by unfold wless; exact decide_eq_true_iff
theorem wl_asym (s a b : Int) (h : wless s a b = true) : wless s b a = false := by
  by_cases h2 : wless s b a = true
  · rw [wl_iff] at h h2
    generalize prio s a = p at *
    generalize prio s b = q at *
    omega
  · simpa using h2
theorem wl_total (s a b : Int) (h : a ≠ b) (h1 : wless s a b = false) : wless s b a = true := by
  rw [wl_iff]
  have h2 : ¬ (prio s a < prio s b ∨ prio s a = prio s b ∧ a < b) := fun h3 => by
    rw [← wl_iff, h1] at h3
    cases h3
  generalize prio s a = p at *
  generalize prio s b = q at *
  omega
theorem wl_trans (s a b c : Int) (h : wless s a b = true) (k : wless s b c = true) : wless s a c = true := by
  rw [wl_iff] at *
  generalize prio s a = p at *
  generalize prio s b = q at *
  generalize prio s c = r at *
  omega

/-- The lesser of two. -/
def mn (s a b : Int) : Int := if wless s a b = true then a else b
theorem mn_assoc (s x y z : Int) : mn s x (mn s y z) = mn s (mn s x y) z := by
  unfold mn
  by_cases h1 : wless s y z = true
  · by_cases h2 : wless s x y = true
    · have h3 := wl_trans s x y z h2 h1
      simp [h1, h2, h3]
    · simp [h1, h2]
  · by_cases h2 : wless s x y = true
    · simp [h1, h2]
    · by_cases h3 : wless s x z = true
      · exfalso
        have h1f : wless s y z = false := by simpa using h1
        have h2f : wless s x y = false := by simpa using h2
        by_cases e : x = y
        · subst e; rw [h3] at h1f; cases h1f
        · have h4 := wl_total s x y e h2f
          have h5 := wl_trans s y x z h4 h3
          rw [h5] at h1f; cases h1f
      · simp [h1, h2, h3]
theorem leastF_cons (s m x : Int) (l : List Int) : leastF s m (x :: l) = leastF s (mn s x m) l := leastG_cons _ _ _ _
theorem leastG_nil (f : Int → Int → Bool) (m : Int) : leastG f m [] = m := rfl
theorem leastF_nil (s m : Int) : leastF s m [] = m := leastG_nil _ _
theorem leastF_mn (s : Int) (l : List Int) : ∀ y m, leastF s (mn s y m) l = mn s (leastF s y l) m := by
  induction l with
  | nil => intro y m; rw [leastF_nil, leastF_nil]
  | cons z l ih =>
    intro y m
    rw [leastF_cons, leastF_cons, ← ih, mn_assoc]
theorem leastG_append (f : Int → Int → Bool) (m : Int) (l k : List Int) : leastG f m (l ++ k) = leastG f (leastG f m l) k := by
  unfold leastG
  rw [List.foldl_append]
theorem leastF_append (s m : Int) (l k : List Int) : leastF s m (l ++ k) = leastF s (leastF s m l) k := leastG_append _ _ _ _
theorem least_append (s : Int) (l k : List Int) (hl : l ≠ []) (hk : k ≠ []) : least s (l ++ k) = mn s (least s k) (least s l) := by
  cases l with
  | nil => exact absurd rfl hl
  | cons x l =>
    cases k with
    | nil => exact absurd rfl hk
    | cons y k =>
      show leastF s x (l ++ y :: k) = mn s (leastF s y k) (leastF s x l)
      rw [leastF_append, leastF_cons, leastF_mn]
theorem leastF_mem (s : Int) (l : List Int) : ∀ m, leastF s m l = m ∨ leastF s m l ∈ l := by
  induction l with
  | nil => intro m; exact .inl (leastF_nil s m)
  | cons z l ih =>
    intro m
    rw [leastF_cons]
    rcases ih (mn s z m) with h | h
    · rw [h]
      unfold mn
      by_cases h1 : wless s z m = true
      · rw [if_pos h1]; exact .inr (List.mem_cons_self ..)
      · rw [if_neg h1]; exact .inl rfl
    · exact .inr (List.mem_cons_of_mem _ h)
theorem least_mem (s : Int) (l : List Int) (hl : l ≠ []) : least s l ∈ l := by
  cases l with
  | nil => exact absurd rfl hl
  | cons x l =>
    rcases leastF_mem s l x with h | h
    · show leastF s x l ∈ x :: l
      rw [h]; exact List.mem_cons_self ..
    · exact List.mem_cons_of_mem _ h
theorem mn_le (s x y z : Int) (h : wless s z (mn s x y) = true) : wless s z y = true := by
  unfold mn at h
  by_cases h1 : wless s x y = true
  · rw [if_pos h1] at h; exact wl_trans s z x y h h1
  · rw [if_neg h1] at h; exact h
theorem mn_le2 (s x y : Int) : wless s x (mn s x y) = false := by
  unfold mn
  by_cases h1 : wless s x y = true
  · rw [if_pos h1]; exact wless_irr s x
  · rw [if_neg h1]; simpa using h1
theorem leastF_below (s : Int) (l : List Int) : ∀ m z, wless s z (leastF s m l) = true → wless s z m = true ∧ ∀ x ∈ l, wless s z x = true ∨ wless s x (leastF s m l) = false := by
  induction l with
  | nil => intro m z h; exact ⟨h, by simp⟩
  | cons y l ih =>
    intro m z h
    rw [leastF_cons] at h ⊢
    obtain ⟨h1, h2⟩ := ih _ z h
    refine ⟨mn_le s y m z h1, fun x hx => ?_⟩
    rcases List.mem_cons.1 hx with rfl | hx
    · by_cases h3 : wless s x (leastF s (mn s x m) l) = true
      · have h4 := (ih _ x h3).1
        rw [mn_le2] at h4
        cases h4
      · exact .inr (by simpa using h3)
    · exact h2 x hx
theorem leastF_le (s : Int) (l : List Int) : ∀ m, wless s m (leastF s m l) = false ∧ ∀ x ∈ l, wless s x (leastF s m l) = false := by
  induction l with
  | nil => intro m; exact ⟨wless_irr s m, by simp⟩
  | cons y l ih =>
    intro m
    rw [leastF_cons]
    have hb := leastF_below s l (mn s y m)
    refine ⟨?_, fun x hx => ?_⟩
    · by_cases h : wless s m (leastF s (mn s y m) l) = true
      · have h4 := mn_le s y m m (hb m h).1
        rw [wless_irr] at h4
        cases h4
      · simpa using h
    · rcases List.mem_cons.1 hx with rfl | hx
      · by_cases h : wless s x (leastF s (mn s x m) l) = true
        · have h4 := (hb x h).1
          rw [mn_le2] at h4
          cases h4
        · simpa using h
      · exact (ih _).2 x hx
theorem least_le (s : Int) (l : List Int) (x : Int) (hx : x ∈ l) : wless s x (least s l) = false := by
  cases l with
  | nil => cases hx
  | cons y l =>
    rcases List.mem_cons.1 hx with rfl | hx
    · exact (leastF_le s l x).1
    · exact (leastF_le s l y).2 x hx

/- A sum that goes on by one byte. -/
theorem mul_inj {u v : Nat} (hu : u < 18446744073709551616) (hv : v < 18446744073709551616) (h : (u * 1099511628211) % 18446744073709551616 = (v * 1099511628211) % 18446744073709551616) : u = v := by
  have e : ∀ x : Nat, x < 18446744073709551616 → ((x * 1099511628211) % 18446744073709551616 * 14886173955864302971) % 18446744073709551616 = x := by
    intro x hx
    rw [Nat.mod_mul_mod, Nat.mul_assoc, ← Nat.mod_mul_mod, Nat.mul_mod, (by decide : (1099511628211 * 14886173955864302971) % 18446744073709551616 = 1), Nat.mul_one]
    rw [Nat.mod_mod, Nat.mod_mod, Nat.mod_eq_of_lt hx]
  rw [← e u hu, ← e v hv, h]
theorem step_inj (x : Nat) (hx : x < 18446744073709551616) (a b : Nat) (ha : a < 256) (hb : b < 256) (h : stepF x a = stepF x b) : a = b := by
  have hw : ∀ c : Nat, c < 256 → stepF x c = (((x ^^^ c) * 1099511628211 % 18446744073709551616 : Nat) : Int) := by
    intro c hc
    unfold stepF
    have e1 : IntKind.u64.wrap (c : Int) = (c : Int) := by simp [IntKind.wrap, IntKind.signed, IntKind.bits]; omega
    rw [e1, bits_xor_u64_nat x c hx (by omega)]
    simp [IntKind.wrap, IntKind.signed, IntKind.bits]
  rw [hw a ha, hw b hb] at h
  have hlt : ∀ c : Nat, c < 256 → x ^^^ c < 18446744073709551616 := fun c hc => Nat.xor_lt_two_pow (n := 64) hx (by omega)
  have h2 := mul_inj (hlt a ha) (hlt b hb) (by exact_mod_cast h)
  have h3 := congrArg (fun q => x ^^^ q) h2
  simpa [← Nat.xor_assoc] using h3

end Go.Proofs.Ytmkafeknhnpkaaa
