/- Names: texts that are joined. -/
import Derived.Test.YtlnafmibopkilaaDoorUk
namespace Go.Proofs.YtlnafmibopkilaaDoor
open Go Go.Lib

theorem valid_front (a : List UInt8) (hne : a ≠ []) (h : validP a = true) : badP a = false ∧ validP (a.drop (decodeL a).2) = true := by
  unfold validP at *
  rw [runes_cons a hne, List.all_cons, Bool.and_eq_true] at h
  refine ⟨?_, h.2⟩
  unfold badP
  simpa using h.1
theorem app_split (a b : List UInt8) (w : Nat) : a ++ b = a.take w ++ (a.drop w ++ b) := by rw [← List.append_assoc, List.take_append_drop]
theorem dec_join (a b : List UInt8) (hne : a ≠ []) (hb : badP a = false) : decodeL (a ++ b) = decodeL a := by
  rw [app_split a b (decodeL a).2]
  exact dec_app a _ hne hb
theorem drop_join (a b : List UInt8) (hne : a ≠ []) : (a ++ b).drop (decodeL a).2 = a.drop (decodeL a).2 ++ b :=
  List.drop_append_of_le_length (decodeL_le a hne)
theorem join_ne (a b : List UInt8) (hne : a ≠ []) : a ++ b ≠ [] := by simp [hne]
theorem step_join (a b : List UInt8) (hne : a ≠ []) (hb : badP a = false) : quoteStep (a ++ b) = quoteStep a := by
  have hd := dec_join a b hne hb
  have hb2 : badP (a ++ b) = false := by unfold badP at *; rw [hd]; exact hb
  unfold quoteStep
  have n1 : ¬ badP (a ++ b) = true := by rw [hb2]; simp
  have n2 : ¬ badP a = true := by rw [hb]; simp
  rw [if_neg n1, if_neg n2, hd]
theorem quote_join : ∀ (n : Nat) (a b : List UInt8), a.length ≤ n → validP a = true → quoteP (a ++ b) = quoteP a ++ quoteP b
  | 0, a, b, h, _ => by
    have : a = [] := List.eq_nil_of_length_eq_zero (by omega)
    subst this
    rfl
  | n + 1, a, b, h, hv => by
    by_cases hne : a = []
    · subst hne
      rfl
    · obtain ⟨h1, h2⟩ := valid_front a hne hv
      have hp := dw_pos a hne
      have hl : 0 < a.length := List.length_pos_iff.2 hne
      rw [quoteP_cons _ (join_ne a b hne), quoteP_cons a hne, step_join a b hne h1, dec_join a b hne h1, drop_join a b hne, quote_join n _ b (by rw [List.length_drop]; omega) h2, List.append_assoc]
theorem count_join : ∀ (n : Nat) (a b : List UInt8), a.length ≤ n → validP a = true → countP (a ++ b) = countP a + countP b
  | 0, a, b, h, _ => by
    have : a = [] := List.eq_nil_of_length_eq_zero (by omega)
    subst this
    simp [countP, runes_nil]
  | n + 1, a, b, h, hv => by
    by_cases hne : a = []
    · subst hne
      simp [countP, runes_nil]
    · obtain ⟨h1, h2⟩ := valid_front a hne hv
      have hp := dw_pos a hne
      have hl : 0 < a.length := List.length_pos_iff.2 hne
      have ih := count_join n (a.drop (decodeL a).2) b (by rw [List.length_drop]; omega) h2
      unfold countP at *
      rw [runes_cons _ (join_ne a b hne), runes_cons a hne, dec_join a b hne h1, drop_join a b hne, List.length_cons, List.length_cons, ih]
      omega

end Go.Proofs.YtlnafmibopkilaaDoor
