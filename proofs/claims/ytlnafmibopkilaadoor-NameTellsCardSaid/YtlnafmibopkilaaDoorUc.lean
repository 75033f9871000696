/- Names: plain laws of runes, cut off and joined. -/
import Derived.Test.YtlnafmibopkilaaDoorUm
namespace Go.Proofs.YtlnafmibopkilaaDoor
open Go Go.Lib

theorem dN1 (n b0 b1 b2 b3 : Nat) (h : b0 < 128) : decodeN n b0 b1 b2 b3 = (b0, 1) := by simp [decodeN, h]
theorem dN2 (n b0 b1 b2 b3 : Nat) (h0 : b0 / 32 = 6) (hn : 1 < n) (h1 : b1 / 64 = 2) (hv : 128 ≤ b0 % 32 * 64 + b1 % 64) : decodeN n b0 b1 b2 b3 = (b0 % 32 * 64 + b1 % 64, 2) := by
  unfold decodeN
  rw [if_neg (by omega), if_pos ⟨h0, hn, h1⟩, if_pos hv]
theorem dN3 (n b0 b1 b2 b3 : Nat) (h0 : b0 / 16 = 14) (hn : 2 < n) (h1 : b1 / 64 = 2) (h2 : b2 / 64 = 2) (hv : 2048 ≤ b0 % 16 * 4096 + b1 % 64 * 64 + b2 % 64)
    (hs : b0 % 16 * 4096 + b1 % 64 * 64 + b2 % 64 < 55296 ∨ 57344 ≤ b0 % 16 * 4096 + b1 % 64 * 64 + b2 % 64) : decodeN n b0 b1 b2 b3 = (b0 % 16 * 4096 + b1 % 64 * 64 + b2 % 64, 3) := by
  unfold decodeN
  rw [if_neg (by omega), if_neg (by omega), if_pos ⟨h0, ⟨by omega, h1⟩, ⟨hn, h2⟩⟩, if_pos ⟨hv, by omega⟩]
theorem dN4 (n b0 b1 b2 b3 : Nat) (h0 : b0 / 8 = 30) (hn : 3 < n) (h1 : b1 / 64 = 2) (h2 : b2 / 64 = 2) (h3 : b3 / 64 = 2) (hv : 65536 ≤ b0 % 8 * 262144 + b1 % 64 * 4096 + b2 % 64 * 64 + b3 % 64)
    (hs : b0 % 8 * 262144 + b1 % 64 * 4096 + b2 % 64 * 64 + b3 % 64 ≤ 1114111) : decodeN n b0 b1 b2 b3 = (b0 % 8 * 262144 + b1 % 64 * 4096 + b2 % 64 * 64 + b3 % 64, 4) := by
  unfold decodeN
  rw [if_neg (by omega), if_neg (by omega), if_neg (by omega), if_pos ⟨h0, ⟨by omega, h1⟩, ⟨by omega, h2⟩, ⟨hn, h3⟩⟩, if_pos ⟨hv, by omega⟩]

/-- What a rune is depends on its own bytes alone. -/
theorem dec_local (n n' b0 b1 b2 b3 c0 c1 c2 c3 : Nat) (hn : 1 ≤ n') (hnn : n' ≤ n) (e0 : c0 = b0) (e1 : 1 < n' → c1 = b1) (e2 : 2 < n' → c2 = b2) (e3 : 3 < n' → c3 = b3)
    (hw : (decodeN n b0 b1 b2 b3).2 ≤ n') : decodeN n' c0 c1 c2 c3 = decodeN n b0 b1 b2 b3 := by
  subst e0
  rcases decodeN_shape n c0 b1 b2 b3 with ⟨c, e⟩ | ⟨d1, d2, d3, dv, e⟩ | ⟨d1, d2, d3, d4, dv, ds, e⟩ | ⟨d1, d2, d3, d4, d5, dv, dw, e⟩ | e
  · rw [e, dN1 _ _ _ _ _ c]
  · rw [e] at hw ⊢
    simp only at hw
    have f1 := e1 (by omega)
    subst f1
    exact dN2 _ _ _ _ _ d1 (by omega) d3 dv
  · rw [e] at hw ⊢
    simp only at hw
    have f1 := e1 (by omega)
    have f2 := e2 (by omega)
    subst f1 f2
    exact dN3 _ _ _ _ _ d1 (by omega) d3 d4 dv ds
  · rw [e] at hw ⊢
    simp only at hw
    have f1 := e1 (by omega)
    have f2 := e2 (by omega)
    have f3 := e3 (by omega)
    subst f1 f2 f3
    exact dN4 _ _ _ _ _ d1 (by omega) d3 d4 d5 dv dw
  · rw [e]
    rcases decodeN_shape n' c0 c1 c2 c3 with ⟨c, e'⟩ | ⟨d1, d2, d3, dv, e'⟩ | ⟨d1, d2, d3, d4, dv, ds, e'⟩ | ⟨d1, d2, d3, d4, d5, dv, dw, e'⟩ | e'
    · rw [e', ← dN1 n _ b1 b2 b3 c, e]
    · have f1 := e1 (by omega)
      subst f1
      rw [e', ← dN2 n _ _ b2 b3 d1 (by omega) d3 dv, e]
    · have f1 := e1 (by omega)
      have f2 := e2 (by omega)
      subst f1 f2
      rw [e', ← dN3 n _ _ _ b3 d1 (by omega) d3 d4 dv ds, e]
    · have f1 := e1 (by omega)
      have f2 := e2 (by omega)
      have f3 := e3 (by omega)
      subst f1 f2 f3
      rw [e', ← dN4 n _ _ _ _ d1 (by omega) d3 d4 d5 dv dw, e]
    · exact e'

theorem getD_take (l : List UInt8) (m i : Nat) (h : i < m) : (l.take m).getD i 0 = l.getD i 0 := by
  simp [List.getD_eq_getElem?_getD, List.getElem?_take, h]
theorem dec_take (l : List UInt8) (m : Nat) (hne : l ≠ []) (h : (decodeL l).2 ≤ m) : decodeL (l.take m) = decodeL l := by
  have hl : 0 < l.length := List.length_pos_iff.2 hne
  have hp := dw_pos l hne
  have hle := decodeL_le l hne
  rw [decodeL_N] at h hp hle ⊢
  rw [decodeL_N, List.length_take]
  refine dec_local _ _ _ _ _ _ _ _ _ _ (by omega) (Nat.min_le_right _ _) ?_ ?_ ?_ ?_ (by omega)
  · rw [getD_take l m 0 (by omega)]
  · intro h1; rw [getD_take l m 1 (by omega)]
  · intro h1; rw [getD_take l m 2 (by omega)]
  · intro h1; rw [getD_take l m 3 (by omega)]

/-- The runes of a text's first runes are the first runes. -/
theorem runes_cut : ∀ (n : Nat) (l : List UInt8), runes (l.take (wsum ((runes l).take n))) = (runes l).take n
  | 0, l => by simp [wsum, runes_nil]
  | n + 1, l => by
    by_cases hne : l = []
    · subst hne
      simp [runes_nil, wsum]
    · have hp := dw_pos l hne
      have hl : 0 < l.length := List.length_pos_iff.2 hne
      have hr := runes_cons l hne
      rw [hr]
      simp only [List.take_succ_cons, wsum]
      have hne2 : l.take ((decodeL l).2 + wsum ((runes (l.drop (decodeL l).2)).take n)) ≠ [] := by
        intro e
        have h3 : (l.take ((decodeL l).2 + wsum ((runes (l.drop (decodeL l).2)).take n))).length = 0 := by rw [e]; rfl
        rw [List.length_take] at h3
        omega
      rw [runes_cons _ hne2, dec_take l _ hne (by omega), List.drop_take, show (decodeL l).2 + wsum ((runes (l.drop (decodeL l).2)).take n) - (decodeL l).2 = wsum ((runes (l.drop (decodeL l).2)).take n) by omega, runes_cut n]
theorem wsum_all : ∀ (n : Nat) (l : List UInt8), l.length ≤ n → wsum (runes l) = l.length
  | 0, l, h => by
    have : l = [] := List.eq_nil_of_length_eq_zero (by omega)
    subst this
    rfl
  | n + 1, l, h => by
    by_cases hne : l = []
    · subst hne
      rfl
    · have hp := dw_pos l hne
      have hle := decodeL_le l hne
      rw [runes_cons l hne, wsum, wsum_all n _ (by rw [List.length_drop]; omega), List.length_drop]
      omega
theorem wsum_take_le (r : List (Nat × Nat)) : ∀ n, wsum (r.take n) ≤ wsum r := by
  induction r with
  | nil => intro n; simp [wsum]
  | cons p r ih =>
    intro n
    cases n with
    | zero => simp [wsum]
    | succ n => simp only [List.take_succ_cons, wsum]; have := ih n; omega
theorem cutN_le (l : List UInt8) (n : Int) : cutN l n ≤ l.length := by
  unfold cutN
  rw [← wsum_all l.length l (Nat.le_refl _)]
  exact wsum_take_le _ _
/-- A text's first runes. -/
def cutL (l : List UInt8) (n : Int) : List UInt8 := l.take (cutN l n)
theorem runes_cutL (l : List UInt8) (n : Int) : runes (cutL l n) = (runes l).take n.toNat := runes_cut _ _
theorem count_cut (l : List UInt8) (n : Int) : countP (cutL l n) = min n.toNat (countP l) := by
  unfold countP
  rw [runes_cutL, List.length_take]
theorem cut_cut (l : List UInt8) (n : Int) : cutL (cutL l n) n = cutL l n := by
  have h : cutN (cutL l n) n = cutN l n := by
    unfold cutN
    rw [runes_cutL, List.take_take, Nat.min_self]
  show (cutL l n).take (cutN (cutL l n) n) = cutL l n
  rw [h]
  unfold cutL
  rw [List.take_take, Nat.min_self]
theorem valid_cut (l : List UInt8) (n : Int) (h : validP l = true) : validP (cutL l n) = true := by
  unfold validP at *
  rw [runes_cutL]
  rw [List.all_eq_true] at *
  intro x hx
  exact h x (List.mem_of_mem_take hx)

end Go.Proofs.YtlnafmibopkilaaDoor
