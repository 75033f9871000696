/- The plain law of BucketBound: two rows of counts, and what they keep. -/
import Derived.Test.YtpfdbbimpfihbaaBk
import Derived.Test.YtpfdbbimpfihbaaWWords
namespace Go.Proofs.Ytpfdbbimpfihbaa
open Go.RowKit Go.Proofs.YtpfdbbimpfihbaaW.PrintWords

structure Bnd (B R : Int) (T K : List Int) (l x y : Int) : Prop where
  len : T.length = K.length
  pos : 0 < T.length
  lastT : rd T (T.length - 1) = x
  lastK : rd K (K.length - 1) = y
  rng : ∀ i : Int, 0 ≤ i → i < T.length → 0 ≤ rd T i ∧ rd T i ≤ i ∧ 0 ≤ rd K i ∧ rd K i ≤ i
  two : ∀ i j : Int, 0 ≤ i → i ≤ j → j < T.length → rd T j - rd T i ≤ B + R * (rd K j - rd K i)
  one : ∀ i : Int, 0 ≤ i → i < T.length → x - rd T i + l ≤ B + R * (y - rd K i)

theorem rd_snoc_lt (xs : List Int) (y i : Int) (h0 : 0 ≤ i) (h : i < xs.length) : rd (xs ++ [y]) i = rd xs i := by
  unfold rd
  rw [List.getD_eq_getElem?_getD, List.getD_eq_getElem?_getD, List.getElem?_append_left (by omega)]
theorem rd_snoc_eq (xs : List Int) (y : Int) : rd (xs ++ [y]) xs.length = y := by
  unfold rd
  simp [List.getD_eq_getElem?_getD]

theorem Bnd.start {B R : Int} (h : 0 ≤ B) : Bnd B R [0] [0] B 0 0 := by
  refine ⟨rfl, by simp, rfl, rfl, ?_, ?_, ?_⟩
  · intro i h0 h1
    obtain rfl : i = 0 := by simp at h1; omega
    simp [rd]
  · intro i j h0 h1 h2
    obtain rfl : j = 0 := by simp at h2; omega
    obtain rfl : i = 0 := by omega
    simp [rd]; exact h
  · intro i h0 h1
    obtain rfl : i = 0 := by simp at h1; omega
    simp [rd]

theorem Bnd.step {B R : Int} {T K : List Int} {l x y l' x' y' : Int} (h : Bnd B R T K l x y) (hB : 0 ≤ B)
    (hl : l' ≤ B) (hl0 : 0 ≤ l') (hx : x' - x + l' ≤ l + R * (y' - y)) (hx1 : x ≤ x') (hx2 : x' ≤ x + 1) (hy1 : y ≤ y') (hy2 : y' ≤ y + 1) :
    Bnd B R (T ++ [x']) (K ++ [y']) l' x' y' := by
  obtain ⟨hlen, hpos, hT, hK, hr, h2, h1⟩ := h
  have key : ∀ i : Int, 0 ≤ i → i < T.length → x' - rd T i + l' ≤ B + R * (y' - rd K i) := by
    intro i a b
    have := h1 i a b
    have e : R * (y' - rd K i) = R * (y' - y) + R * (y - rd K i) := by rw [← Int.mul_add]; congr 1; omega
    rw [e]; omega
  have hn : ((T ++ [x']).length : Int) = T.length + 1 := by simp
  refine ⟨by simp [hlen], by simp, ?_, ?_, ?_, ?_, ?_⟩
  · rw [hn, show (T.length : Int) + 1 - 1 = T.length by omega]; exact rd_snoc_eq _ _
  · have : ((K ++ [y']).length : Int) = K.length + 1 := by simp
    rw [this, show (K.length : Int) + 1 - 1 = K.length by omega]; exact rd_snoc_eq _ _
  · intro i a b
    rw [hn] at b
    by_cases c : i < T.length
    · rw [rd_snoc_lt _ _ _ a c, rd_snoc_lt _ _ _ a (by omega)]; exact hr i a c
    · obtain rfl : i = T.length := by omega
      rw [rd_snoc_eq, hlen, rd_snoc_eq]
      have q := hr (T.length - 1) (by omega) (by omega)
      rw [hT] at q
      rw [hlen, hK] at q
      omega
  · intro i j a b c
    rw [hn] at c
    by_cases d : j < T.length
    · rw [rd_snoc_lt T x' j (by omega) d, rd_snoc_lt T x' i a (by omega), rd_snoc_lt K y' j (by omega) (by omega), rd_snoc_lt K y' i a (by omega)]; exact h2 i j a b d
    · obtain rfl : j = T.length := by omega
      rw [rd_snoc_eq]
      have e : rd (K ++ [y']) T.length = y' := by rw [hlen, rd_snoc_eq]
      rw [e]
      by_cases f : i < T.length
      · rw [rd_snoc_lt _ _ _ a f, rd_snoc_lt _ _ _ a (by omega)]
        have := key i a f
        omega
      · obtain rfl : i = T.length := by omega
        rw [rd_snoc_eq, e]; simp; exact hB
  · intro i a b
    rw [hn] at b
    by_cases c : i < T.length
    · rw [rd_snoc_lt _ _ _ a c, rd_snoc_lt _ _ _ a (by omega)]; exact key i a c
    · obtain rfl : i = T.length := by omega
      rw [rd_snoc_eq]
      have e : rd (K ++ [y']) T.length = y' := by rw [hlen, rd_snoc_eq]
      rw [e]; simp; omega

end Go.Proofs.Ytpfdbbimpfihbaa
