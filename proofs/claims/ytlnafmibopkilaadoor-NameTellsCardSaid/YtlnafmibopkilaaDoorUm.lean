/- Names: what the functions compute, in plain Lean over lists of bytes. -/
import Derived.Lib.MapLaws
import Derived.Lib.RuneCount
import Derived.Lib.RuneBytes
namespace Go.Proofs.YtlnafmibopkilaaDoor
open Go Go.Lib

theorem dw_pos (l : List UInt8) (h : l ≠ []) : 1 ≤ (decodeL l).2 := decodeL_width l

def runesF : Nat → List UInt8 → List (Nat × Nat)
  | 0, _ => []
  | n + 1, l => if l = [] then [] else decodeL l :: runesF n (l.drop (decodeL l).2)
theorem runesF_nil : ∀ n, runesF n [] = []
  | 0 => rfl
  | _ + 1 => by simp [runesF]
theorem runesF_fuel : ∀ (n m : Nat) (l : List UInt8), l.length ≤ n → l.length ≤ m → runesF n l = runesF m l
  | 0, m, l, hn, _ => by
    have : l = [] := List.eq_nil_of_length_eq_zero (by omega)
    subst this
    rw [runesF_nil, runesF_nil]
  | n + 1, 0, l, _, hm => by
    have : l = [] := List.eq_nil_of_length_eq_zero (by omega)
    subst this
    rw [runesF_nil, runesF_nil]
  | n + 1, m + 1, l, hn, hm => by
    by_cases hne : l = []
    · subst hne
      rw [runesF_nil, runesF_nil]
    · have hw := dw_pos l hne
      have hl : 0 < l.length := List.length_pos_iff.2 hne
      simp only [runesF, if_neg hne]
      rw [runesF_fuel n m _ (by rw [List.length_drop]; omega) (by rw [List.length_drop]; omega)]
/-- A text's runes and their widths. -/
def runes (l : List UInt8) : List (Nat × Nat) := runesF l.length l
theorem runes_nil : runes [] = [] := rfl
theorem runes_cons (l : List UInt8) (hne : l ≠ []) : runes l = decodeL l :: runes (l.drop (decodeL l).2) := by
  have hw := dw_pos l hne
  have hl : 0 < l.length := List.length_pos_iff.2 hne
  unfold runes
  obtain ⟨n, hn⟩ : ∃ n, l.length = n + 1 := ⟨l.length - 1, by omega⟩
  rw [hn]
  simp only [runesF, if_neg hne]
  rw [runesF_fuel n _ _ (by rw [List.length_drop]; omega) (Nat.le_refl _)]

/-- What is left of a text behind a place. -/
def tl (s : ByteArray) (pos : Nat) : List UInt8 := s.data.toList.drop pos
theorem tl_zero (s : ByteArray) : tl s 0 = s.data.toList := rfl
theorem tl_add (s : ByteArray) (p q : Nat) : tl s (p + q) = (tl s p).drop q := by simp [tl, List.drop_drop]
theorem tl_ne (s : ByteArray) (p : Nat) (h : p < s.size) : tl s p ≠ [] := by
  intro e
  have := congrArg List.length e
  simp [tl] at this
  omega
theorem tl_end (s : ByteArray) (p : Nat) (h : ¬ p < s.size) : tl s p = [] := by
  unfold tl
  exact List.drop_eq_nil_of_le (by simp; omega)
theorem tl_dec (s : ByteArray) (p : Nat) : decodeL (tl s p) = Utf8.decode s p := decodeL_drop s p
theorem tl_len (s : ByteArray) (p : Nat) : (tl s p).length = s.size - p := by simp [tl]
theorem runes_at (s : ByteArray) (p : Nat) (h : p < s.size) : runes (tl s p) = Utf8.decode s p :: runes (tl s (p + (Utf8.decode s p).2)) := by
  rw [runes_cons _ (tl_ne s p h), tl_dec, tl_add]
theorem runes_end (s : ByteArray) (p : Nat) (h : ¬ p < s.size) : runes (tl s p) = [] := by rw [tl_end s p h]; rfl

def letterP (r : Nat) : Bool := (decide (97 ≤ r) && decide (r ≤ 122)) || (decide (65 ≤ r) && decide (r ≤ 90)) || (decide (48 ≤ r) && decide (r ≤ 57)) || decide (r = 45) || (decide (192 ≤ r) && decide (r ≤ 591))
def rightP (l : List UInt8) : Bool := ((runes l).all fun p => letterP p.1) && decide (1 ≤ (runes l).length) && decide ((runes l).length ≤ 16)
def countP (l : List UInt8) : Nat := (runes l).length
def wsum : List (Nat × Nat) → Nat
  | [] => 0
  | p :: l => p.2 + wsum l
def cutN (l : List UInt8) (n : Int) : Nat := wsum ((runes l).take n.toNat)
def badP (l : List UInt8) : Bool := decide (decodeL l = (65533, 1))
def validP (l : List UInt8) : Bool := (runes l).all fun p => !decide (p = (65533, 1))
/-- The program's own test. -/
def brokenP (r : Nat) (l : List UInt8) : Bool := decide (r = 65533) && !decide ([239, 191, 189] <+: l)

theorem broken_bad (l : List UInt8) (hne : l ≠ []) : brokenP (decodeL l).1 l = badP l := by
  have hl : 0 < l.length := List.length_pos_iff.2 hne
  unfold brokenP badP
  rcases l with _ | ⟨a, l⟩
  · exact absurd rfl hne
  rw [decodeL_N]
  have ka := a.toNat_lt
  by_cases hp : [239, 191, 189] <+: (a :: l)
  · obtain ⟨t, ht⟩ := hp
    simp only [List.cons_append, List.nil_append, List.cons.injEq] at ht
    obtain ⟨rfl, rfl⟩ := ht
    simp [decodeN]
  · have hpf : decide ([239, 191, 189] <+: a :: l) = false := by simpa using hp
    rw [hpf]
    have key : ∀ q : Nat × Nat, decodeN (a :: l).length ((a :: l).getD 0 0).toNat ((a :: l).getD 1 0).toNat ((a :: l).getD 2 0).toNat ((a :: l).getD 3 0).toNat = q → (q.1 = 65533 ↔ q = (65533, 1)) := by
      intro q hq
      refine ⟨fun h => ?_, fun h => by rw [h]⟩
      have k1 := ((a :: l).getD 1 0).toNat_lt
      have k2 := ((a :: l).getD 2 0).toNat_lt
      rcases decodeN_shape (a :: l).length ((a :: l).getD 0 0).toNat ((a :: l).getD 1 0).toNat ((a :: l).getD 2 0).toNat ((a :: l).getD 3 0).toNat with ⟨c, e⟩ | ⟨c1, c2, c3, cv, e⟩ | ⟨c1, c2, c3, c4, cv, cs, e⟩ | ⟨c1, c2, c3, c4, c5, cv, cw, e⟩ | e
      · rw [e] at hq; subst hq; dsimp only at h; omega
      · rw [e] at hq; subst hq; dsimp only at h; omega
      · exfalso
        rw [e] at hq
        subst hq
        dsimp only at h
        apply hp
        rcases l with _ | ⟨b, _ | ⟨c, l⟩⟩
        · simp at c2
        · simp at c2
        · simp at h c1 c3 c4
          have kb := b.toNat_lt
          have kc := c.toNat_lt
          have ea : a = 239 := UInt8.toNat_inj.1 (by simp; omega)
          have eb : b = 191 := UInt8.toNat_inj.1 (by simp; omega)
          have ec : c = 189 := UInt8.toNat_inj.1 (by simp; omega)
          subst ea eb ec
          exact ⟨l, rfl⟩
      · rw [e] at hq; subst hq; dsimp only at h; omega
      · rw [← hq, e]
    rw [Bool.not_false, Bool.and_true]
    exact decide_eq_decide.2 (key _ rfl)

end Go.Proofs.YtlnafmibopkilaaDoor
