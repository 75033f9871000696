/- Names: what is quoted, read back step by step. -/
import Derived.Test.YtlnafmibopkilaaDoorWu
namespace Go.Proofs.YtlnafmibopkilaaDoor
open Go Go.Lib Go.RowKit

def hv : Nat → List Nat → Nat
  | v, [] => v
  | v, d :: ds => hv (16 * v + d) ds
theorem hv_snoc : ∀ (ds : List Nat) (v d : Nat), hv v (ds ++ [d]) = 16 * hv v ds + d
  | [], v, d => rfl
  | e :: ds, v, d => by
    show hv (16 * v + e) (ds ++ [d]) = _
    rw [hv_snoc ds]
    rfl
def Scalar (n : Nat) : Prop := n < 55296 ∨ (57344 ≤ n ∧ n ≤ 1114111)
def UStep (t b t' : List UInt8) : Prop :=
  (∃ c : UInt8, c ≠ 92 ∧ t = c :: t' ∧ b = [c]) ∨
  (t = 92 :: 92 :: t' ∧ b = [92]) ∨
  (∃ x y : Nat, x < 16 ∧ y < 16 ∧ t = 92 :: 120 :: hd x :: hd y :: t' ∧ b = [UInt8.ofNat (16 * x + y)]) ∨
  (∃ ds : List Nat, (∀ d ∈ ds, d < 16) ∧ ds ≠ [] ∧ ds.length ≤ 6 ∧ Scalar (hv 0 ds) ∧ t = 92 :: 117 :: (ds.map hd ++ 46 :: t') ∧ b = encodeRune (hv 0 ds : Int))
inductive UnqR : List UInt8 → List UInt8 → Prop
  | nil : UnqR [] []
  | step {t b t' r : List UInt8} : UStep t b t' → UnqR t' r → UnqR t (b ++ r)
theorem ustep_ne {t b t' : List UInt8} (h : UStep t b t') : t ≠ [] := by
  rcases h with ⟨c, _, h, _⟩ | ⟨h, _⟩ | ⟨x, y, _, _, h, _⟩ | ⟨ds, _, _, _, _, h, _⟩ <;> (rw [h]; simp)
theorem unqR_inv {t r : List UInt8} (h : UnqR t r) (ht : t ≠ []) : ∃ b t' r', UStep t b t' ∧ UnqR t' r' ∧ r = b ++ r' := by
  cases h with
  | nil => exact absurd rfl ht
  | step h1 h2 => exact ⟨_, _, _, h1, h2, rfl⟩
theorem unqR_end {t r : List UInt8} (h : UnqR t r) (ht : t = []) : r = [] := by
  cases h with
  | nil => rfl
  | step h1 h2 => exact absurd ht (ustep_ne h1)
theorem unqR_chars : ∀ (cs t r : List UInt8), (∀ y ∈ cs, y ≠ 92) → UnqR t r → UnqR (cs ++ t) (cs ++ r)
  | [], t, r, _, h => h
  | c :: cs, t, r, hc, h => UnqR.step (b := [c]) (.inl ⟨c, hc c (by simp), rfl, rfl⟩) (unqR_chars cs t r (fun y hy => hc y (by simp [hy])) h)
theorem hexA_lenG : ∀ (g f n : Nat), n < 16 ^ (g + 1) → (hexA f n []).length ≤ g + 1
  | _, 0, n, _ => by simp [hexA]
  | 0, f + 1, n, h => by
    unfold hexA
    rw [if_pos (by simpa using h)]
    simp
  | g + 1, f + 1, n, h => by
    unfold hexA
    by_cases h16 : n < 16
    · rw [if_pos h16]; simp
    · rw [if_neg h16, hexA_acc, List.length_append]
      have hq : n / 16 < 16 ^ (g + 1) := by
        rw [Nat.pow_succ] at h
        exact Nat.div_lt_of_lt_mul (by omega)
      have := hexA_lenG g f (n / 16) hq
      simp only [List.length_cons, List.length_nil]
      omega
theorem hexA_digits : ∀ (f n : Nat), n < 16 ^ (f + 1) → ∃ ds : List Nat, hexA f n [] = ds.map hd ∧ (∀ d ∈ ds, d < 16) ∧ ds ≠ [] ∧ hv 0 ds = n
  | 0, n, h => by
    have h16 : n < 16 := by simpa using h
    refine ⟨[n], ?_, by simpa using h16, by simp, by simp [hv]⟩
    show [hd (n % 16)] = _
    rw [Nat.mod_eq_of_lt h16]
    rfl
  | f + 1, n, h => by
    by_cases h16 : n < 16
    · refine ⟨[n], ?_, by simpa using h16, by simp, by simp [hv]⟩
      unfold hexA
      rw [if_pos h16]
      rfl
    · have hq : n / 16 < 16 ^ (f + 1) := by
        rw [Nat.pow_succ] at h
        exact Nat.div_lt_of_lt_mul (by omega)
      obtain ⟨ds, h1, h2, h3, h4⟩ := hexA_digits f (n / 16) hq
      refine ⟨ds ++ [n % 16], ?_, ?_, by simp, by rw [hv_snoc, h4]; omega⟩
      · conv => lhs; unfold hexA
        rw [if_neg h16, hexA_acc, h1]
        simp
      · intro d hd
        rcases List.mem_append.1 hd with hd | hd
        · exact h2 d hd
        · rw [List.mem_singleton.1 hd]; omega
theorem hexs_digits (n : Nat) (h : n ≤ 1114111) : ∃ ds : List Nat, hexs n = ds.map hd ∧ (∀ d ∈ ds, d < 16) ∧ ds ≠ [] ∧ ds.length ≤ 6 ∧ hv 0 ds = n := by
  obtain ⟨ds, h1, h2, h3, h4⟩ := hexA_digits 15 n (by simp; omega)
  have hl := hexA_lenG 5 15 n (by simp; omega)
  rw [h1, List.length_map] at hl
  exact ⟨ds, h1, h2, h3, hl, h4⟩
theorem enc_no92 (r : Nat) (h92 : r ≠ 92) (hpc : (32 ≤ r ∧ r ≤ 126) ∨ (161 ≤ r ∧ r ≤ 591)) : ∀ y ∈ encodeRune (r : Int), y ≠ 92 := by
  intro x hx
  unfold encodeRune at hx
  rcases hpc with hpc | hpc
  · rw [encodeRuneZ_one (by omega) (by omega)] at hx
    simp at hx
    intro e
    rw [e] at hx
    have := congrArg UInt8.toNat hx
    simp at this
    omega
  · rw [encodeRuneZ_two (by omega) (by omega)] at hx
    simp at hx
    intro e
    rw [e] at hx
    rcases hx with hx | hx
    · have := congrArg UInt8.toNat hx
      simp at this
      omega
    · have := congrArg UInt8.toNat hx
      simp at this
      omega
theorem unqR_quote : ∀ (n : Nat) (l : List UInt8), l.length ≤ n → UnqR (quoteP l) l
  | n, l, hn => by
    by_cases hne : l = []
    · subst hne
      exact UnqR.nil
    · have hw := dw_pos l hne
      have hl : 0 < l.length := List.length_pos_iff.2 hne
      cases n with
      | zero => omega
      | succ n =>
        have ih := unqR_quote n (l.drop (decodeL l).2) (by rw [List.length_drop]; omega)
        rw [quoteP_cons l hne]
        have key : UnqR (quoteStep l ++ quoteP (l.drop (decodeL l).2)) (l.take (decodeL l).2 ++ l.drop (decodeL l).2) := by
          generalize quoteP (l.drop (decodeL l).2) = t at *
          generalize l.drop (decodeL l).2 = r at *
          unfold quoteStep
          by_cases hb : badP l = true
          · rw [if_pos hb]
            have hd2 : decodeL l = (65533, 1) := by unfold badP at hb; exact of_decide_eq_true hb
            cases l with
            | nil => exact absurd rfl hne
            | cons c cs =>
              have hc := c.toNat_lt
              rw [hd2]
              refine UnqR.step (b := [c]) (.inr (.inr (.inl ⟨c.toNat / 16, c.toNat % 16, by omega, Nat.mod_lt _ (by omega), rfl, ?_⟩))) ih
              rw [show 16 * (c.toNat / 16) + c.toNat % 16 = c.toNat by omega]
              simp
          · have hbf : badP l = false := by simpa using hb
            have hg := dec_good l hne hbf
            have hvd := dec_valid l hbf
            rw [if_neg hb, ← hg]
            by_cases h92 : (decodeL l).1 = 92
            · rw [if_pos h92, h92]
              exact UnqR.step (b := [92]) (.inr (.inl ⟨rfl, rfl⟩)) ih
            · rw [if_neg h92]
              by_cases hpc : (32 ≤ (decodeL l).1 ∧ (decodeL l).1 ≤ 126) ∨ (161 ≤ (decodeL l).1 ∧ (decodeL l).1 ≤ 591)
              · rw [if_pos hpc]
                exact unqR_chars _ _ _ (enc_no92 _ h92 hpc) ih
              · rw [if_neg hpc]
                obtain ⟨ds, h1, h2, h3, h4, h5⟩ := hexs_digits (decodeL l).1 (dec_le l)
                refine UnqR.step (.inr (.inr (.inr ⟨ds, h2, h3, h4, by rw [h5]; exact hvd, ?_, by rw [h5]⟩))) ih
                rw [h1]
                simp
        rw [List.take_append_drop] at key
        exact key

def NoQ (s : ByteArray) : Prop := ∀ l, quoteP l ≠ s.data.toList
def CondA (s : ByteArray) (p : Nat) (x : ByteArray) : Prop := ∀ l, quoteP l = s.data.toList → ∃ r, UnqR (s.data.toList.drop p) r ∧ x.data.toList ++ r = l
def CondU (s : ByteArray) (p j v : Nat) (x : ByteArray) : Prop :=
  ∀ l, quoteP l = s.data.toList → ∃ (ds : List Nat) (t r : List UInt8), s.data.toList.drop j = ds.map hd ++ 46 :: t ∧ (∀ d ∈ ds, d < 16) ∧ (j = p + 2 → ds ≠ []) ∧ j + ds.length ≤ p + 8 ∧ Scalar (hv v ds) ∧ UnqR t r ∧
    x.data.toList ++ (encodeRune (hv v ds : Int) ++ r) = l
theorem condA_start (s : ByteArray) : CondA s 0 ⟨#[]⟩ := fun l h => ⟨l, by rw [List.drop_zero, ← h]; exact unqR_quote l.length l (Nat.le_refl _), rfl⟩
theorem drop_at (s : ByteArray) (p : Nat) (h : p < s.size) : s.data.toList.drop p = s[p] :: s.data.toList.drop (p + 1) := by
  rw [List.drop_eq_getElem_cons (by simpa using h)]
  rfl
theorem drop_ne (s : ByteArray) (p : Nat) (h : p < s.size) : s.data.toList.drop p ≠ [] := by rw [drop_at s p h]; simp
theorem u8eq {a b : UInt8} (h : a.toNat = b.toNat) : a = b := UInt8.toNat_inj.1 h
theorem digZ_hd (a : Nat) (h : a < 16) : digZ ((hd a).toNat : Int) = (a : Int) :=
  (by decide : ∀ a : Fin 16, digZ ((hd a.1).toNat : Int) = (a.1 : Int)) ⟨a, h⟩
theorem hd_inj (a : Nat) (c : UInt8) (h : a < 16) (hc : c = hd a) : digZ (c.toNat : Int) = a := by rw [hc]; exact digZ_hd a h
theorem hd_no (a : Nat) (h : a < 16) : hd a ≠ 92 ∧ hd a ≠ 46 :=
  (by decide : ∀ a : Fin 16, hd a.1 ≠ 92 ∧ hd a.1 ≠ 46) ⟨a, h⟩
/-- A byte that stands for itself. -/
theorem condA_char {s x : ByteArray} {p : Nat} (h : CondA s p x) (hp : p < s.size) (hc : s[p].toNat ≠ 92) : CondA s (p + 1) (x ++ s.extract p (p + 1)) := by
  intro l hl
  obtain ⟨r, hr, hx⟩ := h l hl
  obtain ⟨b, t', r', hs, hr', rfl⟩ := unqR_inv hr (drop_ne s p hp)
  rw [drop_at s p hp] at hs
  have hne : s[p] ≠ 92 := fun e => hc (by rw [e]; rfl)
  have hex : (s.extract p (p + 1)).data.toList = [s[p]] := by rw [extract_data, drop_at s p hp]; simp
  rcases hs with ⟨c, h1, h2, rfl⟩ | ⟨h2, rfl⟩ | ⟨a, a', _, _, h2, rfl⟩ | ⟨ds, _, _, _, _, h2, rfl⟩
  · obtain ⟨rfl, h3⟩ := List.cons.inj h2
    refine ⟨r', by rw [h3]; exact hr', ?_⟩
    rw [← hx, ← List.append_assoc]
    have e : (x ++ s.extract p (p + 1)).data.toList = x.data.toList ++ [s[p]] := by
      rw [ByteArray.data_append, Array.toList_append, hex]
    rw [e]
  all_goals exact absurd (List.cons.inj h2).1 hne
theorem no_end {s x : ByteArray} {p : Nat} (h : CondA s p x) (hp : p < s.size) (hc : s[p].toNat = 92) (h1 : s.size ≤ p + 1) : NoQ s := by
  intro l hl
  obtain ⟨r, hr, hx⟩ := h l hl
  obtain ⟨b, t', r', hs, hr', rfl⟩ := unqR_inv hr (drop_ne s p hp)
  rw [drop_at s p hp, List.drop_eq_nil_of_le (by simpa using h1), u8eq (b := 92) hc] at hs
  rcases hs with ⟨c, h1, h2, rfl⟩ | ⟨h2, rfl⟩ | ⟨a, a', _, _, h2, rfl⟩ | ⟨ds, _, _, _, _, h2, rfl⟩
  · exact h1 (List.cons.inj h2).1.symm
  all_goals exact absurd (List.cons.inj h2).2 (by simp)
theorem condA_slash {s x : ByteArray} {p : Nat} (h : CondA s p x) (hp : p + 1 < s.size) (hc : s[p].toNat = 92) (hc1 : s[p + 1].toNat = 92) : CondA s (p + 2) (x ++ ⟨#[92]⟩) := by
  intro l hl
  obtain ⟨r, hr, hx⟩ := h l hl
  obtain ⟨b, t', r', hs, hr', rfl⟩ := unqR_inv hr (drop_ne s p (by omega))
  rw [drop_at s p (by omega), drop_at s (p + 1) hp, u8eq (b := 92) hc, u8eq (b := 92) hc1] at hs
  rcases hs with ⟨c, h1, h2, rfl⟩ | ⟨h2, rfl⟩ | ⟨a, a', _, _, h2, rfl⟩ | ⟨ds, _, _, _, _, h2, rfl⟩
  · exact absurd (List.cons.inj h2).1.symm h1
  · refine ⟨r', by rw [(List.cons.inj (List.cons.inj h2).2).2]; exact hr', ?_⟩
    rw [← hx]
    simp
  all_goals exact absurd (List.cons.inj (List.cons.inj h2).2).1 (by decide)
theorem no_other {s x : ByteArray} {p : Nat} (h : CondA s p x) (hp : p + 1 < s.size) (hc : s[p].toNat = 92) (c1 : s[p + 1].toNat ≠ 92) (c2 : s[p + 1].toNat ≠ 120) (c3 : s[p + 1].toNat ≠ 117) : NoQ s := by
  intro l hl
  obtain ⟨r, hr, hx⟩ := h l hl
  obtain ⟨b, t', r', hs, hr', rfl⟩ := unqR_inv hr (drop_ne s p (by omega))
  rw [drop_at s p (by omega), drop_at s (p + 1) hp, u8eq (b := 92) hc] at hs
  rcases hs with ⟨c, h1, h2, rfl⟩ | ⟨h2, rfl⟩ | ⟨a, a', _, _, h2, rfl⟩ | ⟨ds, _, _, _, _, h2, rfl⟩
  · exact h1 (List.cons.inj h2).1.symm
  · exact c1 (by rw [(List.cons.inj (List.cons.inj h2).2).1]; rfl)
  · exact c2 (by rw [(List.cons.inj (List.cons.inj h2).2).1]; rfl)
  · exact c3 (by rw [(List.cons.inj (List.cons.inj h2).2).1]; rfl)
theorem x_inv {s x : ByteArray} {p : Nat} (h : CondA s p x) (hp : p + 1 < s.size) (hc : s[p].toNat = 92) (hc1 : s[p + 1].toNat = 120) (l : List UInt8) (hl : quoteP l = s.data.toList) :
    ∃ a b t r, a < 16 ∧ b < 16 ∧ s.data.toList.drop (p + 2) = hd a :: hd b :: t ∧ UnqR t r ∧ x.data.toList ++ (UInt8.ofNat (16 * a + b) :: r) = l := by
  obtain ⟨r, hr, hx⟩ := h l hl
  obtain ⟨b, t', r', hs, hr', rfl⟩ := unqR_inv hr (drop_ne s p (by omega))
  rw [drop_at s p (by omega), drop_at s (p + 1) hp, u8eq (b := 92) hc, u8eq (b := 120) hc1] at hs
  rcases hs with ⟨c, h1, h2, rfl⟩ | ⟨h2, rfl⟩ | ⟨a, a', ha, ha', h2, rfl⟩ | ⟨ds, _, _, _, _, h2, rfl⟩
  · exact absurd (List.cons.inj h2).1.symm h1
  · exact absurd (List.cons.inj (List.cons.inj h2).2).1 (by decide)
  · exact ⟨a, a', t', r', ha, ha', (List.cons.inj (List.cons.inj h2).2).2, hr', hx⟩
  · exact absurd (List.cons.inj (List.cons.inj h2).2).1 (by decide)
theorem no_x {s x : ByteArray} {p : Nat} (h : CondA s p x) (hp : p + 1 < s.size) (hc : s[p].toNat = 92) (hc1 : s[p + 1].toNat = 120)
    (hno : s.size ≤ p + 3 ∨ (∃ h2 : p + 2 < s.size, digZ (s[p + 2].toNat : Int) < 0) ∨ ∃ h3 : p + 3 < s.size, digZ (s[p + 3].toNat : Int) < 0) : NoQ s := by
  intro l hl
  obtain ⟨a, b, t, r, ha, hb, hd2, _, _⟩ := x_inv h hp hc hc1 l hl
  have hlen := congrArg List.length hd2
  rw [List.length_drop] at hlen
  have hsl : s.data.toList.length = s.size := by simp
  simp only [List.length_cons] at hlen
  rw [drop_at s (p + 2) (by omega), drop_at s (p + 2 + 1) (by omega)] at hd2
  have e1 := (List.cons.inj hd2).1
  have e2 := (List.cons.inj (List.cons.inj hd2).2).1
  rcases hno with hno | ⟨h2, hno⟩ | ⟨h3, hno⟩
  · omega
  · rw [hd_inj a _ ha e1] at hno; omega
  · rw [hd_inj b _ hb e2] at hno; omega
theorem condA_x {s x : ByteArray} {p : Nat} (h : CondA s p x) (hp : p + 3 < s.size) (hc : s[p].toNat = 92) (hc1 : s[p + 1].toNat = 120) :
    CondA s (p + 4) (x ++ strOfNums [16 * digZ (s[p + 2].toNat : Int) + digZ (s[p + 3].toNat : Int)]) := by
  intro l hl
  obtain ⟨a, b, t, r, ha, hb, hd2, hr, hx⟩ := x_inv h (by omega) hc hc1 l hl
  rw [drop_at s (p + 2) (by omega), drop_at s (p + 2 + 1) (by omega)] at hd2
  have e1 := (List.cons.inj hd2).1
  have e2 := (List.cons.inj (List.cons.inj hd2).2).1
  have e3 := (List.cons.inj (List.cons.inj hd2).2).2
  refine ⟨r, by rw [show p + 4 = p + 2 + 1 + 1 by omega, e3]; exact hr, ?_⟩
  have h1 := hd_inj a _ ha e1
  have h2 := hd_inj b _ hb e2
  have h2' : digZ (s[p + 3].toNat : Int) = b := h2
  have e : strOfNums [((16 * a + b : Nat) : Int)] = ⟨[UInt8.ofNat (16 * a + b)].toArray⟩ := by
    unfold strOfNums
    simp only [List.map_cons, List.map_nil, Int.toNat_natCast]
  rw [← hx, h1, h2', show ((16 : Int) * (a : Int) + (b : Int)) = ((16 * a + b : Nat) : Int) by omega, e]
  generalize UInt8.ofNat (16 * a + b) = c
  simp
theorem condU_start {s x : ByteArray} {p : Nat} (h : CondA s p x) (hp : p + 1 < s.size) (hc : s[p].toNat = 92) (hc1 : s[p + 1].toNat = 117) : CondU s p (p + 2) 0 x := by
  intro l hl
  obtain ⟨r, hr, hx⟩ := h l hl
  obtain ⟨b, t', r', hs, hr', rfl⟩ := unqR_inv hr (drop_ne s p (by omega))
  rw [drop_at s p (by omega), drop_at s (p + 1) hp, u8eq (b := 92) hc, u8eq (b := 117) hc1] at hs
  rcases hs with ⟨c, h1, h2, rfl⟩ | ⟨h2, rfl⟩ | ⟨a, a', ha, ha', h2, rfl⟩ | ⟨ds, d1, d2, d3, d4, h2, rfl⟩
  · exact absurd (List.cons.inj h2).1.symm h1
  · exact absurd (List.cons.inj (List.cons.inj h2).2).1 (by decide)
  · exact absurd (List.cons.inj (List.cons.inj h2).2).1 (by decide)
  · exact ⟨ds, t', r', (List.cons.inj (List.cons.inj h2).2).2, d1, fun _ => d2, by omega, d4, hr', hx⟩
theorem condU_dig {s x : ByteArray} {p j v : Nat} (h : CondU s p j v x) (hj : j < s.size) (hp : p + 2 ≤ j) (hd0 : 0 ≤ digZ (s[j].toNat : Int)) : CondU s p (j + 1) (16 * v + (digZ (s[j].toNat : Int)).toNat) x := by
  intro l hl
  obtain ⟨ds, t, r, h1, h2, h3, h4, h5, h6, h7⟩ := h l hl
  cases ds with
  | nil =>
    rw [drop_at s j hj] at h1
    have := (List.cons.inj h1).1
    rw [this] at hd0
    exact absurd hd0 (by decide)
  | cons d ds =>
    rw [drop_at s j hj] at h1
    have e := (List.cons.inj h1).1
    have e2 := hd_inj d _ (h2 d (by simp)) e
    refine ⟨ds, t, r, (List.cons.inj h1).2, fun y hy => h2 y (by simp [hy]), by omega, ?_, ?_, h6, ?_⟩
    · simp only [List.length_cons] at h4; omega
    · rw [e2]; exact h5
    · rw [e2]; exact h7
theorem condU_end {s x : ByteArray} {p j v : Nat} (h : CondU s p j v x) (hp : p + 2 ≤ j) (hstop : ∀ hj : j < s.size, j < p + 9 → digZ (s[j].toNat : Int) < 0) (l : List UInt8) (hl : quoteP l = s.data.toList) :
    ∃ t r, s.data.toList.drop j = 46 :: t ∧ j ≠ p + 2 ∧ Scalar v ∧ UnqR t r ∧ x.data.toList ++ (encodeRune (v : Int) ++ r) = l := by
  obtain ⟨ds, t, r, h1, h2, h3, h4, h5, h6, h7⟩ := h l hl
  cases ds with
  | nil => exact ⟨t, r, h1, fun e => h3 e rfl, h5, h6, h7⟩
  | cons d ds =>
    have hj : j < s.size := by
      have hlen := congrArg List.length h1
      rw [List.length_drop] at hlen
      have hsl : s.data.toList.length = s.size := by simp
      simp at hlen
      omega
    have e := h1
    rw [drop_at s j hj] at e
    have e2 := hd_inj d _ (h2 d (by simp)) (List.cons.inj e).1
    have := hstop hj (by simp only [List.length_cons] at h4; omega)
    rw [e2] at this
    omega
theorem no_u {s x : ByteArray} {p j v : Nat} (h : CondU s p j v x) (hp : p + 2 ≤ j) (hstop : ∀ hj : j < s.size, j < p + 9 → digZ (s[j].toNat : Int) < 0)
    (hno : s.size ≤ j ∨ (∃ hj : j < s.size, s[j].toNat ≠ 46) ∨ j = p + 2 ∨ 1114111 < v) : NoQ s := by
  intro l hl
  obtain ⟨t, r, h1, h2, h3, _, _⟩ := condU_end h hp hstop l hl
  have hlen := congrArg List.length h1
  rw [List.length_drop] at hlen
  have hsl : s.data.toList.length = s.size := by simp
  simp only [List.length_cons] at hlen
  rcases hno with hno | ⟨hj, hno⟩ | hno | hno
  · omega
  · rw [drop_at s j hj] at h1
    exact hno (by rw [(List.cons.inj h1).1]; rfl)
  · exact h2 hno
  · unfold Scalar at h3; omega
theorem condA_u {s x : ByteArray} {p j v : Nat} (h : CondU s p j v x) (hp : p + 2 ≤ j) (hstop : ∀ hj : j < s.size, j < p + 9 → digZ (s[j].toNat : Int) < 0) : CondA s (j + 1) (x ++ EncZ (v : Int)) := by
  intro l hl
  obtain ⟨t, r, h1, h2, h3, h4, h5⟩ := condU_end h hp hstop l hl
  refine ⟨r, by rw [← List.drop_drop, h1]; exact h4, ?_⟩
  rw [← h5, EncZ_ok (v : Int) (by omega) (by unfold Scalar at h3; omega)]
  simp
theorem condA_done {s x : ByteArray} {p : Nat} (h : CondA s p x) (hp : s.size ≤ p) (l : List UInt8) (hl : quoteP l = s.data.toList) : x.data.toList = l := by
  obtain ⟨r, hr, hx⟩ := h l hl
  have := unqR_end hr (List.drop_eq_nil_of_le (by simpa using hp))
  subst this
  rw [List.append_nil] at hx
  exact hx
end Go.Proofs.YtlnafmibopkilaaDoor
