/- Names: what is quoted is read back as it was. -/
import Derived.Test.YtlnafmibopkilaaDoorUu
import Derived.Test.YtlnafmibopkilaaDoorUc
import Derived.Lib.TrimAscii
namespace Go.Proofs.YtlnafmibopkilaaDoor
open Go Go.Lib

theorem digit_hd (d : Nat) (h : d < 16) : digitU (hd d).toNat = some d :=
  (by decide : ∀ d : Fin 16, digitU (hd d.1).toNat = some d.1) ⟨d, h⟩
theorem hd_dot (d : Nat) (h : d < 16) : hd d ≠ 46 :=
  (by decide : ∀ d : Fin 16, hd d.1 ≠ 46) ⟨d, h⟩
theorem hd_low (d : Nat) (h : d < 16) : (hd d).toNat < 128 :=
  (by decide : ∀ d : Fin 16, (hd d.1).toNat < 128) ⟨d, h⟩
theorem parse_hd (max n d : Nat) (l : List UInt8) (h : d < 16) (hm : n * 16 + d ≤ max) : parseH max n (hd d :: l) = parseH max (n * 16 + d) l := by
  show (match digitU (hd d).toNat with
    | none => none
    | some d => if max < n * 16 + d then none else parseH max (n * 16 + d) l) = _
  rw [digit_hd d h]
  exact if_neg (by omega)
theorem parse_hexA (max : Nat) : ∀ (f n : Nat) (acc : List UInt8), n < 16 ^ (f + 1) → n ≤ max → parseH max 0 (hexA f n acc) = parseH max n acc
  | 0, n, acc, h, hm => by
    have h16 : n < 16 := by simpa using h
    unfold hexA
    rw [Nat.mod_eq_of_lt h16, parse_hd max 0 n acc h16 (by omega)]
    congr 1
    omega
  | f + 1, n, acc, h, hm => by
    unfold hexA
    by_cases h16 : n < 16
    · rw [if_pos h16, parse_hd max 0 n acc h16 (by omega)]
      congr 1
      omega
    · rw [if_neg h16]
      have hq : n / 16 < 16 ^ (f + 1) := by
        rw [Nat.pow_succ] at h
        exact Nat.div_lt_of_lt_mul (by omega)
      rw [parse_hexA max f (n / 16) _ hq (by omega), parse_hd max (n / 16) (n % 16) acc (Nat.mod_lt _ (by decide)) (by omega)]
      congr 1
      omega
theorem hexA_ne (f : Nat) : ∀ (n : Nat) (acc : List UInt8), hexA f n acc ≠ [] := by
  induction f with
  | zero => intro n acc; simp [hexA]
  | succ f ih =>
    intro n acc
    unfold hexA
    by_cases h : n < 16
    · rw [if_pos h]; simp
    · rw [if_neg h]; exact ih _ _
theorem parse_hexs (max n : Nat) (hn : n < 4294967296) (hm : n ≤ max) : parseU max (hexs n) = some n := by
  unfold parseU
  rw [if_neg (show hexs n ≠ [] from hexA_ne 15 n [])]
  show parseH max 0 (hexA 15 n []) = some n
  rw [parse_hexA max 15 n [] (Nat.lt_of_lt_of_le hn (by decide)) hm]
  rfl
theorem hexA_all (P : UInt8 → Prop) (hP : ∀ d, d < 16 → P (hd d)) : ∀ (f n : Nat) (acc : List UInt8), (∀ x ∈ acc, P x) → ∀ x ∈ hexA f n acc, P x
  | 0, n, acc, h, x, hx => by
    unfold hexA at hx
    rcases List.mem_cons.1 hx with rfl | hx
    · exact hP _ (Nat.mod_lt _ (by decide))
    · exact h x hx
  | f + 1, n, acc, h, x, hx => by
    unfold hexA at hx
    by_cases h16 : n < 16
    · rw [if_pos h16] at hx
      rcases List.mem_cons.1 hx with rfl | hx
      · exact hP _ h16
      · exact h x hx
    · rw [if_neg h16] at hx
      refine hexA_all P hP f (n / 16) _ (fun y hy => ?_) x hx
      rcases List.mem_cons.1 hy with rfl | hy
      · exact hP _ (Nat.mod_lt _ (by decide))
      · exact h y hy
theorem hexs_dot (n : Nat) : ∀ x ∈ hexs n, x ≠ 46 := hexA_all (fun x => x ≠ 46) hd_dot 15 n [] (by simp)
theorem hexs_low (n : Nat) : ∀ x ∈ hexs n, x.toNat < 128 := hexA_all (fun x => x.toNat < 128) hd_low 15 n [] (by simp)
theorem index_dot : ∀ (p t : List UInt8), (∀ x ∈ p, x ≠ 46) → indexByte (p ++ 46 :: t) 46 = p.length
  | [], t, _ => by simp [indexByte]
  | a :: p, t, h => by
    have ih := index_dot p t (fun x hx => h x (List.mem_cons_of_mem _ hx))
    have ha : a ≠ 46 := h a (List.mem_cons_self ..)
    rw [List.cons_append, indexByte, ih]
    have h1 : (a == 46) = false := by simpa using ha
    have h2 : ((p.length : Int) == -1) = false := by simp; try omega
    rw [h1, h2]
    simp

/-- A rune that was decoded from its own bytes. -/
theorem dec_good (l : List UInt8) (hne : l ≠ []) (hb : badP l = false) : encodeRune ((decodeL l).1 : Int) = l.take (decodeL l).2 := by
  refine encode_decode l hne fun h => ?_
  unfold badP at hb
  rw [decide_eq_false_iff_not] at hb
  exact hb (Prod.ext h.1 h.2)
def encF (c : Nat) : List UInt8 :=
  if c < 0x80 then [UInt8.ofNat c]
  else if c < 0x800 then [UInt8.ofNat (0xC0 + c / 64), UInt8.ofNat (0x80 + c % 64)]
  else if c < 0x10000 then [UInt8.ofNat (0xE0 + c / 4096), UInt8.ofNat (0x80 + c / 64 % 64), UInt8.ofNat (0x80 + c % 64)]
  else [UInt8.ofNat (0xF0 + c / 262144), UInt8.ofNat (0x80 + c / 4096 % 64), UInt8.ofNat (0x80 + c / 64 % 64), UInt8.ofNat (0x80 + c % 64)]
theorem encF_z (z : Int) : (Utf8.encode z).data.toList = encF (if Utf8.valid z = true then z.toNat else Utf8.runeError) := by
  have key : ∀ (c : Nat) (X : List UInt8), encF c = X → (if c < 0x80 then (⟨#[UInt8.ofNat c]⟩ : ByteArray)
    else if c < 0x800 then ⟨#[UInt8.ofNat (0xC0 + c / 64), UInt8.ofNat (0x80 + c % 64)]⟩
    else if c < 0x10000 then ⟨#[UInt8.ofNat (0xE0 + c / 4096), UInt8.ofNat (0x80 + c / 64 % 64), UInt8.ofNat (0x80 + c % 64)]⟩
    else ⟨#[UInt8.ofNat (0xF0 + c / 262144), UInt8.ofNat (0x80 + c / 4096 % 64), UInt8.ofNat (0x80 + c / 64 % 64), UInt8.ofNat (0x80 + c % 64)]⟩).data.toList = X := by
    intro c X e
    rw [← e]
    unfold encF
    by_cases h1 : c < 0x80
    · rw [if_pos h1, if_pos h1]
    · rw [if_neg h1, if_neg h1]
      by_cases h2 : c < 0x800
      · rw [if_pos h2, if_pos h2]
      · rw [if_neg h2, if_neg h2]
        by_cases h3 : c < 0x10000
        · rw [if_pos h3, if_pos h3]
        · rw [if_neg h3, if_neg h3]
  exact key _ _ rfl
theorem encF_model (r : Nat) (h : Utf8.valid (r : Int) = true) : (Utf8.encode (r : Int)).data.toList = encF r := by
  rw [encF_z, if_pos h, Int.toNat_natCast]
theorem encF_rune (r : Nat) (h : r < 55296 ∨ (57344 ≤ r ∧ r ≤ 1114111)) : encF r = encodeRune (r : Int) := by
  unfold encF encodeRune
  by_cases h1 : r < 128
  · rw [if_pos h1, encodeRuneZ_one (by omega) (by omega)]
    rfl
  · rw [if_neg h1]
    by_cases h2 : r < 2048
    · rw [if_pos h2, encodeRuneZ_two (by omega) (by omega)]
      have a : (192 + (r : Int) / 64).toNat = 192 + r / 64 := by omega
      have b : (128 + (r : Int) % 64).toNat = 128 + r % 64 := by omega
      simp only [List.map_cons, List.map_nil, a, b]
    · rw [if_neg h2]
      by_cases h3 : r < 65536
      · rw [if_pos h3, encodeRuneZ_three (by omega)]
        have a : (224 + (r : Int) / 4096).toNat = 224 + r / 4096 := by omega
        have b : (128 + (r : Int) / 64 % 64).toNat = 128 + r / 64 % 64 := by omega
        have c : (128 + (r : Int) % 64).toNat = 128 + r % 64 := by omega
        simp only [List.map_cons, List.map_nil, a, b, c]
      · rw [if_neg h3, encodeRuneZ_four (by omega) (by omega)]
        have a : (240 + (r : Int) / 262144).toNat = 240 + r / 262144 := by omega
        have b : (128 + (r : Int) / 4096 % 64).toNat = 128 + r / 4096 % 64 := by omega
        have c : (128 + (r : Int) / 64 % 64).toNat = 128 + r / 64 % 64 := by omega
        have d : (128 + (r : Int) % 64).toNat = 128 + r % 64 := by omega
        simp only [List.map_cons, List.map_nil, a, b, c, d]
theorem enc_model (r : Nat) (h : r < 55296 ∨ (57344 ≤ r ∧ r ≤ 1114111)) : (Utf8.encode (r : Int)).data.toList = encodeRune (r : Int) := by
  have hv : Utf8.valid (r : Int) = true := by
    unfold Utf8.valid
    simp
    omega
  rw [encF_model r hv, encF_rune r h]

theorem dec_valid (l : List UInt8) (hb : badP l = false) : (decodeL l).1 < 55296 ∨ (57344 ≤ (decodeL l).1 ∧ (decodeL l).1 ≤ 1114111) := by
  unfold badP at hb
  rw [decide_eq_false_iff_not] at hb
  rw [decodeL_N] at hb ⊢
  have k0 := (l.getD 0 0).toNat_lt
  have k1 := (l.getD 1 0).toNat_lt
  have k2 := (l.getD 2 0).toNat_lt
  have k3 := (l.getD 3 0).toNat_lt
  rcases decodeN_shape l.length (l.getD 0 0).toNat (l.getD 1 0).toNat (l.getD 2 0).toNat (l.getD 3 0).toNat with ⟨c, e⟩ | ⟨c1, c2, c3, cv, e⟩ | ⟨c1, c2, c3, c4, cv, cs, e⟩ | ⟨c1, c2, c3, c4, c5, cv, cw, e⟩ | e
  · rw [e]; dsimp only; omega
  · rw [e]; dsimp only; omega
  · rw [e]; dsimp only; omega
  · rw [e]; dsimp only; omega
  · exact absurd e hb
theorem dec_width (l : List UInt8) : (decodeL l).2 ≤ 4 := by
  rw [decodeL_N]
  rcases decodeN_shape l.length (l.getD 0 0).toNat (l.getD 1 0).toNat (l.getD 2 0).toNat (l.getD 3 0).toNat with ⟨c, e⟩ | ⟨c1, c2, c3, cv, e⟩ | ⟨c1, c2, c3, c4, cv, cs, e⟩ | ⟨c1, c2, c3, c4, c5, cv, cw, e⟩ | e
  all_goals (rw [e]; dsimp only; omega)
theorem getD_app (l t : List UInt8) (w i : Nat) (h : i < w) (hw : w ≤ l.length) : (l.take w ++ t).getD i 0 = l.getD i 0 := by
  rw [List.getD_eq_getElem?_getD, List.getD_eq_getElem?_getD, List.getElem?_append_left (by rw [List.length_take]; omega), List.getElem?_take, if_pos h]
/-- A rune's own bytes ahead of whatever. -/
theorem dec_app (l t : List UInt8) (hne : l ≠ []) (hb : badP l = false) : decodeL (l.take (decodeL l).2 ++ t) = decodeL l := by
  have hle := decodeL_le l hne
  unfold badP at hb
  rw [decide_eq_false_iff_not] at hb
  have hln : (l.take (decodeL l).2 ++ t).length = (decodeL l).2 + t.length := by rw [List.length_append, List.length_take, Nat.min_eq_left hle]
  have g := fun i h => getD_app l t (decodeL l).2 i h hle
  rw [decodeL_N (l.take (decodeL l).2 ++ t), hln]
  generalize l.take (decodeL l).2 ++ t = A at *
  rw [decodeL_N l] at hb g hle ⊢
  rcases decodeN_shape l.length (l.getD 0 0).toNat (l.getD 1 0).toNat (l.getD 2 0).toNat (l.getD 3 0).toNat with ⟨c, e⟩ | ⟨c1, c2, c3, cv, e⟩ | ⟨c1, c2, c3, c4, cv, cs, e⟩ | ⟨c1, c2, c3, c4, c5, cv, cw, e⟩ | e
  · rw [e] at g ⊢
    rw [g 0 (by simp), dN1 _ _ _ _ _ c]
  · rw [e] at g ⊢
    rw [g 0 (by simp), g 1 (by simp)]
    exact dN2 _ _ _ _ _ c1 (by simp; omega) c3 cv
  · rw [e] at g ⊢
    rw [g 0 (by simp), g 1 (by simp), g 2 (by simp)]
    exact dN3 _ _ _ _ _ c1 (by simp; omega) c3 c4 cv cs
  · rw [e] at g ⊢
    rw [g 0 (by simp), g 1 (by simp), g 2 (by simp), g 3 (by simp)]
    exact dN4 _ _ _ _ _ c1 (by simp; omega) c3 c4 c5 cv cw
  · exact absurd e hb

theorem valid_ascii (a : UInt8) (t : List UInt8) (h : a.toNat < 128) : validP (a :: t) = validP t := by
  unfold validP
  rw [runes_cons _ (List.cons_ne_nil _ _), decodeL_ascii a t h]
  have e : decide ((a.toNat, 1) = ((65533, 1) : Nat × Nat)) = false := by
    rw [decide_eq_false_iff_not]
    intro e
    have := congrArg Prod.fst e
    simp at this
    omega
  rw [List.all_cons, e]
  simp
theorem valid_low : ∀ (p t : List UInt8), (∀ x ∈ p, x.toNat < 128) → validP (p ++ t) = validP t
  | [], t, _ => rfl
  | a :: p, t, h => by
    rw [List.cons_append, valid_ascii a _ (h a (List.mem_cons_self ..))]
    exact valid_low p t fun x hx => h x (List.mem_cons_of_mem _ hx)
theorem valid_app (l t : List UInt8) (hne : l ≠ []) (hb : badP l = false) : validP (l.take (decodeL l).2 ++ t) = validP t := by
  have hp := dw_pos l hne
  have hle := decodeL_le l hne
  have hne2 : l.take (decodeL l).2 ++ t ≠ [] := by
    intro e
    have h3 : (l.take (decodeL l).2 ++ t).length = 0 := by rw [e]; rfl
    rw [List.length_append, List.length_take] at h3
    omega
  have hd := dec_app l t hne hb
  unfold validP
  rw [runes_cons _ hne2, hd, List.all_cons]
  have e : (l.take (decodeL l).2 ++ t).drop (decodeL l).2 = t := by
    rw [List.drop_append_of_le_length (by rw [List.length_take]; omega), List.drop_take, Nat.sub_self, List.take_zero, List.nil_append]
  rw [e]
  unfold badP at hb
  rw [hb]
  simp

theorem unq_chars : ∀ (p t acc : List UInt8), (∀ x ∈ p, x ≠ 92) → unqP (p ++ t) acc = unqP t (acc ++ p)
  | [], t, acc, _ => by simp
  | a :: p, t, acc, h => by
    rw [List.cons_append, unqP_char a _ _ (h a (List.mem_cons_self ..)), unq_chars p t _ fun x hx => h x (List.mem_cons_of_mem _ hx)]
    simp
theorem unq_with (t u acc : List UInt8) (R : List UInt8) (n : Nat) (hE : escP (92 :: t) = (R, n)) (hn : n ≠ 0) (hd : (92 :: t).drop n = u) : unqP (92 :: t) acc = unqP u (acc ++ R) := by
  rw [unqP_esc, hE]
  simp only
  rw [if_neg hn, hd]
theorem esc_slash (t : List UInt8) : escP (92 :: 92 :: t) = ([92], 2) := by
  unfold escP
  rw [if_pos (by simp [hasPrefix])]
theorem esc_byte (a c : Nat) (t : List UInt8) (ha : a < 16) (hc : c < 16) : escP (92 :: 120 :: hd a :: hd c :: t) = ([UInt8.ofNat (a * 16 + c)], 4) := by
  unfold escP
  rw [if_neg (by simp [hasPrefix]), if_pos ⟨by simp [hasPrefix], by simp⟩]
  have hp : parseU 255 (((92 :: 120 :: hd a :: hd c :: t).drop 2).take 2) = some (a * 16 + c) := by
    show parseU 255 [hd a, hd c] = _
    unfold parseU
    rw [if_neg (by simp), parse_hd 255 0 a _ ha (by omega), parse_hd 255 (0 * 16 + a) c _ hc (by omega)]
    show some _ = some _
    congr 1
    omega
  rw [hp]
theorem esc_rune (n : Nat) (t : List UInt8) (hn : n ≤ 1114111) : escP (92 :: 117 :: (hexs n ++ 46 :: t)) = ((Utf8.encode n).data.toList, (hexs n).length + 3) := by
  unfold escP
  rw [if_neg (by simp [hasPrefix]), if_neg (by simp [hasPrefix]), if_pos (by simp [hasPrefix])]
  have hi : cutI ((92 :: 117 :: (hexs n ++ 46 :: t)).drop 2) = ((hexs n).length : Int) := index_dot (hexs n) t (hexs_dot n)
  have hdg : digL ((92 :: 117 :: (hexs n ++ 46 :: t)).drop 2) = hexs n := by
    unfold digL
    rw [hi, if_pos (by omega), Int.toNat_natCast]
    show (hexs n ++ 46 :: t).take (hexs n).length = hexs n
    rw [List.take_append_of_le_length (Nat.le_refl _), List.take_length]
  rw [hi, hdg, parse_hexs 4294967295 n (by omega) (by omega)]
  exact if_pos ⟨by omega, hn⟩

/-- ONE RUNE, QUOTED, READ BACK. -/
theorem step_unq (l t acc : List UInt8) (hne : l ≠ []) : unqP (quoteStep l ++ t) acc = unqP t (acc ++ l.take (decodeL l).2) := by
  unfold quoteStep
  by_cases hb : badP l = true
  · rw [if_pos hb]
    unfold badP at hb
    rw [decide_eq_true_eq] at hb
    rw [hb]
    cases l with
    | nil => exact absurd rfl hne
    | cons b l =>
      have hlt := b.toNat_lt
      refine (unq_with _ t acc _ 4 (esc_byte (b.toNat / 16) (b.toNat % 16) t (by omega) (Nat.mod_lt _ (by decide))) (by decide) rfl).trans ?_
      have e : b.toNat / 16 * 16 + b.toNat % 16 = b.toNat := by omega
      rw [e]
      simp
  · have hbf : badP l = false := by simpa using hb
    rw [if_neg hb]
    have hg := dec_good l hne hbf
    have hv := dec_valid l hbf
    by_cases h92 : (decodeL l).1 = 92
    · rw [if_pos h92]
      rw [h92] at hg
      rw [← hg]
      exact unq_with _ t acc _ 2 (esc_slash t) (by decide) rfl
    · rw [if_neg h92]
      by_cases hp : (32 ≤ (decodeL l).1 ∧ (decodeL l).1 ≤ 126) ∨ (161 ≤ (decodeL l).1 ∧ (decodeL l).1 ≤ 591)
      · rw [if_pos hp, ← hg]
        refine unq_chars _ t acc fun x hx => ?_
        generalize (decodeL l).1 = r at *
        unfold encodeRune at hx
        rcases hp with hp | hp
        · rw [encodeRuneZ_one (by omega) (by omega)] at hx
          simp at hx
          intro e
          rw [e] at hx
          have := congrArg UInt8.toNat hx
          simp at this
          omega
        · rw [encodeRuneZ_two (by omega) (by omega)] at hx
          simp at hx
          intro e
          rw [e] at hx
          rcases hx with hx | hx
          · have := congrArg UInt8.toNat hx
            simp at this
            omega
          · have := congrArg UInt8.toNat hx
            simp at this
            omega
      · rw [if_neg hp]
        have hr := dec_le l
        have he := enc_model (decodeL l).1 (by omega)
        rw [hg] at he
        have e : [92, 117] ++ hexs (decodeL l).1 ++ [46] ++ t = 92 :: 117 :: (hexs (decodeL l).1 ++ 46 :: t) := by simp
        rw [e]
        refine (unq_with _ t acc _ _ (esc_rune (decodeL l).1 t hr) (by omega) ?_).trans (by rw [he])
        have e2 : 92 :: 117 :: (hexs (decodeL l).1 ++ 46 :: t) = (92 :: 117 :: (hexs (decodeL l).1 ++ [46])) ++ t := by simp
        rw [e2, List.drop_append_of_le_length (by simp), List.drop_eq_nil_of_le (by simp), List.nil_append]
theorem unq_quote_to : ∀ (n : Nat) (l acc : List UInt8), l.length ≤ n → unqP (quoteP l) acc = some (acc ++ l)
  | 0, l, acc, h => by
    have : l = [] := List.eq_nil_of_length_eq_zero (by omega)
    subst this
    simp [quoteP_nil, unqP, unqF]
  | n + 1, l, acc, h => by
    by_cases hne : l = []
    · subst hne
      simp [quoteP_nil, unqP, unqF]
    · have hp := dw_pos l hne
      have hl : 0 < l.length := List.length_pos_iff.2 hne
      rw [quoteP_cons l hne, step_unq l _ acc hne, unq_quote_to n _ _ (by rw [List.length_drop]; omega), List.append_assoc, List.take_append_drop]
/-- WHAT IS QUOTED IS READ BACK AS IT WAS. -/
theorem unq_quote (l : List UInt8) : unqP (quoteP l) [] = some ([] ++ l) := unq_quote_to l.length l [] (Nat.le_refl _)

theorem step_valid (l t : List UInt8) (hne : l ≠ []) : validP (quoteStep l ++ t) = validP t := by
  unfold quoteStep
  by_cases hb : badP l = true
  · rw [if_pos hb]
    refine valid_low _ t fun x hx => ?_
    have hlt := (l.headD 0).toNat_lt
    simp only [List.mem_cons, List.mem_nil_iff, or_false] at hx
    rcases hx with rfl | rfl | rfl | rfl
    · decide
    · decide
    · exact hd_low _ (by omega)
    · exact hd_low _ (Nat.mod_lt _ (by decide))
  · have hbf : badP l = false := by simpa using hb
    rw [if_neg hb]
    by_cases h92 : (decodeL l).1 = 92
    · rw [if_pos h92]
      exact valid_low [92, 92] t (by decide)
    · rw [if_neg h92]
      by_cases hp : (32 ≤ (decodeL l).1 ∧ (decodeL l).1 ≤ 126) ∨ (161 ≤ (decodeL l).1 ∧ (decodeL l).1 ≤ 591)
      · rw [if_pos hp, dec_good l hne hbf]
        exact valid_app l t hne hbf
      · rw [if_neg hp]
        refine valid_low _ t fun x hx => ?_
        rw [List.mem_append, List.mem_append] at hx
        rcases hx with (hx | hx) | hx
        · simp at hx
          rcases hx with rfl | rfl
          · decide
          · decide
        · exact hexs_low _ x hx
        · simp at hx
          subst hx
          decide
theorem quote_valid_to : ∀ (n : Nat) (l : List UInt8), l.length ≤ n → validP (quoteP l) = true
  | 0, l, h => by
    have : l = [] := List.eq_nil_of_length_eq_zero (by omega)
    subst this
    rfl
  | n + 1, l, h => by
    by_cases hne : l = []
    · subst hne
      rfl
    · have hp := dw_pos l hne
      have hl : 0 < l.length := List.length_pos_iff.2 hne
      rw [quoteP_cons l hne, step_valid l _ hne]
      exact quote_valid_to n _ (by rw [List.length_drop]; omega)
/-- What is quoted is UTF-8. -/
theorem quote_valid (l : List UInt8) : validP (quoteP l) = true := quote_valid_to l.length l (Nat.le_refl _)

theorem step_len (l : List UInt8) (hne : l ≠ []) : (decodeL l).2 ≤ (quoteStep l).length ∧ (quoteStep l).length ≤ 11 := by
  have hw := dec_width l
  unfold quoteStep
  by_cases hb : badP l = true
  · rw [if_pos hb]
    simp
    omega
  · have hbf : badP l = false := by simpa using hb
    rw [if_neg hb]
    have hg := dec_good l hne hbf
    have hle := decodeL_le l hne
    have he : (encodeRune ((decodeL l).1 : Int)).length = (decodeL l).2 := by rw [hg, List.length_take]; omega
    by_cases h92 : (decodeL l).1 = 92
    · rw [if_pos h92]
      rw [h92] at he
      have h1 : (encodeRune ((92 : Nat) : Int)).length = 1 := by decide
      simp
      omega
    · rw [if_neg h92]
      by_cases hp : (32 ≤ (decodeL l).1 ∧ (decodeL l).1 ≤ 126) ∨ (161 ≤ (decodeL l).1 ∧ (decodeL l).1 ≤ 591)
      · rw [if_pos hp, he]
        omega
      · rw [if_neg hp]
        have hr := dec_le l
        have h1 := hexs_len (decodeL l).1 (by omega)
        have h2 : 0 < (hexs (decodeL l).1).length := List.length_pos_iff.2 (hexA_ne 15 _ [])
        simp
        omega
theorem quote_both : ∀ (n : Nat) (l : List UInt8), l.length ≤ n → l.length ≤ (quoteP l).length ∧ (quoteP l).length ≤ 11 * l.length
  | 0, l, h => by
    have : l = [] := List.eq_nil_of_length_eq_zero (by omega)
    subst this
    exact ⟨Nat.le_refl _, Nat.le_refl _⟩
  | n + 1, l, h => by
    by_cases hne : l = []
    · subst hne
      exact ⟨Nat.le_refl _, Nat.le_refl _⟩
    · have hp := dw_pos l hne
      have hle := decodeL_le l hne
      have hs := step_len l hne
      have ih := quote_both n (l.drop (decodeL l).2) (by rw [List.length_drop]; omega)
      rw [List.length_drop] at ih
      rw [quoteP_cons l hne, List.length_append]
      omega
theorem quote_len (l : List UInt8) : (quoteP l).length ≤ 11 * l.length := (quote_both l.length l (Nat.le_refl _)).2
theorem quote_ge (l : List UInt8) : l.length ≤ (quoteP l).length := (quote_both l.length l (Nat.le_refl _)).1

end Go.Proofs.YtlnafmibopkilaaDoor
