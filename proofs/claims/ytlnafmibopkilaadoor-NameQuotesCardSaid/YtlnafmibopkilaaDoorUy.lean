/- Names: the document's own quoting. -/
import Derived.Test.YtlnafmibopkilaaDoorPQuotex3
import Derived.Test.YtlnafmibopkilaaDoorUt
namespace Go.Proofs.YtlnafmibopkilaaDoor.RQ
open Go Go.Lib Go.RowKit Go.Proofs.YtlnafmibopkilaaDoorW.PrintWords Go.Proofs.YtlnafmibopkilaaDoor.PQuote
theorem cont_eq (s : ByteArray) (i : Nat) : spoorref01_cont.f s (i : Int) = some (contP s.size (s.data.toList.getD i 0).toNat i) := by
  unfold spoorref01_cont.f contP
  by_cases h : i < s.size
  · rw [if_pos (by omega), if_pos (by omega), bt_nat s i h, decide_eq_true h]
    by_cases h2 : 128 ≤ (s.data.toList.getD i 0).toNat
    · rw [if_pos (by omega), decide_eq_true h2]
      simp
      omega
    · rw [if_neg (by omega), decide_eq_false h2]
      simp
  · rw [if_neg (by omega), decide_eq_false h]
    simp
theorem j2_no (k : Nat) (s : ByteArray) (x u v : Int) (z : Bool) : spoorref01_First.j2 (k + 1) s x false u v z = some (u, v, z) := by
  rw [spoorref01_First.j2, if_neg (by simp)]
theorem j1_lo (k : Nat) (s : ByteArray) (x u v : Int) (z : Bool) (h : x < 240 ∨ 245 ≤ x) : spoorref01_First.j1 (k + 2) s x false u v z = some (u, v, z) := by
  rw [spoorref01_First.j1, if_neg (by simp)]
  rcases h with h | h
  · rw [if_neg (by omega)]; exact j2_no k s _ _ _ _
  · rw [if_pos (by omega), if_neg (by omega)]; exact j2_no k s _ _ _ _
theorem j0_lo (k : Nat) (s : ByteArray) (x u v : Int) (z : Bool) (h : x < 224 ∨ 245 ≤ x) : spoorref01_First.j0 (k + 3) s x false u v z = some (u, v, z) := by
  rw [spoorref01_First.j0, if_neg (by simp)]
  rcases h with h | h
  · rw [if_neg (by omega)]; exact j1_lo k s _ _ _ _ (.inl (by omega))
  · rw [if_pos (by omega), if_neg (by omega)]; exact j1_lo k s _ _ _ _ (.inr h)

set_option maxHeartbeats 4000000 in
theorem firstI_eq (s : ByteArray) (h : 0 < s.size) (m : Nat) : spoorref01_First.f (m + 4) s = some (firstI s.size (s.data.toList.getD 0 0).toNat (s.data.toList.getD 1 0).toNat (s.data.toList.getD 2 0).toNat (s.data.toList.getD 3 0).toNat) := by
  have e0 := bt_nat s 0 h
  have e1 := bt_nat s 1
  have e2 := bt_nat s 2
  have e3 := bt_nat s 3
  have c1 := cont_eq s 1
  have c2 := cont_eq s 2
  have c3 := cont_eq s 3
  have l0 := (s.data.toList.getD 0 0).toNat_lt
  have l1 := (s.data.toList.getD 1 0).toNat_lt
  have l2 := (s.data.toList.getD 2 0).toNat_lt
  have l3 := (s.data.toList.getD 3 0).toNat_lt
  unfold spoorref01_First.f firstI
  generalize (s.data.toList.getD 0 0).toNat = b0 at *
  generalize (s.data.toList.getD 1 0).toNat = b1 at *
  generalize (s.data.toList.getD 2 0).toNat = b2 at *
  generalize (s.data.toList.getD 3 0).toNat = b3 at *
  have i1 : contP s.size b1 1 = true → 1 < s.size := by unfold contP; simp; omega
  have i2 : contP s.size b2 2 = true → 2 < s.size := by unfold contP; simp; omega
  have i3 : contP s.size b3 3 = true → 3 < s.size := by unfold contP; simp; omega
  have e0' : bt s 0 = b0 := e0
  have c1' : spoorref01_cont.f s 1 = some (contP s.size b1 1) := c1
  have c2' : spoorref01_cont.f s 2 = some (contP s.size b2 2) := c2
  have c3' : spoorref01_cont.f s 3 = some (contP s.size b3 3) := c3
  have e1' : 1 < s.size → bt s 1 = b1 := e1
  have e2' : 2 < s.size → bt s 2 = b2 := e2
  have e3' : 3 < s.size → bt s 3 = b3 := e3
  clear e0 e1 e2 e3 c1 c2 c3
  generalize contP s.size b1 1 = t1 at *
  generalize contP s.size b2 2 = t2 at *
  generalize contP s.size b3 3 = t3 at *
  have w0 : wrap64 (b0 : Int) = b0 := wsmall _ (by omega) (by omega)
  rw [if_pos (by omega), e0', w0]
  by_cases A : b0 < 128
  · rw [if_pos (by omega), if_pos A]
  · rw [if_neg (by omega), if_neg A]
    rcases (by omega : b0 < 194 ∨ (194 ≤ b0 ∧ b0 < 224) ∨ (224 ≤ b0 ∧ b0 < 240) ∨ (240 ≤ b0 ∧ b0 < 245) ∨ 245 ≤ b0) with r | ⟨r, r'⟩ | ⟨r, r'⟩ | ⟨r, r'⟩ | r
    · rw [if_neg (by omega), if_neg (by omega), if_neg (by omega), if_neg (by omega)]
      exact j0_lo (m + 1) s _ _ _ _ (by omega)
    · rw [if_pos (by omega), if_pos (by omega), c1', Option.bind_some]
      cases t1
      · rw [if_neg (by simp), if_neg (by omega), if_neg (by omega)]
        exact j0_lo (m + 1) s _ _ _ _ (by omega)
      · have n1 := i1 rfl
        have f1 := e1' n1
        rw [if_pos ⟨r, r', rfl⟩, spoorref01_First.j0, if_pos rfl, if_pos (by omega)]
        simp (disch := omega) only [f1, wsmall]
    · rw [if_pos (by omega), if_neg (by omega), if_neg (by omega), spoorref01_First.j0, if_neg (by simp), if_pos (by omega), if_pos (by omega), c1', Option.bind_some]
      cases t1
      · rw [if_neg (by simp), if_neg (by simp), if_neg (by omega)]
        exact j1_lo (m + 1) s _ _ _ _ (by omega)
      · rw [if_pos rfl, c2', Option.bind_some]
        cases t2
        · rw [if_neg (by simp), if_neg (by omega)]
          exact j1_lo (m + 1) s _ _ _ _ (by omega)
        · have n2 := i2 rfl
          have f1 := e1' (by omega)
          have f2 := e2' n2
          rw [if_pos ⟨r, r', rfl, rfl⟩, spoorref01_First.j1, if_pos rfl, if_pos (by omega), if_pos (by omega)]
          simp (disch := omega) only [f1, f2, wsmall]
          repeat' split
          all_goals first | rfl | (exfalso; omega)
    · rw [if_pos (by omega), if_neg (by omega), if_neg (by omega), if_neg (by omega), spoorref01_First.j0, if_neg (by simp), if_pos (by omega), if_neg (by omega), spoorref01_First.j1, if_neg (by simp), if_pos (by omega), if_pos (by omega), c1', Option.bind_some]
      cases t1
      · rw [if_neg (by simp), if_neg (by simp)]
        exact j2_no (m + 1) s _ _ _ _
      · rw [if_pos rfl, c2', Option.bind_some]
        cases t2
        · rw [if_neg (by simp), if_neg (by simp)]
          exact j2_no (m + 1) s _ _ _ _
        · rw [if_pos rfl, c3', Option.bind_some]
          cases t3
          · rw [if_neg (by simp)]
            exact j2_no (m + 1) s _ _ _ _
          · have n3 := i3 rfl
            have f1 := e1' (by omega)
            have f2 := e2' (by omega)
            have f3 := e3' n3
            rw [if_pos ⟨r, r', rfl, rfl, rfl⟩, spoorref01_First.j2, if_pos rfl, if_pos (by omega), if_pos (by omega), if_pos (by omega)]
            simp (disch := omega) only [f1, f2, f3, wsmall]
            repeat' split
            all_goals first | rfl | (exfalso; omega)
    · rw [if_pos (by omega), if_neg (by omega), if_neg (by omega), if_neg (by omega), if_neg (by omega)]
      exact j0_lo (m + 1) s _ _ _ _ (by omega)

theorem first_list (s : ByteArray) (h : 0 < s.size) (m : Nat) : spoorref01_First.f (m + 4) s = some (((decodeL s.data.toList).1 : Int), ((decodeL s.data.toList).2 : Int), !decide (decodeL s.data.toList = (65533, 1))) := by
  have hn : s.data.toList.length = s.size := by simp
  rw [firstI_eq s h m, first_dec _ _ _ _ _ (s.data.toList.getD 0 0).toNat_lt (s.data.toList.getD 1 0).toNat_lt (s.data.toList.getD 2 0).toNat_lt (s.data.toList.getD 3 0).toNat_lt, decodeL_N, hn]

theorem hexA_acc : ∀ (f n : Nat) (acc : List UInt8), hexA f n acc = hexA f n [] ++ acc
  | 0, n, acc => rfl
  | f + 1, n, acc => by
    unfold hexA
    by_cases h : n < 16
    · rw [if_pos h, if_pos h]; rfl
    · rw [if_neg h, if_neg h, hexA_acc f _ (hd (n % 16) :: acc), hexA_acc f _ [hd (n % 16)], List.append_assoc]
      rfl
theorem hexA_len2 : ∀ (f n : Nat) (acc : List UInt8), (hexA f n acc).length ≤ f + 1 + acc.length
  | 0, n, acc => by simp [hexA]; omega
  | f + 1, n, acc => by
    unfold hexA
    by_cases h : n < 16
    · rw [if_pos h, List.length_cons]; omega
    · rw [if_neg h]
      have h2 := hexA_len2 f (n / 16) (hd (n % 16) :: acc)
      rw [List.length_cons] at h2
      omega
theorem one_hex (d : Nat) (h : d < 16) : (⟨#[48, 49, 50, 51, 52, 53, 54, 55, 56, 57, 97, 98, 99, 100, 101, 102]⟩ : ByteArray).extract d (d + 1) = ⟨[hd d].toArray⟩ :=
  (by decide : ∀ d : Fin 16, (⟨#[48, 49, 50, 51, 52, 53, 54, 55, 56, 57, 97, 98, 99, 100, 101, 102]⟩ : ByteArray).extract d.1 (d.1 + 1) = ⟨[hd d.1].toArray⟩) ⟨d, h⟩
theorem cat2 (a b : List UInt8) : ((⟨a.toArray⟩ ++ ⟨b.toArray⟩ : ByteArray)) = ⟨(a ++ b).toArray⟩ := by
  apply ByteArray.ext
  simp
theorem arr_size (a : List UInt8) : (⟨a.toArray⟩ : ByteArray).size = a.length := by simp [ByteArray.size]
theorem hex_lo (n k : Nat) (h : n < 16) : spoorref01_hex.f (k + 1) (n : Int) = some ⟨[hd n].toArray⟩ := by
  have w1 : wrap64 ((n : Int) + 1) = ((n + 1 : Nat) : Int) := by rw [wsmall _ (by omega) (by omega)]; omega
  simp only [spoorref01_hex.f]
  rw [if_pos (by omega), if_pos (by omega), w1, if_pos (by omega), if_pos (by omega), Int.toNat_natCast, Int.toNat_natCast, one_hex n h]
theorem hex_ref : ∀ (f n k : Nat), f ≤ 15 → n < 16 ^ (f + 1) → n < 4294967296 → f + 1 ≤ k → spoorref01_hex.f k (n : Int) = some ⟨(hexA f n []).toArray⟩
  | f, n, 0, _, _, _, hk => by omega
  | 0, n, k + 1, _, hn, _, _ => by
    have h16 : n < 16 := by simpa using hn
    rw [hex_lo n k h16]
    show _ = some (⟨[hd (n % 16)].toArray⟩ : ByteArray)
    rw [Nat.mod_eq_of_lt h16]
  | f + 1, n, k + 1, hf, hn, hb, hk => by
    unfold hexA
    by_cases h : n < 16
    · rw [if_pos h]; exact hex_lo n k h
    · rw [if_neg h, hexA_acc]
      have hq : n / 16 < 16 ^ (f + 1) := by
        rw [Nat.pow_succ] at hn
        exact Nat.div_lt_of_lt_mul (by omega)
      have ih := hex_ref f (n / 16) k (by omega) hq (by omega) (by omega)
      have hl := hexA_len2 f (n / 16) []
      simp only [List.length_nil] at hl
      have hd1 : Int.tdiv (n : Int) 16 = ((n / 16 : Nat) : Int) := rfl
      have hd2 : Int.tmod (n : Int) 16 = ((n % 16 : Nat) : Int) := rfl
      have hm : n % 16 < 16 := Nat.mod_lt _ (by omega)
      have w1 : wrap64 (((n % 16 : Nat) : Int) + 1) = ((n % 16 + 1 : Nat) : Int) := by rw [wsmall _ (by omega) (by omega)]; omega
      simp only [spoorref01_hex.f]
      rw [if_neg (by omega), hd1, wsmall _ (by omega) (by omega), ih, Option.bind_some, hd2, w1, Int.toNat_natCast, Int.toNat_natCast, one_hex _ hm, if_pos (by omega), if_pos (by omega), if_pos (by omega), arr_size, arr_size, if_pos (by simp only [List.length_cons, List.length_nil]; omega), cat2]

theorem hexs_ref (n k : Nat) (hn : n < 4294967296) (hk : 16 ≤ k) : spoorref01_hex.f k (n : Int) = some ⟨(hexs n).toArray⟩ := hex_ref 15 n k (by omega) (by simp; omega) hn hk
theorem cat_hex (n k : Nat) (hk : 16 ≤ k) (hn : n < 16) : spoorref01_hex.f k (n : Int) = some ⟨[hd n].toArray⟩ := by
  obtain ⟨m, rfl⟩ : ∃ m, k = m + 1 := ⟨k - 1, by omega⟩
  exact hex_lo n m hn
theorem head_bt (s : ByteArray) (h : 0 < s.size) : bt s 0 = ((s.data.toList.headD 0).toNat : Int) := by
  have := bt_nat s 0 h
  rw [Int.ofNat_zero] at this
  rw [this]
  cases s.data.toList <;> rfl
theorem ext0 (s : ByteArray) (p : Nat) : s.extract 0 p = ⟨(s.data.toList.take p).toArray⟩ := by
  apply ByteArray.ext
  apply Array.toList_inj.1
  rw [extract_data, List.drop_zero, Nat.sub_zero]
theorem wnat (m : Nat) (h : m < 256) : wrap64 (m : Int) = m := wsmall _ (by omega) (by omega)
set_option maxHeartbeats 4000000 in
theorem quote_ref : ∀ (n : Nat) (s x : ByteArray) (k : Nat), s.size ≤ n → n + 30 ≤ k → x.size + 11 * s.size < 4611686018427387904 → spoorref01_Quote.l0 k s x = some (x ++ ⟨(quoteP s.data.toList).toArray⟩)
  | n, s, x, 0, _, hk, _ => by omega
  | n, s, x, k + 1, hn, hk, hx => by
    by_cases h : 0 < s.size
    · have hsz : s.data.toList.length = s.size := by simp
      have hne : s.data.toList ≠ [] := by
        intro e
        rw [e] at hsz
        simp at hsz
        omega
      have hp := dw_pos s.data.toList hne
      have hle := decodeL_le s.data.toList hne
      rw [hsz] at hle
      have hF : spoorref01_First.f k s = some (((decodeL s.data.toList).1 : Int), ((decodeL s.data.toList).2 : Int), !decide (decodeL s.data.toList = (65533, 1))) := by
        obtain ⟨m, rfl⟩ : ∃ m, k = m + 4 := ⟨k - 4, by omega⟩
        exact first_list s h m
      have hsl := step_len s.data.toList hne
      have hstep : ∀ P : List UInt8, P = quoteStep s.data.toList → spoorref01_Quote.l0 k (s.extract (decodeL s.data.toList).2 s.size) (x ++ ⟨P.toArray⟩) = some (x ++ ⟨(quoteP s.data.toList).toArray⟩) := by
        intro P hP
        cases n with
        | zero => omega
        | succ n =>
          have hxs : (s.extract (decodeL s.data.toList).2 s.size).size = s.size - (decodeL s.data.toList).2 := by simp
          have hps : (x ++ ⟨P.toArray⟩ : ByteArray).size = x.size + P.length := by rw [ByteArray.size_append, arr_size P]
          rw [quote_ref n _ _ k (by omega) (by omega) (by rw [hps, hxs, hP]; omega), extract_tl, quoteP_cons s.data.toList hne, hP, ByteArray.append_assoc, cat2]
          rfl
      have hb := head_bt s h
      have hbl := (s.data.toList.headD 0).toNat_lt
      have hr := dec_le s.data.toList
      have hex1 := hexs_ref (decodeL s.data.toList).1 k (by omega) (by omega)
      have hex2 := cat_hex ((s.data.toList.headD 0).toNat / 16) k (by omega) (by omega)
      have hex3 := cat_hex ((s.data.toList.headD 0).toNat % 16) k (by omega) (Nat.mod_lt _ (by omega))
      have hxl := hexs_len (decodeL s.data.toList).1 (by omega)
      have htk : badP s.data.toList ≠ true → s.data.toList.take (decodeL s.data.toList).2 = encodeRune ((decodeL s.data.toList).1 : Int) := fun hb => (dec_good s.data.toList hne (by simpa using hb)).symm
      unfold quoteStep at hstep
      unfold badP at hstep htk
      have htl : (s.data.toList.take (decodeL s.data.toList).2).length = (decodeL s.data.toList).2 := by rw [List.length_take, hsz]; omega
      generalize hQ : (some (x ++ ⟨(quoteP s.data.toList).toArray⟩) : Option ByteArray) = Q at *
      simp only [spoorref01_Quote.l0]
      rw [if_pos (by omega), hF, Option.bind_some]
      have d1 : Int.tdiv (((s.data.toList.headD 0).toNat : Nat) : Int) 16 = (((s.data.toList.headD 0).toNat / 16 : Nat) : Int) := rfl
      have d2 : Int.tmod (((s.data.toList.headD 0).toNat : Nat) : Int) 16 = (((s.data.toList.headD 0).toNat % 16 : Nat) : Int) := rfl
      have wb : wrap64 (((s.data.toList.headD 0).toNat : Nat) : Int) = (((s.data.toList.headD 0).toNat : Nat) : Int) := wnat _ hbl
      have w2 : wrap64 (((s.data.toList.headD 0).toNat / 16 : Nat) : Int) = (((s.data.toList.headD 0).toNat / 16 : Nat) : Int) := wnat _ (Nat.lt_of_le_of_lt (Nat.div_le_self _ _) hbl)
      have e92 : (⟨#[92, 92]⟩ : ByteArray) = ⟨[92, 92].toArray⟩ := rfl
      have e117 : (⟨#[92, 117]⟩ : ByteArray) = ⟨[92, 117].toArray⟩ := rfl
      have e120 : (⟨#[92, 120]⟩ : ByteArray) = ⟨[92, 120].toArray⟩ := rfl
      have e46 : (⟨#[46]⟩ : ByteArray) = ⟨[46].toArray⟩ := rfl
      by_cases B : decodeL s.data.toList = (65533, 1)
      · rw [if_neg (by simp [B]), if_pos (by omega), hb, wb, d1, d2, w2, hex2, Option.bind_some, hex3, Option.bind_some, e120]
        simp only [cat2, arr_size, Int.toNat_natCast]
        rw [if_pos (by simp), if_pos (by simp), if_pos (by simp; omega), if_pos (by omega), if_pos (by omega)]
        exact hstep _ (by rw [if_pos (by simp [B])]; rfl)
      · have htk2 := htk (by simp [B])
        rw [if_neg (by simp [B])] at hstep
        rw [if_pos (by simp [B])]
        generalize (decodeL s.data.toList).1 = r at *
        generalize (decodeL s.data.toList).2 = w at *
        simp only [Int.toNat_natCast, ext0, e92, e117, e46, hex1, Option.bind_some, cat2, arr_size, htl]
        by_cases r92 : r = 92
        · rw [if_pos r92] at hstep
          rw [if_pos (by omega), if_pos (by omega), if_pos (by omega), if_pos (by omega)]
          exact hstep _ rfl
        · rw [if_neg r92] at hstep
          rw [if_neg (by omega)]
          by_cases rc : (32 ≤ r ∧ r ≤ 126) ∨ (161 ≤ r ∧ r ≤ 591)
          · rw [if_pos rc] at hstep
            have hs2 := hstep _ htk2
            repeat' split
            all_goals first
              | exact hs2
              | (exfalso; omega)
          · rw [if_neg rc] at hstep
            have hs2 := hstep _ rfl
            have hl3 : ([92, 117] ++ hexs r ++ [46]).length ≤ 11 := by simp; omega
            have hl2 : ([92, 117] ++ hexs r).length ≤ 10 := by simp; omega
            repeat' split
            all_goals first
              | exact hs2
              | (exfalso; omega)
    · have h2 : s.data.toList.length = s.size := by simp
      have e : s.data.toList = [] := List.eq_nil_of_length_eq_zero (by omega)
      simp only [spoorref01_Quote.l0]
      rw [if_neg (by omega), e, quoteP_nil]
      congr 1
      apply ByteArray.ext
      simp
/-- The document's own quoting gives what the program's does. -/
theorem rquote_any (s : ByteArray) (w : World) (hs : s.size ≤ 1000000) : Calls Tryd.prog 23 #[.string s] w fun e w' => e = .returned (.string ⟨(quoteP s.data.toList).toArray⟩) ∧ Below w.heap.size w w' := by
  refine spoorref01_Quote.calls (s.size + 40) s _ w ?_
  unfold spoorref01_Quote.f
  rw [quote_ref s.size s _ (s.size + 40) (Nat.le_refl _) (by omega) (by show 0 + _ < _; omega)]
  congr 1

end Go.Proofs.YtlnafmibopkilaaDoor.RQ
