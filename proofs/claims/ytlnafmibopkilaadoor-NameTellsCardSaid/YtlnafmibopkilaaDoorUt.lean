/- Names: the document's own runes, as it reads them. -/
import Derived.Test.YtlnafmibopkilaaDoorPValidx3
import Derived.Test.YtlnafmibopkilaaDoorUg
namespace Go.Proofs.YtlnafmibopkilaaDoor
open Go Go.Lib Go.RowKit Go.Proofs.YtlnafmibopkilaaDoorW.PrintWords Go.Proofs.YtlnafmibopkilaaDoor.PValid
def contP (n b i : Nat) : Bool := decide (i < n) && (decide (128 ≤ b) && decide (b < 192))
def firstI (n b0 b1 b2 b3 : Nat) : Int × Int × Bool :=
  if b0 < 128 then (b0, 1, true)
  else if 194 ≤ b0 ∧ b0 < 224 ∧ contP n b1 1 = true then ((b0 - 192) * 64 + b1 - 128, 2, true)
  else if 224 ≤ b0 ∧ b0 < 240 ∧ contP n b1 1 = true ∧ contP n b2 2 = true then
    (if ((b0 : Int) - 224) * 4096 + ((b1 : Int) - 128) * 64 + b2 - 128 < 2048 ∨ (55296 ≤ ((b0 : Int) - 224) * 4096 + ((b1 : Int) - 128) * 64 + b2 - 128 ∧ ((b0 : Int) - 224) * 4096 + ((b1 : Int) - 128) * 64 + b2 - 128 < 57344) then (65533, 1, false)
     else (((b0 : Int) - 224) * 4096 + ((b1 : Int) - 128) * 64 + b2 - 128, 3, true))
  else if 240 ≤ b0 ∧ b0 < 245 ∧ contP n b1 1 = true ∧ contP n b2 2 = true ∧ contP n b3 3 = true then
    (if ((b0 : Int) - 240) * 262144 + ((b1 : Int) - 128) * 4096 + ((b2 : Int) - 128) * 64 + b3 - 128 < 65536 ∨ 1114111 < ((b0 : Int) - 240) * 262144 + ((b1 : Int) - 128) * 4096 + ((b2 : Int) - 128) * 64 + b3 - 128 then (65533, 1, false)
     else (((b0 : Int) - 240) * 262144 + ((b1 : Int) - 128) * 4096 + ((b2 : Int) - 128) * 64 + b3 - 128, 4, true))
  else (65533, 1, false)
theorem tup {a b c d : Int} {x y : Bool} (h1 : a = c) (h2 : b = d) (h3 : x = y) : (a, b, x) = (c, d, y) := by rw [h1, h2, h3]
theorem okT {p w : Nat} (h : w ≠ 1 ∨ p ≠ 65533) : (true : Bool) = !decide ((p, w) = ((65533, 1) : Nat × Nat)) := by
  have : ¬ ((p, w) = ((65533, 1) : Nat × Nat)) := fun e => by
    have h1 := congrArg Prod.fst e
    have h2 := congrArg Prod.snd e
    simp only at h1 h2
    omega
  rw [decide_eq_false this]
  rfl
set_option maxHeartbeats 4000000 in
theorem first_dec (n b0 b1 b2 b3 : Nat) (h0 : b0 < 256) (h1 : b1 < 256) (h2 : b2 < 256) (h3 : b3 < 256) :
    firstI n b0 b1 b2 b3 = (((decodeN n b0 b1 b2 b3).1 : Int), ((decodeN n b0 b1 b2 b3).2 : Int), !decide (decodeN n b0 b1 b2 b3 = (65533, 1))) := by
  unfold firstI contP decodeN
  simp only [Bool.and_eq_true, decide_eq_true_eq]
  repeat' split
  all_goals first
    | (exfalso; omega)
    | (exact tup rfl rfl (okT (.inr (by omega))))
    | (refine tup ?_ rfl (okT (by omega)) <;> (dsimp only; omega))
    | rfl

theorem bt_nat (s : ByteArray) (i : Nat) (h : i < s.size) : bt s (i : Int) = ((s.data.toList.getD i 0).toNat : Int) := by
  unfold bt
  have h2 : (i : Int).toNat < s.size := by simpa using h
  have h3 : i < s.data.toList.length := by simpa using h
  rw [dif_pos h2, List.getD_eq_getElem?_getD, List.getElem?_eq_getElem h3]
  rfl
theorem cont_eq (s : ByteArray) (i : Nat) : spoorref01_cont.f s (i : Int) = some (contP s.size (s.data.toList.getD i 0).toNat i) := by
  unfold spoorref01_cont.f contP
  by_cases h : i < s.size
  · rw [if_pos (by omega), if_pos (by omega), bt_nat s i h, decide_eq_true h]
    by_cases h2 : 128 ≤ (s.data.toList.getD i 0).toNat
    · rw [if_pos (by omega), decide_eq_true h2]
      simp
      omega
    · rw [if_neg (by omega), decide_eq_false h2]
      simp
  · rw [if_neg (by omega), decide_eq_false h]
    simp
theorem wsmall (x : Int) (h0 : -4611686018427387904 ≤ x) (h1 : x ≤ 4611686018427387904) : wrap64 x = x := by unfold wrap64; omega

theorem j2_no (k : Nat) (s : ByteArray) (x u v : Int) (z : Bool) : spoorref01_First.j2 (k + 1) s x false u v z = some (u, v, z) := by
  rw [spoorref01_First.j2, if_neg (by simp)]
theorem j1_lo (k : Nat) (s : ByteArray) (x u v : Int) (z : Bool) (h : x < 240 ∨ 245 ≤ x) : spoorref01_First.j1 (k + 2) s x false u v z = some (u, v, z) := by
  rw [spoorref01_First.j1, if_neg (by simp)]
  rcases h with h | h
  · rw [if_neg (by omega)]; exact j2_no k s _ _ _ _
  · rw [if_pos (by omega), if_neg (by omega)]; exact j2_no k s _ _ _ _
theorem j0_lo (k : Nat) (s : ByteArray) (x u v : Int) (z : Bool) (h : x < 224 ∨ 245 ≤ x) : spoorref01_First.j0 (k + 3) s x false u v z = some (u, v, z) := by
  rw [spoorref01_First.j0, if_neg (by simp)]
  rcases h with h | h
  · rw [if_neg (by omega)]; exact j1_lo k s _ _ _ _ (.inl (by omega))
  · rw [if_pos (by omega), if_neg (by omega)]; exact j1_lo k s _ _ _ _ (.inr h)

set_option maxHeartbeats 4000000 in
theorem firstI_eq (s : ByteArray) (h : 0 < s.size) (m : Nat) : spoorref01_First.f (m + 4) s = some (firstI s.size (s.data.toList.getD 0 0).toNat (s.data.toList.getD 1 0).toNat (s.data.toList.getD 2 0).toNat (s.data.toList.getD 3 0).toNat) := by
  have e0 := bt_nat s 0 h
  have e1 := bt_nat s 1
  have e2 := bt_nat s 2
  have e3 := bt_nat s 3
  have c1 := cont_eq s 1
  have c2 := cont_eq s 2
  have c3 := cont_eq s 3
  have l0 := (s.data.toList.getD 0 0).toNat_lt
  have l1 := (s.data.toList.getD 1 0).toNat_lt
  have l2 := (s.data.toList.getD 2 0).toNat_lt
  have l3 := (s.data.toList.getD 3 0).toNat_lt
  unfold spoorref01_First.f firstI
  generalize (s.data.toList.getD 0 0).toNat = b0 at *
  generalize (s.data.toList.getD 1 0).toNat = b1 at *
  generalize (s.data.toList.getD 2 0).toNat = b2 at *
  generalize (s.data.toList.getD 3 0).toNat = b3 at *
  have i1 : contP s.size b1 1 = true → 1 < s.size := by unfold contP; simp; omega
  have i2 : contP s.size b2 2 = true → 2 < s.size := by unfold contP; simp; omega
  have i3 : contP s.size b3 3 = true → 3 < s.size := by unfold contP; simp; omega
  have e0' : bt s 0 = b0 := e0
  have c1' : spoorref01_cont.f s 1 = some (contP s.size b1 1) := c1
  have c2' : spoorref01_cont.f s 2 = some (contP s.size b2 2) := c2
  have c3' : spoorref01_cont.f s 3 = some (contP s.size b3 3) := c3
  have e1' : 1 < s.size → bt s 1 = b1 := e1
  have e2' : 2 < s.size → bt s 2 = b2 := e2
  have e3' : 3 < s.size → bt s 3 = b3 := e3
  clear e0 e1 e2 e3 c1 c2 c3
  generalize contP s.size b1 1 = t1 at *
  generalize contP s.size b2 2 = t2 at *
  generalize contP s.size b3 3 = t3 at *
  have w0 : wrap64 (b0 : Int) = b0 := wsmall _ (by omega) (by omega)
  rw [if_pos (by omega), e0', w0]
  by_cases A : b0 < 128
  · rw [if_pos (by omega), if_pos A]
  · rw [if_neg (by omega), if_neg A]
    rcases (by omega : b0 < 194 ∨ (194 ≤ b0 ∧ b0 < 224) ∨ (224 ≤ b0 ∧ b0 < 240) ∨ (240 ≤ b0 ∧ b0 < 245) ∨ 245 ≤ b0) with r | ⟨r, r'⟩ | ⟨r, r'⟩ | ⟨r, r'⟩ | r
    · rw [if_neg (by omega), if_neg (by omega), if_neg (by omega), if_neg (by omega)]
      exact j0_lo (m + 1) s _ _ _ _ (by omega)
    · rw [if_pos (by omega), if_pos (by omega), c1', Option.bind_some]
      cases t1
      · rw [if_neg (by simp), if_neg (by omega), if_neg (by omega)]
        exact j0_lo (m + 1) s _ _ _ _ (by omega)
      · have n1 := i1 rfl
        have f1 := e1' n1
        rw [if_pos ⟨r, r', rfl⟩, spoorref01_First.j0, if_pos rfl, if_pos (by omega)]
        simp (disch := omega) only [f1, wsmall]
    · rw [if_pos (by omega), if_neg (by omega), if_neg (by omega), spoorref01_First.j0, if_neg (by simp), if_pos (by omega), if_pos (by omega), c1', Option.bind_some]
      cases t1
      · rw [if_neg (by simp), if_neg (by simp), if_neg (by omega)]
        exact j1_lo (m + 1) s _ _ _ _ (by omega)
      · rw [if_pos rfl, c2', Option.bind_some]
        cases t2
        · rw [if_neg (by simp), if_neg (by omega)]
          exact j1_lo (m + 1) s _ _ _ _ (by omega)
        · have n2 := i2 rfl
          have f1 := e1' (by omega)
          have f2 := e2' n2
          rw [if_pos ⟨r, r', rfl, rfl⟩, spoorref01_First.j1, if_pos rfl, if_pos (by omega), if_pos (by omega)]
          simp (disch := omega) only [f1, f2, wsmall]
          repeat' split
          all_goals first | rfl | (exfalso; omega)
    · rw [if_pos (by omega), if_neg (by omega), if_neg (by omega), if_neg (by omega), spoorref01_First.j0, if_neg (by simp), if_pos (by omega), if_neg (by omega), spoorref01_First.j1, if_neg (by simp), if_pos (by omega), if_pos (by omega), c1', Option.bind_some]
      cases t1
      · rw [if_neg (by simp), if_neg (by simp)]
        exact j2_no (m + 1) s _ _ _ _
      · rw [if_pos rfl, c2', Option.bind_some]
        cases t2
        · rw [if_neg (by simp), if_neg (by simp)]
          exact j2_no (m + 1) s _ _ _ _
        · rw [if_pos rfl, c3', Option.bind_some]
          cases t3
          · rw [if_neg (by simp)]
            exact j2_no (m + 1) s _ _ _ _
          · have n3 := i3 rfl
            have f1 := e1' (by omega)
            have f2 := e2' (by omega)
            have f3 := e3' n3
            rw [if_pos ⟨r, r', rfl, rfl, rfl⟩, spoorref01_First.j2, if_pos rfl, if_pos (by omega), if_pos (by omega), if_pos (by omega)]
            simp (disch := omega) only [f1, f2, f3, wsmall]
            repeat' split
            all_goals first | rfl | (exfalso; omega)
    · rw [if_pos (by omega), if_neg (by omega), if_neg (by omega), if_neg (by omega), if_neg (by omega)]
      exact j0_lo (m + 1) s _ _ _ _ (by omega)

def toS (p : Nat × Nat) : S42 := ⟨p.1, p.2, !decide (p = ((65533, 1) : Nat × Nat))⟩
theorem first_list (s : ByteArray) (h : 0 < s.size) (m : Nat) : spoorref01_First.f (m + 4) s = some (((decodeL s.data.toList).1 : Int), ((decodeL s.data.toList).2 : Int), !decide (decodeL s.data.toList = (65533, 1))) := by
  have hn : s.data.toList.length = s.size := by simp
  rw [firstI_eq s h m, first_dec _ _ _ _ _ (s.data.toList.getD 0 0).toNat_lt (s.data.toList.getD 1 0).toNat_lt (s.data.toList.getD 2 0).toNat_lt (s.data.toList.getD 3 0).toNat_lt, decodeL_N, hn]
theorem runes_ref : ∀ (n : Nat) (s : ByteArray) (x : List S42) (k : Nat), s.size ≤ n → n + 5 ≤ k → x.length + s.size < 5864062014805 → spoorref01_Runes.l0 k s x = some (x ++ (runes s.data.toList).map toS)
  | n, s, x, 0, _, hk, _ => by omega
  | n, s, x, k + 1, hn, hk, hx => by
    simp only [spoorref01_Runes.l0]
    by_cases h : 0 < s.size
    · rw [if_pos (by omega)]
      obtain ⟨m, rfl⟩ : ∃ m, k = m + 4 := ⟨k - 4, by omega⟩
      rw [first_list s h m]
      have hne : s.data.toList ≠ [] := by
        intro e
        have h2 : s.data.toList.length = s.size := by simp
        rw [e] at h2
        simp at h2
        omega
      have hp := dw_pos s.data.toList hne
      have hle := decodeL_le s.data.toList hne
      have hsz : s.data.toList.length = s.size := by simp
      rw [hsz] at hle
      simp only [Option.bind_some]
      rw [if_pos (by omega), if_pos (by omega), if_pos (by omega), Int.toNat_natCast]
      have hxs : (s.extract (decodeL s.data.toList).2 s.size).size = s.size - (decodeL s.data.toList).2 := by simp
      cases n with
      | zero => omega
      | succ n =>
        rw [runes_ref n (s.extract (decodeL s.data.toList).2 s.size) _ (m + 4) (by omega) (by omega) (by rw [List.length_append, hxs]; simp; omega)]
        rw [extract_tl, runes_cons s.data.toList hne, List.map_cons, List.append_assoc]
        rfl
    · rw [if_neg (by omega)]
      have h2 : s.data.toList.length = s.size := by simp
      have e : s.data.toList = [] := List.eq_nil_of_length_eq_zero (by omega)
      rw [e, runes_nil]
      simp
theorem valid_loop (t : List S42) (ht : t.length < 4611686018427387904) : ∀ (d i k : Nat), t.length - i = d → i ≤ t.length → d < k → spoorref01_Valid.l0 k t (i : Int) = some ((t.drop i).all fun p => p.f2)
  | d, i, 0, _, _, hk => by omega
  | d, i, k + 1, hd, hi, hk => by
    simp only [spoorref01_Valid.l0]
    by_cases h : i < t.length
    · rw [if_pos (by omega), if_pos (by omega)]
      have hr : rd_T42 t (i : Int) = t[i] := by
        unfold rd_T42
        rw [Int.toNat_natCast, List.getD_eq_getElem?_getD, List.getElem?_eq_getElem h]
        rfl
      rw [hr, List.drop_eq_getElem_cons h, List.all_cons]
      by_cases hf : (t[i]).f2 = true
      · rw [if_pos hf, hf, Bool.true_and, show (wrap64 ((i : Int) + 1)) = ((i + 1 : Nat) : Int) by rw [wsmall _ (by omega) (by omega)]; omega]
        cases d with
        | zero => omega
        | succ d => exact valid_loop t ht d (i + 1) k (by omega) (by omega) (by omega)
      · have hff : (t[i]).f2 = false := by simpa using hf
        rw [if_neg hf, hff, Bool.false_and]
    · rw [if_neg (by omega), List.drop_eq_nil_of_le (by omega)]
      rfl
/-- The document's own 'UTF-8?'. -/
theorem rvalid_any (s : ByteArray) (w : World) (hs : s.size ≤ 1000000) : Calls Tryd.prog 16 #[.string s] w fun e w' => e = .returned (.bool (validP s.data.toList)) ∧ Below w.heap.size w w' := by
  have hc := count_le s.data.toList
  have hsz : s.data.toList.length = s.size := by simp
  rw [hsz] at hc
  have hlen : ((runes s.data.toList).map toS).length ≤ s.size := by rw [List.length_map]; exact hc
  refine spoorref01_Valid.calls (s.size + 6) s _ w ?_
  unfold spoorref01_Valid.f spoorref01_Runes.f
  rw [runes_ref s.size s [] (s.size + 6) (Nat.le_refl _) (by omega) (by simp; omega), Option.bind_some, List.nil_append]
  have h := valid_loop ((runes s.data.toList).map toS) (by omega) ((runes s.data.toList).map toS).length 0 (s.size + 6) (by omega) (by omega) (by omega)
  rw [Int.ofNat_zero] at h
  rw [h, List.drop_zero, List.all_map]
  rfl

end Go.Proofs.YtlnafmibopkilaaDoor
