/- The plain law of the hash: sums byte by byte, priorities, the order of worth. -/
import Derived.Test.YtmkafeknhnpkaaaPHashTellsx2
namespace Go.Proofs.Ytmkafeknhnpkaaa
open Go.RowKit Go.Proofs.Ytmkafeknhnpkaaa.PHashTells Go.Proofs.YtmkafeknhnpkaaaW.PrintWords

def first : Int := 14695981039346656037
def stepF (x c : Int) : Int := IntKind.u64.wrap ((Go.bits .xor .u64 x (IntKind.u64.wrap c)) * 1099511628211)
def mo (x : Int) (l : List Int) : Int := l.foldl stepF x
theorem mo_append (x : Int) (l m : List Int) : mo x (l ++ m) = mo (mo x l) m := by simp [mo]

theorem rd_take_succ (l : List Int) (i : Nat) (h : i < l.length) : l.take (i + 1) = l.take i ++ [rd l i] := by
  rw [List.take_succ_eq_append_getElem h]
  simp [rd, List.getD_eq_getElem?_getD, List.getElem?_eq_getElem h]
theorem wrap_up {i : Nat} (h : i ≤ 9223372036854775000) : wrap64 ((i : Int) + 1) = ((i + 1 : Nat) : Int) := by unfold wrap64; omega

theorem more_row (l : List Int) (hl : l.length ≤ 140737488355328) (d : Nat) : ∀ (k i : Nat) (x : Int), l.length - i = d → i ≤ l.length → d < k → hash_more.l0 k (mo x (l.take i)) l (l.length : Int) i = some (mo x l) := by
  induction d with
  | zero =>
    intro k i x hd hi hk
    obtain ⟨k, rfl⟩ : ∃ m, k = m + 1 := ⟨k - 1, by omega⟩
    obtain rfl : i = l.length := by omega
    simp only [hash_more.l0]
    rw [if_neg (by omega), List.take_length]
  | succ d ih =>
    intro k i x hd hi hk
    obtain ⟨k, rfl⟩ : ∃ m, k = m + 1 := ⟨k - 1, by omega⟩
    simp only [hash_more.l0]
    rw [if_pos (by omega), if_pos (by omega), if_pos (by omega), wrap_up (by omega)]
    have e := ih k (i + 1) x (by omega) (by omega) (by omega)
    rw [rd_take_succ l i (by omega), mo_append] at e
    exact e
theorem more_some (x : Int) (l : List Int) (hl : l.length ≤ 140737488355328) (k : Nat) (hk : l.length < k) : hash_more.f k x l = some (mo x l) := by
  have e := more_row l hl l.length k 0 x (by omega) (by omega) hk
  simpa [hash_more.f, mo] using e

theorem sum_row (s : ByteArray) (hl : s.size ≤ 140737488355328) (d : Nat) : ∀ (k i : Nat) (x : Int), s.size - i = d → i ≤ s.size → d < k → spoorref03_Sum.l0 k s (mo x ((bytesOf s).take i)) i = some (mo x (bytesOf s)) := by
  induction d with
  | zero =>
    intro k i x hd hi hk
    obtain ⟨k, rfl⟩ : ∃ m, k = m + 1 := ⟨k - 1, by omega⟩
    obtain rfl : i = s.size := by omega
    simp only [spoorref03_Sum.l0]
    rw [if_neg (by omega), ← bytesOf_length s, List.take_length]
  | succ d ih =>
    intro k i x hd hi hk
    obtain ⟨k, rfl⟩ : ∃ m, k = m + 1 := ⟨k - 1, by omega⟩
    simp only [spoorref03_Sum.l0]
    rw [if_pos (by omega), if_pos (by omega), wrap_up (by omega)]
    have e := ih k (i + 1) x (by omega) (by omega) (by omega)
    rw [rd_take_succ (bytesOf s) i (by rw [bytesOf_length]; omega), mo_append, rd_bytesOf] at e
    exact e
theorem sum_some (s : ByteArray) (hl : s.size ≤ 140737488355328) (k : Nat) (hk : s.size < k) : spoorref03_Sum.f k s = some (mo first (bytesOf s)) := by
  have e := sum_row s hl s.size k 0 first (by omega) (by omega) hk
  simpa [spoorref03_Sum.f, mo, first] using e

def b8 (s : Int) : List Int := [(s / 72057594037927936) % 256, (s / 281474976710656) % 256, (s / 1099511627776) % 256, (s / 4294967296) % 256, (s / 16777216) % 256, (s / 65536) % 256, (s / 256) % 256, s % 256]
def b4 (t : Int) : List Int := [(t / 16777216) % 256, (t / 65536) % 256, (t / 256) % 256, t % 256]
def prio (s t : Int) : Int := mo first (b8 s ++ b4 t)

theorem prio_step (k : Nat) (s t x : Int) (i : Nat) (a b : Int) (q : Int) (ha : a = i) (hb : b = a - 8) (hi : i ≤ 56) (hk : 1 < k) (hq : (s / 2 ^ i) % 256 = q) : hash_Priority.l0 (k + 1) s t x a = hash_Priority.l0 k s t (mo x [q]) b := by
  subst ha
  subst hb
  have e : shr .u64 s (i : Int) = s / 2 ^ i := by
    unfold shr
    have h : min ((i : Int).toNat) (IntKind.u64.bits) = i := by simp [IntKind.bits]; omega
    rw [h]
  have e2 : wrap64 ((i : Int) - 8) = (i : Int) - 8 := by unfold wrap64; omega
  simp only [hash_Priority.l0]
  rw [if_pos (by omega), if_pos (by omega), e, hq, more_some x [q] (by simp) k (by simpa using hk), e2]
  rfl
theorem prio_last (k : Nat) (s t x i : Int) (hi : i < 0) (hk : 4 < k) : hash_Priority.l0 (k + 1) s t x i = some (mo x (b4 t)) := by
  simp only [hash_Priority.l0]
  rw [if_neg (by omega), more_some x _ (by simp) k (by simpa using hk)]
  rfl
theorem prio_some (s t : Int) (k : Nat) (hk : 20 < k) : hash_Priority.f k s t = some (prio s t) := by
  obtain ⟨k, rfl⟩ : ∃ m, k = m + 9 := ⟨k - 9, by omega⟩
  unfold hash_Priority.f
  rw [prio_step (k + 8) s t _ 56 _ 48 ((s / 72057594037927936) % 256) (by omega) (by omega) (by omega) (by omega) rfl,
    prio_step (k + 7) s t _ 48 _ 40 ((s / 281474976710656) % 256) (by omega) (by omega) (by omega) (by omega) rfl,
    prio_step (k + 6) s t _ 40 _ 32 ((s / 1099511627776) % 256) (by omega) (by omega) (by omega) (by omega) rfl,
    prio_step (k + 5) s t _ 32 _ 24 ((s / 4294967296) % 256) (by omega) (by omega) (by omega) (by omega) rfl,
    prio_step (k + 4) s t _ 24 _ 16 ((s / 16777216) % 256) (by omega) (by omega) (by omega) (by omega) rfl,
    prio_step (k + 3) s t _ 16 _ 8 ((s / 65536) % 256) (by omega) (by omega) (by omega) (by omega) rfl,
    prio_step (k + 2) s t _ 8 _ 0 ((s / 256) % 256) (by omega) (by omega) (by omega) (by omega) rfl,
    prio_step (k + 1) s t _ 0 _ (-8) (s % 256) (by omega) (by omega) (by omega) (by omega) (by simp),
    prio_last k s t _ (-8) (by omega) (by omega)]
  unfold prio b8 b4 first
  simp only [mo, List.foldl_cons, List.foldl_nil, List.cons_append, List.nil_append]

theorem bytes_step (k : Nat) (s : Int) (l : List Int) (i : Nat) (a b : Int) (q : Int) (ha : a = i) (hb : b = a - 1) (hi : i ≤ 7) (hl : l.length < 100) (hq : (s / 2 ^ (8 * i)) % 256 = q) : spoorref03_bytes.l0 (k + 1) s l a = spoorref03_bytes.l0 k s (l ++ [q]) b := by
  subst ha
  subst hb
  have e0 : wrap64 (8 * (i : Int)) = ((8 * i : Nat) : Int) := by unfold wrap64; omega
  have e : shr .u64 s ((8 * i : Nat) : Int) = s / 2 ^ (8 * i) := by
    unfold shr
    have h : min (((8 * i : Nat) : Int).toNat) (IntKind.u64.bits) = 8 * i := by simp [IntKind.bits]; omega
    rw [h]
  have e2 : wrap64 ((i : Int) - 1) = (i : Int) - 1 := by unfold wrap64; omega
  simp only [spoorref03_bytes.l0]
  rw [if_pos (by omega), e0, if_pos (by omega), if_pos (by omega), e, hq, e2]
theorem bytes_last (k : Nat) (s : Int) (l : List Int) (i : Int) (hi : i < 0) : spoorref03_bytes.l0 (k + 1) s l i = some (strOfNums l) := by
  simp only [spoorref03_bytes.l0]
  rw [if_neg (by omega)]
theorem bytes8 (s : Int) (k : Nat) (hk : 20 < k) : spoorref03_bytes.f k s 8 = some (strOfNums (b8 s)) := by
  obtain ⟨k, rfl⟩ : ∃ m, k = m + 9 := ⟨k - 9, by omega⟩
  unfold spoorref03_bytes.f
  rw [bytes_step (k + 8) s _ 7 _ 6 ((s / 72057594037927936) % 256) (by unfold wrap64; omega) (by unfold wrap64; omega) (by omega) (by simp) rfl,
    bytes_step (k + 7) s _ 6 _ 5 ((s / 281474976710656) % 256) (by omega) (by omega) (by omega) (by simp) rfl,
    bytes_step (k + 6) s _ 5 _ 4 ((s / 1099511627776) % 256) (by omega) (by omega) (by omega) (by simp) rfl,
    bytes_step (k + 5) s _ 4 _ 3 ((s / 4294967296) % 256) (by omega) (by omega) (by omega) (by simp) rfl,
    bytes_step (k + 4) s _ 3 _ 2 ((s / 16777216) % 256) (by omega) (by omega) (by omega) (by simp) rfl,
    bytes_step (k + 3) s _ 2 _ 1 ((s / 65536) % 256) (by omega) (by omega) (by omega) (by simp) rfl,
    bytes_step (k + 2) s _ 1 _ 0 ((s / 256) % 256) (by omega) (by omega) (by omega) (by simp) rfl,
    bytes_step (k + 1) s _ 0 _ (-1) (s % 256) (by omega) (by omega) (by omega) (by simp) (by simp),
    bytes_last k s _ (-1) (by omega)]
  rfl
theorem bytes4 (t : Int) (k : Nat) (hk : 20 < k) : spoorref03_bytes.f k (IntKind.u64.wrap t) 4 = some (strOfNums (b4 t)) := by
  obtain ⟨k, rfl⟩ : ∃ m, k = m + 5 := ⟨k - 5, by omega⟩
  have hw : IntKind.u64.wrap t = t % 18446744073709551616 := by simp [IntKind.wrap, IntKind.signed, IntKind.bits]
  rw [hw]
  unfold spoorref03_bytes.f
  generalize hu : t % 18446744073709551616 = u
  rw [bytes_step (k + 4) u _ 3 _ 2 ((t / 16777216) % 256) (by unfold wrap64; omega) (by unfold wrap64; omega) (by omega) (by simp) (by show (u / 16777216) % 256 = _; omega),
    bytes_step (k + 3) u _ 2 _ 1 ((t / 65536) % 256) (by omega) (by omega) (by omega) (by simp) (by show (u / 65536) % 256 = _; omega),
    bytes_step (k + 2) u _ 1 _ 0 ((t / 256) % 256) (by omega) (by omega) (by omega) (by simp) (by show (u / 256) % 256 = _; omega),
    bytes_step (k + 1) u _ 0 _ (-1) (t % 256) (by omega) (by omega) (by omega) (by simp) (by simp; omega),
    bytes_last k u _ (-1) (by omega)]
  rfl

theorem bytesOf_strOfNums (l : List Int) (h : ∀ x ∈ l, 0 ≤ x ∧ x < 256) : bytesOf (strOfNums l) = l := by
  unfold bytesOf strOfNums
  simp
  apply List.ext_getElem
  · simp
  · intro i h1 h2
    have := h l[i] (List.getElem_mem h2)
    simp
    omega
theorem bytesOf_append (s t : ByteArray) : bytesOf (s ++ t) = bytesOf s ++ bytesOf t := by simp [bytesOf]
theorem b8_rng (s : Int) : ∀ x ∈ b8 s, 0 ≤ x ∧ x < 256 := by
  intro x hx
  simp [b8] at hx
  omega
theorem b4_rng (s : Int) : ∀ x ∈ b4 s, 0 ≤ x ∧ x < 256 := by
  intro x hx
  simp [b4] at hx
  omega
theorem rprio_some (s t : Int) (k : Nat) (hk : 20 < k) : spoorref03_Priority.f k s t = some (prio s t) := by
  unfold spoorref03_Priority.f
  rw [bytes8 s k hk, bytes4 t k hk]
  have h8 : (strOfNums (b8 s)).size = 8 := by rw [strOfNums_size]; rfl
  have h4 : (strOfNums (b4 t)).size = 4 := by rw [strOfNums_size]; rfl
  simp only [Option.bind_some]
  rw [h8, h4, if_pos (by omega), sum_some _ (by rw [ByteArray.size_append, h8, h4]; omega) k (by rw [ByteArray.size_append, h8, h4]; omega), bytesOf_append, bytesOf_strOfNums _ (b8_rng s), bytesOf_strOfNums _ (b4_rng t)]
  rfl

def cmpI (x y : Int) : Int := if x < y then -1 else if x > y then 1 else 0
def wcmp (s a b : Int) : Int := if cmpI (prio s a) (prio s b) = 0 then cmpI a b else cmpI (prio s a) (prio s b)
def wless (s a b : Int) : Bool := decide (prio s a < prio s b ∨ prio s a = prio s b ∧ a < b)
theorem wcmp_lt (s a b : Int) : decide (wcmp s a b < 0) = wless s a b := by
  unfold wcmp wless cmpI
  apply decide_eq_decide.2
  generalize prio s a = p
  generalize prio s b = q
  by_cases h1 : p < q
  · simp [h1]
  · by_cases h2 : q < p
    · simp [h1, h2]; omega
    · have h3 : p = q := by omega
      subst h3
      by_cases h4 : a < b
      · simp [h4]
      · by_cases h5 : b < a
        · simp [h4, h5]
        · simp [h4, h5]
theorem cmpu_some (a b : Int) : cmp_Compare_uint64.f a b = some (cmpI a b) := by
  simp [cmp_Compare_uint64.f, cmp_isNaN_uint64.f, cmpI]
  by_cases h1 : a < b
  · simp [h1]
  · by_cases h2 : b < a <;> simp [h1, h2]
theorem cmpi_some (a b : Int) : cmp_Compare_int.f a b = some (cmpI a b) := by
  simp [cmp_Compare_int.f, cmp_isNaN_int.f, cmpI]
  by_cases h1 : a < b
  · simp [h1]
  · by_cases h2 : b < a <;> simp [h1, h2]
theorem or_some (a b : Int) (k : Nat) (hk : 3 < k) : cmp_Or_int.f k [a, b] = some (if a = 0 then b else a) := by
  obtain ⟨k, rfl⟩ : ∃ m, k = m + 3 := ⟨k - 3, by omega⟩
  unfold cmp_Or_int.f
  simp only [cmp_Or_int.l0, List.length_cons, List.length_nil]
  by_cases ha : a = 0
  · subst ha
    by_cases hb : b = 0
    · subst hb
      simp [rd, wrap64]
    · simp [rd, wrap64, hb]
  · simp [rd, wrap64, ha]
theorem compare_some (s a b : Int) (k : Nat) (hk : 20 < k) : hash_compare.f k s a b = some (wcmp s a b) := by
  unfold hash_compare.f wcmp
  rw [prio_some s a k hk, prio_some s b k hk]
  generalize prio s a = p
  generalize prio s b = q
  rw [Option.bind_some, Option.bind_some, cmpu_some, cmpi_some, Option.bind_some, Option.bind_some, or_some _ _ k (by omega), Option.bind_some]
theorem less_some (s a b : Int) (k : Nat) (hk : 20 < k) : hash_Less.f k s a b = some (wless s a b) := by
  unfold hash_Less.f
  rw [compare_some s a b k hk, Option.bind_some, wcmp_lt]
theorem rless_some (s a b : Int) (k : Nat) (hk : 20 < k) : spoorref03_Less.f k s a b = some (wless s a b) := by
  unfold spoorref03_Less.f wless
  rw [rprio_some s a k hk, rprio_some s b k hk]
  generalize prio s a = p
  generalize prio s b = q
  rw [Option.bind_some, Option.bind_some]
  by_cases h1 : p < q
  · simp [h1]
  · by_cases h2 : p = q
    · simp [h2]
    · simp [h1, h2]
def leastG (f : Int → Int → Bool) (m : Int) (l : List Int) : Int := l.foldl (fun m x => if f x m then x else m) m
theorem leastG_cons (f : Int → Int → Bool) (m x : Int) (l : List Int) : leastG f m (x :: l) = leastG f (if f x m then x else m) l := rfl
theorem leastG_self (f : Int → Int → Bool) (x : Int) (l : List Int) : leastG f x (x :: l) = leastG f x l := by rw [leastG_cons, ite_self]
theorem leastG_take1 (f : Int → Int → Bool) (x : Int) (l : List Int) : leastG f x ((x :: l).take 1) = x := by
  rw [List.take_succ_cons, List.take_zero, leastG_self]
  rfl
theorem leastG_snoc (f : Int → Int → Bool) (m x : Int) (l : List Int) : leastG f m (l ++ [x]) = if f x (leastG f m l) then x else leastG f m l := by
  unfold leastG
  rw [List.foldl_append]
  rfl
def leastF (s m : Int) (l : List Int) : Int := leastG (wless s) m l
def least (s : Int) : List Int → Int
  | [] => -1
  | x :: l => leastF s x l
theorem wless_irr (s a : Int) : wless s a a = false := by simp [wless]
theorem rd_drop (l : List Int) (i : Nat) (h : i < l.length) : l.drop i = rd l i :: l.drop (i + 1) := by
  rw [List.drop_eq_getElem_cons h]
  simp [rd, List.getD_eq_getElem?_getD, List.getElem?_eq_getElem h]
theorem rleast_row (s : Int) (l : List Int) (hl : l.length ≤ 140737488355328) (d : Nat) : ∀ (k i : Nat) (m : Int), l.length - i = d → i ≤ l.length → d + 20 < k → spoorref03_Least.l0 k s l m i = some (leastF s m (l.drop i)) := by
  induction d with
  | zero =>
    intro k i x hd hi hk
    obtain ⟨k, rfl⟩ : ∃ m, k = m + 1 := ⟨k - 1, by omega⟩
    obtain rfl : i = l.length := by omega
    simp only [spoorref03_Least.l0]
    rw [if_neg (by omega), List.drop_length]
    rfl
  | succ d ih =>
    intro k i x hd hi hk
    obtain ⟨k, rfl⟩ : ∃ m, k = m + 1 := ⟨k - 1, by omega⟩
    simp only [spoorref03_Least.l0]
    rw [if_pos (by omega), if_pos (by omega), rless_some _ _ _ k (by omega), Option.bind_some, wrap_up (by omega), ih k (i + 1) _ (by omega) (by omega) (by omega), ih k (i + 1) _ (by omega) (by omega) (by omega), rd_drop l i (by omega)]
    unfold leastF
    rw [leastG_cons]
    by_cases h : wless s (rd l i) x = true
    · rw [if_pos h, if_pos h]
    · rw [if_neg h, if_neg h]
theorem rleast_some (s : Int) (l : List Int) (hl : l.length ≤ 140737488355328) (k : Nat) (hk : l.length + 20 < k) : spoorref03_Least.f k s l = some (least s l) := by
  unfold spoorref03_Least.f
  cases l with
  | nil => rfl
  | cons x l =>
    rw [if_neg (by simp; omega), if_pos (by simp)]
    have e := rleast_row s (x :: l) hl (x :: l).length k 0 (rd (x :: l) 0) (by omega) (by omega) hk
    rw [Int.natCast_zero] at e
    rw [e]
    show some (leastF s x (x :: l)) = some (leastF s x l)
    unfold leastF
    rw [leastG_self]
theorem rcheck_some (s : ByteArray) (hl : s.size ≤ 140737488355328) (k : Nat) (hk : s.size < k) : spoorref03_Check.f k s = some (Go.bits .xor .u32 ((mo first (bytesOf s) / 4294967296) % 4294967296) (mo first (bytesOf s) % 4294967296)) := by
  unfold spoorref03_Check.f
  rw [sum_some s hl k hk, Option.bind_some]

end Go.Proofs.Ytmkafeknhnpkaaa
