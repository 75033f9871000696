/- Names: the document's own Right and Cut, by walks over its runes. -/
import Derived.Test.YtlnafmibopkilaaDoorUt
import Derived.Test.YtlnafmibopkilaaDoorUw
namespace Go.Proofs.YtlnafmibopkilaaDoor
open Go Go.Lib Go.RowKit Go.Proofs.YtlnafmibopkilaaDoorW.PrintWords Go.Proofs.YtlnafmibopkilaaDoor.PValid

theorem cell_lt {w : World} {p : Addr} {v : Value} (h : w.cell? p = some v) : p.block < w.heap.size := by
  rcases Nat.lt_or_ge p.block w.heap.size with h2 | h2
  · exact h2
  · exfalso
    have h3 : w.heap[p.block]? = none := Array.getElem?_eq_none h2
    simp [World.cell?, h3] at h
/-- A row of the document's runes, as it lies in memory. -/
def Row (w : World) (A : Option Addr) (xs : List S42) : Prop := ∀ i : Int, 0 ≤ i → i < (xs.length : Int) → ∃ ad, A = some ad ∧ w.cell? (ad.add (i.toNat * 3)) = some (.int .i64 (rd_T42 xs i).f0) ∧
  w.cell? ⟨(ad.add (i.toNat * 3)).block, (ad.add (i.toNat * 3)).off + 1, none⟩ = some (.int .i64 (rd_T42 xs i).f1) ∧ w.cell? ⟨(ad.add (i.toNat * 3)).block, (ad.add (i.toNat * 3)).off + 2, none⟩ = some (.bool (rd_T42 xs i).f2)
theorem Row.below {w w' : World} {A : Option Addr} {xs : List S42} (h : Row w A xs) (hb : Below w.heap.size w w') : Row w' A xs := by
  intro i h0 h1
  obtain ⟨ad, e, c0, c1, c2⟩ := h i h0 h1
  exact ⟨ad, e, by rw [hb.cell (cell_lt c0)]; exact c0, by rw [hb.cell (cell_lt c1)]; exact c1, by rw [hb.cell (cell_lt c2)]; exact c2⟩
def rl (s : ByteArray) : List S42 := (runes s.data.toList).map toS
theorem rl_len (s : ByteArray) : (rl s).length = (runes s.data.toList).length := by unfold rl; rw [List.length_map]
theorem rl_le (s : ByteArray) : (rl s).length ≤ s.size := by
  have hc := count_le s.data.toList
  have hsz : s.data.toList.length = s.size := by simp
  rw [hsz] at hc
  rw [rl_len]
  exact hc
def RunesAt (s : ByteArray) (w : World) (e : Ending) (w' : World) : Prop := ∃ A c, e = .returned (.slice A (rl s).length c) ∧ Row w' A (rl s) ∧ Below w.heap.size w w'
theorem rrunes_any (s : ByteArray) (w : World) (hs : s.size ≤ 1000000) : Calls Tryd.prog 14 #[.string s] w (RunesAt s w) := by
  have hc := count_le s.data.toList
  have hsz : s.data.toList.length = s.size := by simp
  rw [hsz] at hc
  refine (spoorref01_Runes.calls (s.size + 6) s (rl s) w ?_).mono fun e w' h => ?_
  · unfold spoorref01_Runes.f
    rw [runes_ref s.size s [] (s.size + 6) (Nat.le_refl _) (by omega) (by simp; omega), List.nil_append]
    rfl
  · obtain ⟨v, he, hR, hb⟩ := h
    obtain ⟨A, c, rfl⟩ := Kd.R_slice hR
    exact ⟨A, c, he, fun i h0 h1 => at_T42 (Kd.R_reads' hR).2.2 i h0 h1, hb⟩
theorem rd_at (T : List S42) (z : Int) (h0 : 0 ≤ z) (h1 : z < (T.length : Int)) : T.drop z.toNat = rd_T42 T z :: T.drop (z + 1).toNat ∧ rd_T42 T z ∈ T := by
  have hl : z.toNat < T.length := by omega
  have e : rd_T42 T z = T[z.toNat] := by
    unfold rd_T42
    rw [List.getD_eq_getElem?_getD, List.getElem?_eq_getElem hl]
    rfl
  rw [e, show (z + 1).toNat = z.toNat + 1 by omega]
  exact ⟨List.drop_eq_getElem_cons hl, List.getElem_mem hl⟩
theorem rl_bad (s : ByteArray) (t : S42) (h : t ∈ rl s) (hb : t.f2 = false) : t.f0 = 65533 := by
  unfold rl at h
  obtain ⟨p, _, rfl⟩ := List.mem_map.1 h
  have hb2 : (!decide (p = ((65533, 1) : Nat × Nat))) = false := hb
  have hp : p = ((65533, 1) : Nat × Nat) := by simpa using hb2
  rw [hp]
  rfl

def letterZ (r : Int) : Bool := (decide (97 ≤ r) && decide (r ≤ 122)) || (decide (65 ≤ r) && decide (r ≤ 90)) || (decide (48 ≤ r) && decide (r ≤ 57)) || decide (r = 45) || (decide (192 ≤ r) && decide (r ≤ 591))
theorem letterZ_yes (r : Int) (h : (97 ≤ r ∧ r ≤ 122) ∨ (65 ≤ r ∧ r ≤ 90) ∨ (48 ≤ r ∧ r ≤ 57) ∨ r = 45 ∨ (192 ≤ r ∧ r ≤ 591)) : letterZ r = true := by
  unfold letterZ
  simp
  omega
theorem letterZ_no (r : Int) (h : ¬ ((97 ≤ r ∧ r ≤ 122) ∨ (65 ≤ r ∧ r ≤ 90) ∨ (48 ≤ r ∧ r ≤ 57) ∨ r = 45 ∨ (192 ≤ r ∧ r ≤ 591))) : letterZ r = false := by
  rw [Bool.eq_false_iff]
  intro e
  unfold letterZ at e
  simp at e
  omega
def goodS (t : S42) : Bool := t.f2 && letterZ t.f0
theorem goodS_to (p : Nat × Nat) : goodS (toS p) = letterP p.1 := by
  unfold goodS toS
  show ((!decide (p = ((65533, 1) : Nat × Nat))) && letterZ (p.1 : Int)) = letterP p.1
  by_cases hp : p = ((65533, 1) : Nat × Nat)
  · rw [hp]; rfl
  · rw [decide_eq_false hp, Bool.not_false, Bool.true_and]
    unfold letterZ letterP
    rw [Bool.eq_iff_iff]
    simp
    omega
def EndR (n : Nat) : Bool := decide (1 ≤ n) && decide (n ≤ 16)
theorem right_rl (s : ByteArray) : rightP s.data.toList = ((rl s).all goodS && EndR (rl s).length) := by
  unfold rightP EndR rl
  rw [List.all_map, List.length_map, Bool.and_assoc]
  congr 1
  congr 1
  funext p
  exact (goodS_to p).symm

set_option maxRecDepth 100000 in
set_option maxHeartbeats 4000000 in
theorem rright_any (s : ByteArray) (w : World) (hs : s.size ≤ 1000000) :
    Calls Tryd.prog 12 #[.string s] w fun e w' => e = .returned (.bool (rightP s.data.toList)) ∧ Below w.heap.size w w' := by
  obtain ⟨P, hP⟩ : ∃ P, P = rightP s.data.toList := ⟨_, rfl⟩
  rw [← hP]
  rw [right_rl] at hP
  have hR := fun W => rrunes_any s W hs
  have hbad := rl_bad s
  have hlen := rl_le s
  unfold RunesAt at hR
  generalize rl s = T at *
  have HR := Lib.hid (And.intro hR hbad)
  have HP : Hid (P = ((T.drop (0 : Int).toNat).all goodS && EndR T.length)) := Lib.hid hP
  clear hR hbad hP
  go_enter Tryd.func12, Tryd.ntmps12
  go_wp2_with fail
  go_at_call 14
  refine (HR.out.1 _).mono ?_
  rintro e w1 ⟨A, c, rfl, hrow, hb⟩
  have hrw := Lib.hid hrow; clear hrow
  go_wp2_with fail
  go_loop [4] (fun v => ∃ z : Int, v = .int .i64 z ∧ 0 ≤ z ∧ z ≤ (T.length : Int) ∧ Hid (P = ((T.drop z.toNat).all goodS && EndR T.length))) (fun v => T.length - (Lib.intOf v).toNat)
  case atStart => exact ⟨0, rfl, by omega, by omega, HP⟩
  case round =>
    obtain ⟨z, rfl, hz0, hz1, HZ⟩ := hrel
    clear HP
    by_cases hz : z < (T.length : Int)
    · obtain ⟨ad, rfl, c0, c1, c2⟩ := hrw.out z hz0 hz
      obtain ⟨hd, hmem⟩ := rd_at T z hz0 hz
      have hbd := HR.out.2 _ hmem
      have hpz := HZ.out
      rw [hd, List.all_cons] at hpz
      clear hd hmem HZ
      generalize rd_T42 T z = t at *
      obtain ⟨r, wd, ok⟩ := t
      simp only at c0 c1 c2 hbd
      unfold goodS at hpz
      simp only at hpz
      cases ok
      · have hr := hbd rfl
        subst hr
        have hp : P = false := hpz
        subst hp
        clear hpz hbd c1
        go_wp2_with fail
        go_ret
        exact ⟨rfl, hb⟩
      · clear hbd
        by_cases hl : (97 ≤ r ∧ r ≤ 122) ∨ (65 ≤ r ∧ r ≤ 90) ∨ (48 ≤ r ∧ r ≤ 57) ∨ r = 45 ∨ (192 ≤ r ∧ r ≤ 591)
        · rw [letterZ_yes r hl, Bool.true_and, Bool.true_and] at hpz
          have HN : Hid (P = ((T.drop (z + 1).toNat).all goodS && EndR T.length)) := Lib.hid hpz
          clear hpz
          rcases hl with ⟨h1, h2⟩ | ⟨h1, h2⟩ | ⟨h1, h2⟩ | rfl | ⟨h1, h2⟩
          all_goals
            go_wp2_with fail
            go_round
            case rel => exact ⟨z + 1, rfl, by omega, by omega, HN⟩
            case measure => simp [Lib.intOf]; omega
        · rw [letterZ_no r hl] at hpz
          have hp : P = false := by rw [hpz]; simp
          subst hp
          clear hpz
          rcases (by omega : r < 45 ∨ (45 < r ∧ r < 48) ∨ (57 < r ∧ r < 65) ∨ (90 < r ∧ r < 97) ∨ (122 < r ∧ r < 192) ∨ 591 < r) with h1 | ⟨h1, h2⟩ | ⟨h1, h2⟩ | ⟨h1, h2⟩ | ⟨h1, h2⟩ | h1
          all_goals
            have h45 : (r == 45) = false := by simp; omega
            first | (have d0 : decide (r ≤ 122) = true := decide_eq_true (by omega)) | (have d0 : decide (r ≤ 122) = false := decide_eq_false (by omega))
            first | (have d1 : decide (r ≤ 90) = true := decide_eq_true (by omega)) | (have d1 : decide (r ≤ 90) = false := decide_eq_false (by omega))
            first | (have d2 : decide (r ≤ 57) = true := decide_eq_true (by omega)) | (have d2 : decide (r ≤ 57) = false := decide_eq_false (by omega))
            first | (have d3 : decide (r ≤ 591) = true := decide_eq_true (by omega)) | (have d3 : decide (r ≤ 591) = false := decide_eq_false (by omega))
            clear hl
            go_wp2_with fail
            go_ret
            exact ⟨rfl, hb⟩
    · have hpz := HZ.out
      rw [List.drop_eq_nil_of_le (by omega), List.all_nil, Bool.true_and] at hpz
      unfold EndR at hpz
      clear HZ
      have hzd : decide (z < (T.length : Int)) = false := decide_eq_false hz
      rcases (by omega : T.length = 0 ∨ (1 ≤ T.length ∧ T.length ≤ 16) ∨ 16 < T.length) with h1 | ⟨h1, h2⟩ | h1
      · have hp : P = false := by rw [hpz, decide_eq_false (by omega)]; rfl
        subst hp
        have h2 : (T.length : Int) < 1 := by omega
        clear hpz h1
        go_wp2_with fail
        go_ret
        exact ⟨rfl, hb⟩
      · have hp : P = true := by rw [hpz, decide_eq_true h1, decide_eq_true h2]; rfl
        subst hp
        have h3 : (1 : Int) ≤ (T.length : Int) := by omega
        have h4 : (T.length : Int) ≤ 16 := by omega
        clear hpz
        go_wp2_with fail
        go_ret
        exact ⟨rfl, hb⟩
      · have hp : P = false := by rw [hpz, decide_eq_false (p := T.length ≤ 16) (by omega), Bool.and_false]
        subst hp
        have h3 : (1 : Int) ≤ (T.length : Int) := by omega
        have h4 : decide ((T.length : Int) ≤ 16) = false := decide_eq_false (by omega)
        clear hpz
        go_wp2_with fail
        go_ret
        exact ⟨rfl, hb⟩

theorem wsum_le : ∀ (n : Nat) (l : List UInt8), l.length ≤ n → wsum (runes l) = l.length
  | n, l, hn => by
    by_cases hne : l = []
    · subst hne; rfl
    · have hw := dw_pos l hne
      have hl : 0 < l.length := List.length_pos_iff.2 hne
      have hle := decodeL_le l hne
      cases n with
      | zero => omega
      | succ n =>
        rw [runes_cons l hne]
        show (decodeL l).2 + wsum _ = _
        rw [wsum_le n _ (by rw [List.length_drop]; omega), List.length_drop]
        omega
theorem wsum_take (l : List (Nat × Nat)) (k : Nat) : wsum (l.take k) ≤ wsum l := by
  have h := wsum_append (l.take k) (l.drop k)
  rw [List.take_append_drop] at h
  omega
theorem wsum_next (s : ByteArray) (z : Int) (h0 : 0 ≤ z) (h1 : z < ((rl s).length : Int)) : (rd_T42 (rl s) z).f1 = ((wsum ((runes s.data.toList).take (z + 1).toNat) : Nat) : Int) - ((wsum ((runes s.data.toList).take z.toNat) : Nat) : Int) := by
  rw [rl_len] at h1
  have hl : z.toNat < (runes s.data.toList).length := by omega
  rw [show (z + 1).toNat = z.toNat + 1 by omega, List.take_succ_eq_append_getElem hl, wsum_append]
  unfold rd_T42 rl
  rw [List.getD_eq_getElem?_getD, List.getElem?_map, List.getElem?_eq_getElem hl]
  show (((runes s.data.toList)[z.toNat].2 : Nat) : Int) = _
  simp [wsum]
  omega
def SumTo (s : ByteArray) (z : Int) : Nat := wsum ((runes s.data.toList).take z.toNat)
theorem SumTo_le (s : ByteArray) (z : Int) : SumTo s z ≤ s.size := by
  have h := wsum_take (runes s.data.toList) z.toNat
  rw [wsum_le s.data.toList.length _ (Nat.le_refl _)] at h
  have hsz : s.data.toList.length = s.size := by simp
  unfold SumTo
  omega
theorem SumTo_end (s : ByteArray) (z n : Int) (h0 : 0 ≤ z) (hz : z ≤ n ∨ z = 0) (h : ((rl s).length : Int) ≤ z ∨ n ≤ z) : cutS s n = s.extract 0 (SumTo s z) := by
  rw [rl_len] at h
  unfold cutS cutN SumTo
  rcases h with h | h
  · by_cases hn : z ≤ n
    · rw [List.take_of_length_le (by omega), List.take_of_length_le (by omega)]
    · have hz0 : z = 0 := by omega
      subst hz0
      have e : runes s.data.toList = [] := List.eq_nil_of_length_eq_zero (by omega)
      rw [e]
      simp
  · rw [show n.toNat = z.toNat by omega]

theorem ieq {a b : Int} (h : a = b) : Value.int .i64 a = .int .i64 b := by rw [h]
set_option maxRecDepth 100000 in
set_option maxHeartbeats 4000000 in
theorem rcut_any (s : ByteArray) (n : Int) (w : World) (hs : s.size ≤ 1000000) :
    Calls Tryd.prog 18 #[.string s, .int .i64 n] w fun e w' => e = .returned (.string (cutS s n)) ∧ Below w.heap.size w w' := by
  have hR := fun W => rrunes_any s W hs
  have hlen := rl_le s
  have hnx : ∀ z : Int, 0 ≤ z → z < ((rl s).length : Int) → (rd_T42 (rl s) z).f1 = ((SumTo s (z + 1) : Nat) : Int) - ((SumTo s z : Nat) : Int) := wsum_next s
  have hend := fun z => SumTo_end s z n
  have hle := SumTo_le s
  have h0 : SumTo s 0 = 0 := by unfold SumTo; simp [wsum]
  unfold RunesAt at hR
  generalize cutS s n = C at *
  generalize rl s = T at *
  generalize SumTo s = Q at *
  have HR := Lib.hid (And.intro hR (And.intro hnx (And.intro hend hle)))
  have H0 := Lib.hid h0
  clear hR hnx hend hle h0
  go_enter Tryd.func18, Tryd.ntmps18
  go_wp2_with fail
  go_at_call 14
  refine (HR.out.1 _).mono ?_
  rintro e w1 ⟨A, c, rfl, hrow, hb⟩
  have hrw := Lib.hid hrow; clear hrow
  go_wp2_with fail
  go_loop [6, 7] (fun v6 v7 => ∃ z : Int, v6 = .int .i64 ((Q z : Nat) : Int) ∧ v7 = .int .i64 z ∧ 0 ≤ z ∧ z ≤ (T.length : Int) ∧ (z ≤ n ∨ z = 0)) (fun _ v7 => T.length - (Lib.intOf v7).toNat)
  case atStart => exact ⟨0, ieq (by rw [H0.out]; rfl), rfl, by omega, by omega, .inr rfl⟩
  case round =>
    obtain ⟨z, rfl, rfl, hz0, hz1, hzn⟩ := hrel
    clear H0
    have hq0 := HR.out.2.2.2 z
    have hq1 := HR.out.2.2.2 (z + 1)
    by_cases hz : z < (T.length : Int)
    · by_cases hn : z < n
      · obtain ⟨ad, rfl, c0, c1, c2⟩ := hrw.out z hz0 hz
        have hdd := HR.out.2.1 z hz0 hz
        generalize (rd_T42 T z).f1 = d at *
        have hd1 : d ≤ ((Q (z + 1) : Nat) : Int) - ((Q z : Nat) : Int) := by omega
        have hd2 : ((Q (z + 1) : Nat) : Int) - ((Q z : Nat) : Int) ≤ d := by omega
        clear hdd c0 c2 hzn
        go_wp2_with fail
        go_round
        case rel => exact ⟨z + 1, ieq (by omega), rfl, by omega, by omega, .inl (by omega)⟩
        case measure => simp [Lib.intOf]; omega
      · have he := Lib.hid (HR.out.2.2.1 z hz0 hzn (.inr (by omega)))
        clear hzn
        go_wp2_with fail
        go_ret
        exact ⟨by rw [he.out]; rfl, hb⟩
    · have he := Lib.hid (HR.out.2.2.1 z hz0 hzn (.inl (by omega)))
      clear hzn
      go_wp2_with fail
      go_ret
      exact ⟨by rw [he.out]; rfl, hb⟩
end Go.Proofs.YtlnafmibopkilaaDoor
