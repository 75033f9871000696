/- Names: the document's own order, by a walk over the runes of both. -/
import Derived.Test.YtlnafmibopkilaaDoorTt
import Derived.Test.YtlnafmibopkilaaDoorUv
namespace Go.Proofs.YtlnafmibopkilaaDoor
open Go Go.Lib Go.RowKit Go.Proofs.YtlnafmibopkilaaDoorW.PrintWords Go.Proofs.YtlnafmibopkilaaDoor.PValid

def cmpZ (p q : S42) : Int := if p.f0 < q.f0 then -1 else if q.f0 < p.f0 then 1 else if p.f1 < q.f1 then -1 else if q.f1 < p.f1 then 1 else 0
theorem cmpZ_to (p q : Nat × Nat) : cmpZ (toS p) (toS q) = cmp2 p q := by
  unfold cmpZ cmp2 compareInt toS
  simp only
  repeat' split
  all_goals omega
theorem lex_map : ∀ x y : List (Nat × Nat), lexL cmpZ (x.map toS) (y.map toS) = lexL cmp2 x y
  | [], [] => rfl
  | [], _ :: _ => rfl
  | _ :: _, [] => rfl
  | a :: x, b :: y => by
    simp only [List.map_cons, lexL]
    rw [cmpZ_to, lex_map x y]
theorem order_rl (x y : ByteArray) : orderP x.data.toList y.data.toList = if lexL cmpZ (rl x) (rl y) = 0 then cmpS x.data.toList y.data.toList else lexL cmpZ (rl x) (rl y) := by
  rw [order_then]
  unfold thenC rl
  rw [lex_map]

theorem lex_step {α : Type} (c : α → α → Int) (P C : Int) (t u : α) (S T : List α) (h : P = if lexL c (t :: S) (u :: T) = 0 then C else lexL c (t :: S) (u :: T)) :
    (c t u = -1 → P = -1) ∧ (c t u = 1 → P = 1) ∧ (c t u = 0 → P = if lexL c S T = 0 then C else lexL c S T) := by
  have e : lexL c (t :: S) (u :: T) = if c t u = 0 then lexL c S T else c t u := rfl
  generalize lexL c (t :: S) (u :: T) = A at *
  subst e
  refine ⟨fun h1 => ?_, fun h1 => ?_, fun h1 => ?_⟩
  · rw [h1] at h; exact h
  · rw [h1] at h; exact h
  · rw [h1] at h; exact h
theorem cmpS_cases (x y : ByteArray) : (cmpS x.data.toList y.data.toList = -1 ∧ Op.bytesLess x.toList y.toList = true) ∨
    (cmpS x.data.toList y.data.toList = 0 ∧ Op.bytesLess x.toList y.toList = false ∧ (x.toList == y.toList) = true) ∨
    (cmpS x.data.toList y.data.toList = 1 ∧ Op.bytesLess x.toList y.toList = false ∧ (x.toList == y.toList) = false) := by
  rw [str_list x, str_list y]
  generalize x.data.toList = a at *
  generalize y.data.toList = b at *
  have he : cmpS a b = 0 → a = b := good_str.eq a b
  have hs : cmpS a a = 0 := good_str.self a
  by_cases h1 : Op.bytesLess a b = true
  · exact .inl ⟨by unfold cmpS; rw [if_pos h1], h1⟩
  · have h1f : Op.bytesLess a b = false := by simpa using h1
    by_cases h2 : a = b
    · subst h2
      exact .inr (.inl ⟨hs, h1f, by simp⟩)
    · exact .inr (.inr ⟨by unfold cmpS; rw [if_neg h1, if_neg h2], h1f, by simpa using h2⟩)
set_option maxRecDepth 100000 in
set_option maxHeartbeats 4000000 in
theorem rorder_any (x y : ByteArray) (w : World) (hx : x.size ≤ 1000000) (hy : y.size ≤ 1000000) :
    Calls Tryd.prog 20 #[.string x, .string y] w fun e w' => e = .returned (.int .i64 (orderP x.data.toList y.data.toList)) ∧ Below w.heap.size w w' := by
  obtain ⟨P, hP⟩ : ∃ P, P = orderP x.data.toList y.data.toList := ⟨_, rfl⟩
  rw [← hP]
  rw [order_rl] at hP
  have hX := fun W => rrunes_any x W hx
  have hY := fun W => rrunes_any y W hy
  have hlx := rl_le x
  have hly := rl_le y
  unfold RunesAt at hX hY
  generalize rl x = S at *
  generalize rl y = T at *
  have HR := Lib.hid (And.intro hX hY)
  have HP : Hid (P = if lexL cmpZ (S.drop (0 : Int).toNat) (T.drop (0 : Int).toNat) = 0 then cmpS x.data.toList y.data.toList else lexL cmpZ (S.drop (0 : Int).toNat) (T.drop (0 : Int).toNat)) := Lib.hid hP
  clear hX hY hP
  go_enter Tryd.func20, Tryd.ntmps20
  go_wp2_with fail
  go_at_call 14
  refine (HR.out.1 _).mono ?_
  rintro e w1 ⟨A, c, rfl, hrow, hb⟩
  have hrw := Lib.hid hrow; clear hrow
  have B1 := Lib.hid hb; clear hb
  go_wp2_with fail
  go_at_call 14
  refine (HR.out.2 _).mono ?_
  rintro e w2 ⟨A2, c2, rfl, hrow2, hb2⟩
  have hrw2 := Lib.hid hrow2; clear hrow2
  have hrw1 := Lib.hid (hrw.out.below hb2); clear hrw
  have B2 := Lib.hid (B1.out.trans (hb2.mono B1.out.size)); clear hb2 B1
  go_wp2_with fail
  go_loopw [7] (fun v wr => ∃ z : Int, v = .int .i64 z ∧ 0 ≤ z ∧ z ≤ (S.length : Int) ∧ z ≤ (T.length : Int) ∧ Hid (Below w2.heap.size w2 wr) ∧
    Hid (P = if lexL cmpZ (S.drop z.toNat) (T.drop z.toNat) = 0 then cmpS x.data.toList y.data.toList else lexL cmpZ (S.drop z.toNat) (T.drop z.toNat))) (fun v _ => S.length - (Lib.intOf v).toNat)
  case atStart => exact ⟨0, rfl, by omega, by omega, by omega, Lib.hid (Below.refl _ _), HP⟩
  case round =>
    obtain ⟨z, rfl, hz0, hzS, hzT, HB, HZ⟩ := hrel
    clear HP
    by_cases hz1 : z < (S.length : Int)
    · by_cases hz2 : z < (T.length : Int)
      · obtain ⟨ad, rfl, a0, a1, a2⟩ := (hrw1.out.below HB.out) z hz0 hz1
        obtain ⟨bd, rfl, b0, b1, b2⟩ := (hrw2.out.below HB.out) z hz0 hz2
        have hd1 := (rd_at S z hz0 hz1).1
        have hd2 := (rd_at T z hz0 hz2).1
        have hpz := HZ.out
        rw [hd1, hd2] at hpz
        have hls := lex_step _ _ _ _ _ _ _ hpz
        clear hpz
        clear hd1 hd2 HZ
        generalize rd_T42 S z = t at *
        generalize rd_T42 T z = u at *
        obtain ⟨r1, d1, kk1⟩ := t
        obtain ⟨r2, d2, kk2⟩ := u
        simp only at a0 a1 a2 b0 b1 b2
        have k1 : ∀ (p : Addr) (v : Value), wr.cell? p = some v → ∀ o, (wr.alloc o).cell? p = some v := fun p v h o => by rw [((Below.refl wr.heap.size wr).alloc (Nat.le_refl _) o).cell (cell_lt h)]; exact h
        have k2 : ∀ (p : Addr) (v : Value), wr.cell? p = some v → ∀ o o', ((wr.alloc o).alloc o').cell? p = some v := fun p v h o o' => by rw [(((Below.refl wr.heap.size wr).alloc (Nat.le_refl _) o).alloc (by simp) o').cell (cell_lt h)]; exact h
        have g0 := k1 _ _ a0
        have g1 := k1 _ _ a1
        have g2 := k1 _ _ a2
        have g3 := k1 _ _ b0
        have g4 := k1 _ _ b1
        have g5 := k1 _ _ b2
        have h0 := k2 _ _ a0
        have h1 := k2 _ _ a1
        have h2 := k2 _ _ a2
        have h3 := k2 _ _ b0
        have h4 := k2 _ _ b1
        have h5 := k2 _ _ b2
        clear k1 k2
        have B3 := Lib.hid (B2.out.trans (HB.out.mono B2.out.size))
        have hbs := B2.out.size
        rcases (by omega : r1 < r2 ∨ r2 < r1 ∨ (r1 = r2 ∧ d1 < d2) ∨ (r1 = r2 ∧ d2 < d1) ∨ (r1 = r2 ∧ d1 = d2)) with c1 | c1 | ⟨rfl, c1⟩ | ⟨rfl, c1⟩ | ⟨rfl, rfl⟩
        · have hp : P = -1 := hls.1 (show cmpZ ⟨r1, d1, kk1⟩ ⟨r2, d2, kk2⟩ = -1 by unfold cmpZ; simp only; rw [if_pos c1])
          subst hp
          clear hls
          go_wp2_with fail
          go_region
          all_goals
            go_wp2_with fail
            go_ret
            exact ⟨rfl, bdrew ((B3.out.alloc (Nat.le_trans hbs HB.out.size) _).alloc (by simp; exact Nat.le_trans hbs (Nat.le_succ_of_le HB.out.size)) _)⟩
        · have hp : P = 1 := hls.2.1 (show cmpZ ⟨r1, d1, kk1⟩ ⟨r2, d2, kk2⟩ = 1 by unfold cmpZ; simp only; rw [if_neg (by omega), if_pos c1])
          subst hp
          have c2 : (r1 == r2) = false := by simp; omega
          have c3 : ¬ r1 < r2 := by omega
          clear hls
          go_wp2_with fail
          go_region
          all_goals
            go_wp2_with fail
            go_ret
            exact ⟨rfl, bdrew ((B3.out.alloc (Nat.le_trans hbs HB.out.size) _).alloc (by simp; exact Nat.le_trans hbs (Nat.le_succ_of_le HB.out.size)) _)⟩
        · have hp : P = -1 := hls.1 (show cmpZ ⟨r1, d1, kk1⟩ ⟨r1, d2, kk2⟩ = -1 by unfold cmpZ; simp only; rw [if_neg (by omega), if_neg (by omega), if_pos c1])
          subst hp
          clear hls
          go_wp2_with fail
          go_region
          all_goals
            go_wp2_with fail
            go_ret
            exact ⟨rfl, bdrew ((B3.out.alloc (Nat.le_trans hbs HB.out.size) _).alloc (by simp; exact Nat.le_trans hbs (Nat.le_succ_of_le HB.out.size)) _)⟩
        · have hp : P = 1 := hls.2.1 (show cmpZ ⟨r1, d1, kk1⟩ ⟨r1, d2, kk2⟩ = 1 by unfold cmpZ; simp only; rw [if_neg (by omega), if_neg (by omega), if_neg (by omega), if_pos c1])
          subst hp
          have c3 : ¬ d1 < d2 := by omega
          clear hls
          go_wp2_with fail
          go_region
          all_goals
            go_wp2_with fail
            go_ret
            exact ⟨rfl, bdrew ((B3.out.alloc (Nat.le_trans hbs HB.out.size) _).alloc (by simp; exact Nat.le_trans hbs (Nat.le_succ_of_le HB.out.size)) _)⟩
        · have HN := Lib.hid (hls.2.2 (show cmpZ ⟨r1, d1, kk1⟩ ⟨r1, d1, kk2⟩ = 0 by unfold cmpZ; simp only; rw [if_neg (by omega), if_neg (by omega), if_neg (by omega), if_neg (by omega)]))
          clear hls
          go_wp2_with fail
          go_region
          all_goals
            go_wp2_with fail
            go_roundw
            case rel => exact ⟨z + 1, rfl, by omega, by omega, by omega, Lib.hid (bdrew ((HB.out.alloc HB.out.size _).alloc (by simp; exact Nat.le_succ_of_le HB.out.size) _)), HN⟩
            case measure => simp [Lib.intOf]; omega
      · have hp : P = 1 := by
          have h1 := HZ.out
          have e2 : T.drop z.toNat = [] := List.drop_eq_nil_of_le (by omega)
          rw [(rd_at S z hz0 hz1).1, e2] at h1
          exact h1
        subst hp
        have hl1 : (T.length : Int) < (S.length : Int) := by omega
        have B3 := Lib.hid (B2.out.trans (HB.out.mono B2.out.size))
        clear HZ HB
        go_wp2_with fail
        go_ret
        exact ⟨rfl, B3.out⟩
    · by_cases hz2 : (S.length : Int) < (T.length : Int)
      · have hp : P = -1 := by
          have h1 := HZ.out
          have e2 : S.drop z.toNat = [] := List.drop_eq_nil_of_le (by omega)
          rw [(rd_at T z hz0 (by omega)).1, e2] at h1
          exact h1
        subst hp
        have B3 := Lib.hid (B2.out.trans (HB.out.mono B2.out.size))
        clear HZ HB
        go_wp2_with fail
        go_ret
        exact ⟨rfl, B3.out⟩
      · have hp : P = cmpS x.data.toList y.data.toList := by
          have h1 := HZ.out
          rw [List.drop_eq_nil_of_le (by omega), List.drop_eq_nil_of_le (by omega)] at h1
          exact h1
        have B3 := Lib.hid (B2.out.trans (HB.out.mono B2.out.size))
        have hl1 : ¬ (T.length : Int) < (S.length : Int) := by omega
        clear HZ HB
        have hne : Op.bytesLess x.toList y.toList = true → (x.toList == y.toList) = false := by
          intro h1
          have h2 : ¬ x.toList = y.toList := by
            intro e
            have h3 := good_str.self x.data.toList
            rw [str_list, str_list] at e
            rw [str_list, str_list, ← e] at h1
            unfold cmpS at h3
            rw [if_pos h1] at h3
            omega
          simpa using h2
        rcases cmpS_cases x y with ⟨e, f1⟩ | ⟨e, f1, f2⟩ | ⟨e, f1, f2⟩
        all_goals
          rw [e] at hp
          subst hp
          clear e
          first | (have f3 := hne f1; clear hne) | clear hne
          go_wp2_with fail
          go_ret
          exact ⟨rfl, B3.out⟩
end Go.Proofs.YtlnafmibopkilaaDoor
