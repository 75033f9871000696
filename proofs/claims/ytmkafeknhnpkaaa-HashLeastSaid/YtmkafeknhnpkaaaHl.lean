/- HashLeast, by a walk. -/
import Derived.Test.YtmkafeknhnpkaaaHo
namespace Go.Proofs.Ytmkafeknhnpkaaa
open Go.RowKit Go.Proofs.Ytmkafeknhnpkaaa.PHashTells Go.Proofs.YtmkafeknhnpkaaaW.PrintWords

def mf (n : Int) : Int := bits .and .i64 n 4294967295
theorem mf_nonneg (n : Int) : 0 ≤ mf n := by
  unfold mf
  have h32 : (BitVec.ofInt 64 4294967295).toNat = 2 ^ 32 - 1 := by decide
  have key : (BitVec.ofInt 64 n &&& BitVec.ofInt 64 4294967295).toNat = (n % ((2 ^ 64 : Nat) : Int)).toNat % 2 ^ 32 := by
    rw [BitVec.toNat_and, BitVec.toNat_ofInt, h32, Nat.and_two_pow_sub_one_eq_mod]
  show 0 ≤ IntKind.i64.wrap ((BitVec.ofInt 64 n &&& BitVec.ofInt 64 4294967295).toNat : Nat)
  rw [key, IntKind.wrap_i64]
  omega
theorem least_nn (s : Int) (l : List Int) (h : ∀ x ∈ l, 0 ≤ x) (hl : l ≠ []) : 0 ≤ least s l := h _ (least_mem s l hl)
theorem mf_all (l : List Int) : ∀ x ∈ l.map mf, 0 ≤ x := by
  intro x hx
  obtain ⟨y, _, rfl⟩ := List.mem_map.1 hx
  exact mf_nonneg y
theorem map_take_succ (l : List Int) (k : Nat) (h : k < l.length) : (l.take k).map mf ++ [mf (l.getD k 0)] = (l.take (k + 1)).map mf := by
  rw [rd_take_succ l k h, List.map_append]
  rfl
theorem any_take_succ (l : List Int) (k : Nat) (h : k < l.length) (f : Int → Bool) : (l.take (k + 1)).any f = ((l.take k).any f || f (rd l k)) := by
  rw [rd_take_succ l k h, List.any_append]
  simp

/-- An own row of integers with its capacity. -/
def Rw (w : World) (base : Nat) (A : Option Addr) (c : Nat) (X : List Int) : Prop := (Kd.int .i64).R 3 w base (fun _ => True) (.slice A X.length c) X ∧ X.length ≤ c
theorem Rw.fr {w w' : World} {base : Nat} {A : Option Addr} {c : Nat} {X : List Int} (h : Rw w base A c X) (hf : Fr (fun _ => False) w w') : Rw w' base A c X := ⟨Kd.R_below h.1 hf.bel, h.2⟩
theorem Rw.row {w : World} {base : Nat} {A : Option Addr} {c : Nat} {X : List Int} (h : Rw w base A c X) : (Kd.int .i64).C w A X.length X := (Kd.R_reads' h.1).2.2
theorem Rw.own {w u v : World} {base : Nat} {A : Option Addr} {c : Nat} {X : List Int} (h : Rw u base A c X) (hb : w.heap.size ≤ base) (k : Fr (fun _ => False) w u) (hf : Fr (fun i => some i = (Value.slice A X.length c).ownBlock) u v) : Fr (fun _ => False) w v :=
  k.own hf fun i e => Nat.le_trans hb (Kd.R_base h.1 i e.symm)

theorem leasts (seed : Int) (X Y : List Int) (lx ly al : Int) (h1 : lx = least seed X) (h2 : ly = least seed Y) (h3 : al = least seed (X ++ Y)) (hx : ∀ x ∈ X, 0 ≤ x) (hy : ∀ x ∈ Y, 0 ≤ x) :
    (X.length = 0 ∧ Y.length = 0 ∧ lx = -1 ∧ ly = -1 ∧ al = -1) ∨ (X.length = 0 ∧ 0 < Y.length ∧ lx = -1 ∧ al = ly ∧ 0 ≤ ly) ∨ (0 < X.length ∧ Y.length = 0 ∧ ly = -1 ∧ al = lx ∧ 0 ≤ lx) ∨ (0 < X.length ∧ 0 < Y.length ∧ al = mn seed ly lx ∧ al ∈ X ++ Y) := by
  have hm := least_mem seed (X ++ Y)
  rw [← h3] at hm
  have hxn := least_nn seed X hx
  have hyn := least_nn seed Y hy
  rw [← h1] at hxn
  rw [← h2] at hyn
  by_cases ex : X = []
  · by_cases ey : Y = []
    · subst ex ey
      exact .inl ⟨rfl, rfl, h1, h2, h3⟩
    · have hy0 : 0 < Y.length := List.length_pos_iff.2 ey
      subst ex
      exact .inr (.inl ⟨rfl, hy0, h1, by rw [h3, h2]; rfl, hyn ey⟩)
  · have hx0 : 0 < X.length := List.length_pos_iff.2 ex
    by_cases ey : Y = []
    · subst ey
      exact .inr (.inr (.inl ⟨hx0, rfl, h2, by rw [h3, h1, List.append_nil], hxn ex⟩))
    · have hy0 : 0 < Y.length := List.length_pos_iff.2 ey
      exact .inr (.inr (.inr ⟨hx0, hy0, by rw [h3, h2, h1]; exact least_append seed X Y ex ey, hm (by simp [ex])⟩))

theorem app_first (w : World) (A8 : Option Addr) (c8 : Nat) (X : List Int) (w8 : World) (hr : (Kd.int .i64).R 3 w8 w.heap.size (fun _ => True) (.slice A8 (([] : List Int) ++ X).length c8) ([] ++ X)) (hl : (([] : List Int) ++ X).length ≤ c8) (hf : Fr (fun k => some k = (Value.slice (some ⟨w.heap.size, 0, none⟩) 0 0).ownBlock) (w.alloc (.cells #[] 3)) w8) : Rw w8 w.heap.size A8 c8 X ∧ Fr (fun _ => False) w w8 ∧ w.heap.size ≤ w8.heap.size :=
  have h : Fr (fun _ => False) w w8 := ((Fr.refl _ w).alloc (.cells #[] 3)).own hf fun i e => by
    have e2 : w.heap.size = i := by simpa [Value.ownBlock] using e.symm
    rw [← e2]; exact Nat.le_refl _
  ⟨⟨hr, hl⟩, h, h.size⟩

set_option maxRecDepth 100000 in
set_option maxHeartbeats 4000000 in
theorem least2_any (seed : Int) (A1 : Option Addr) (n1 c1 : Nat) (xs : List Int) (A2 : Option Addr) (n2 c2 : Nat) (ys : List Int) (w : World) (hx1 : RdC w A1 n1 c1 xs) (hx2 : RdC w A2 n2 c2 ys) :
    Calls Try.prog 6 #[.int .u64 seed, .slice A1 n1 c1, .slice A2 n2 c2] w fun e w' => e = .returned (.bool true) ∧ Fr (fun _ => False) w w' := by
  obtain ⟨hx, _⟩ := hx1
  obtain ⟨hy, _⟩ := hx2
  have hm1 : n1 ≤ 9223372036854775807 := by have := hx.2.1; unfold maxLen at this; exact this
  have hm2 : n2 ≤ 9223372036854775807 := by have := hy.2.1; unfold maxLen at this; exact this
  have HX := Lib.hid hx
  have HY := Lib.hid hy
  have HN : Hid (xs.length = n1 ∧ ys.length = n2) := Lib.hid ⟨hx.1, hy.1⟩
  clear hx hy
  by_cases h1 : 100 < n1
  · go_enter Try.func6, Try.ntmps6
    go_wp2_with fail
    go_at_call 7
    refine (awake_any _).mono ?_
    rintro e w1 ⟨rfl, hf1⟩
    go_wp2_with fail
    go_at_call 7
    refine (awake_any _).mono ?_
    rintro e w2 ⟨rfl, hf2⟩
    go_wp2_with fail
    go_ret
    exact ⟨rfl, hf1.trans hf2⟩
  · by_cases h2 : 100 < n2
    · go_enter Try.func6, Try.ntmps6
      go_wp2_with fail
      go_at_call 7
      refine (awake_any _).mono ?_
      rintro e w1 ⟨rfl, hf1⟩
      go_wp2_with fail
      go_at_call 7
      refine (awake_any _).mono ?_
      rintro e w2 ⟨rfl, hf2⟩
      go_wp2_with fail
      go_ret
      exact ⟨rfl, hf1.trans hf2⟩
    · go_enter Try.func6, Try.ntmps6
      go_wp2_with fail
      go_at_call 7
      refine (awake_any _).mono ?_
      rintro e w1 ⟨rfl, hf⟩
      have H1 := Lib.hid hf; clear hf
      go_wp2_with fail
      go_loopw [7, 35] (fun v i wr => ∃ (k : Nat) (X : List Int) (A7 : Option Addr) (c7 : Nat), X = (xs.take k).map mf ∧ k ≤ n1 ∧ i = .int .i64 k ∧ v = .slice A7 X.length c7 ∧ Rw wr w.heap.size A7 c7 X ∧ Fr (fun _ => False) w wr) (fun _ i _ => n1 - (intOf i).toNat)
      case atStart => exact ⟨0, [], none, 0, rfl, by omega, rfl, rfl, ⟨Kd.R_nil _ _ _ _ _, Nat.le_refl _⟩, H1.out⟩
      case round =>
        obtain ⟨k, X, A7, c7, hX, hk, rfl, rfl, hrw, hf⟩ := hrel
        have HR := Lib.hid (And.intro hX (And.intro hrw hf)); clear hX hrw hf
        by_cases hlt : k < n1
        · obtain ⟨ad, rfl, hc⟩ := HX.out.at HR.out.2.2 hlt
          obtain ⟨y, hy⟩ : ∃ y, y = xs.getD k 0 := ⟨_, rfl⟩
          rw [← hy] at hc
          have HYK := Lib.hid hy; clear hy
          have hxl : X.length = k := by rw [HR.out.1, List.length_map, List.length_take, HN.out.1]; omega
          have HSS : Hid (w.heap.size ≤ (wr.alloc (.cells #[.int .i64 (bits .and .i64 y 4294967295)] 3)).heap.size ∧ (X.length + 1) * 8 ≤ 140737488355328) := Lib.hid ⟨Nat.le_trans HR.out.2.2.size (by simp), by omega⟩
          clear hxl
          have HO2 := Lib.hid (Kd.R_alloc HR.out.2.1.1 (.cells #[.int .i64 (bits .and .i64 y 4294967295)] 3))
          have HC2 := Lib.hid ((Kd.R_reads' (own_one wr (bits .and .i64 y 4294967295))).2.2)
          go_wp2_with (at_builtin; refine append_ints w.heap.size ?hw (.tmp 39) (.tmp 42) rfl (.slice A7 X.length c7) X [bits .and .i64 y 4294967295] (some ⟨wr.heap.size, 0, none⟩) 1 1 rfl rfl HO2.out HC2.out HSS.out.1 HSS.out.2 ?_; (case hw => rfl); intro A8 c8 w8 hr8 hc8 hl8 hf8; have H8 := Lib.hid (And.intro hr8 (And.intro hl8 hf8)); clear hr8 hc8 hl8 hf8)
          go_roundw
          case rel =>
            refine ⟨k + 1, X ++ [mf y], A8, c8, ?_, by omega, by go_num, by simp, ⟨H8.out.1, H8.out.2.1⟩, ?_⟩
            · rw [HR.out.1, HYK.out]; exact map_take_succ xs k (by rw [HN.out.1]; exact hlt)
            · exact Rw.own ⟨HO2.out, HR.out.2.1.2⟩ (Nat.le_refl _) (HR.out.2.2.alloc _) H8.out.2.2
          case measure => simp [intOf]; omega
        · have hXe : X = xs.map mf := by rw [HR.out.1, List.take_of_length_le (by rw [HN.out.1]; omega)]
          have hxl : X.length = n1 := by rw [hXe, List.length_map, HN.out.1]
          have HXE := Lib.hid (And.intro hXe (And.intro hxl HR.out.2)); clear hXe hxl
          clear HR
          obtain ⟨wa, hwa⟩ : ∃ wa, wa = wr := ⟨_, rfl⟩
          subst hwa
          go_wp2_with fail
          go_loopw [8, 47] (fun v i ws => ∃ (k : Nat) (Y : List Int) (A7 : Option Addr) (c7 : Nat), Y = (ys.take k).map mf ∧ k ≤ n2 ∧ i = .int .i64 k ∧ v = .slice A7 Y.length c7 ∧ Rw ws wa.heap.size A7 c7 Y ∧ Fr (fun _ => False) wa ws) (fun _ i _ => n2 - (intOf i).toNat)
          case atStart => exact ⟨0, [], none, 0, rfl, by omega, rfl, rfl, ⟨Kd.R_nil _ _ _ _ _, Nat.le_refl _⟩, Fr.refl _ _⟩
          case round =>
            obtain ⟨k2, Y, B7, d7, hY, hk2, rfl, rfl, hrw, hf⟩ := hrel
            have HR := Lib.hid (And.intro hY (And.intro hrw hf)); clear hY hrw hf
            by_cases hlt2 : k2 < n2
            · obtain ⟨ad, rfl, hc⟩ := HY.out.at (HXE.out.2.2.2.trans HR.out.2.2) hlt2
              obtain ⟨y, hy⟩ : ∃ y, y = ys.getD k2 0 := ⟨_, rfl⟩
              rw [← hy] at hc
              have HYK := Lib.hid hy; clear hy
              have hxl : Y.length = k2 := by rw [HR.out.1, List.length_map, List.length_take, HN.out.2]; omega
              have HSS : Hid (wa.heap.size ≤ (wr.alloc (.cells #[.int .i64 (bits .and .i64 y 4294967295)] 3)).heap.size ∧ (Y.length + 1) * 8 ≤ 140737488355328) := Lib.hid ⟨Nat.le_trans HR.out.2.2.size (by simp), by omega⟩
              clear hxl
              have HO2 := Lib.hid (Kd.R_alloc HR.out.2.1.1 (.cells #[.int .i64 (bits .and .i64 y 4294967295)] 3))
              have HC2 := Lib.hid ((Kd.R_reads' (own_one wr (bits .and .i64 y 4294967295))).2.2)
              go_wp2_with (at_builtin; refine append_ints wa.heap.size ?hw (.tmp 51) (.tmp 54) rfl (.slice B7 Y.length d7) Y [bits .and .i64 y 4294967295] (some ⟨wr.heap.size, 0, none⟩) 1 1 rfl rfl HO2.out HC2.out HSS.out.1 HSS.out.2 ?_; (case hw => rfl); intro A8 c8 w8 hr8 hc8 hl8 hf8; have H8 := Lib.hid (And.intro hr8 (And.intro hl8 hf8)); clear hr8 hc8 hl8 hf8)
              go_roundw
              case rel =>
                refine ⟨k2 + 1, Y ++ [mf y], A8, c8, ?_, by omega, by go_num, by simp, ⟨H8.out.1, H8.out.2.1⟩, ?_⟩
                · rw [HR.out.1, HYK.out]; exact map_take_succ ys k2 (by rw [HN.out.2]; exact hlt2)
                · exact Rw.own ⟨HO2.out, HR.out.2.1.2⟩ (Nat.le_refl _) (HR.out.2.2.alloc _) H8.out.2.2
              case measure => simp [intOf]; omega
            · have hYe : Y = ys.map mf := by rw [HR.out.1, List.take_of_length_le (by rw [HN.out.2]; omega)]
              have hyl : Y.length = n2 := by rw [hYe, List.length_map, HN.out.2]
              have HYE := Lib.hid (And.intro hYe (And.intro hyl HR.out.2)); clear hYe hyl
              clear HR
              have HXB := Lib.hid (And.intro (HXE.out.2.2.1.fr HYE.out.2.2.2) (And.intro (Nat.le_trans (by have := HXE.out.2.1; omega : X.length ≤ 100) (by decide : 100 ≤ 140737488355328)) (Nat.le_trans (by have := HYE.out.2.1; omega : Y.length ≤ 100) (by decide : 100 ≤ 140737488355328))))
              have HFB := Lib.hid (HXE.out.2.2.2.trans HYE.out.2.2.2)
              go_wp2_with fail
              go_at_call 14
              refine (least_any seed A7 c7 X _ HXB.out.1.row HXB.out.2.1).mono ?_
              obtain ⟨lx, hlx⟩ : ∃ m, m = least seed X := ⟨_, rfl⟩
              rw [← hlx]
              rintro e w9 ⟨rfl, hf⟩
              have H9 := Lib.hid (And.intro hlx hf); clear hlx hf
              go_wp2_with fail
              go_at_call 14
              refine (least_any seed B7 d7 Y _ (HYE.out.2.2.1.fr H9.out.2).row HXB.out.2.2).mono ?_
              obtain ⟨ly, hly⟩ : ∃ m, m = least seed Y := ⟨_, rfl⟩
              rw [← hly]
              rintro e w10 ⟨rfl, hf⟩
              have H10 := Lib.hid (And.intro hly (And.intro (H9.out.2.trans hf) (And.intro (HXB.out.1.fr (H9.out.2.trans hf)) (HYE.out.2.2.1.fr (H9.out.2.trans hf))))); clear hly hf
              have HSS : Hid (w10.heap.size ≤ (w10.alloc (.cells #[] 3)).heap.size ∧ (([] : List Int).length + X.length) * 8 ≤ 140737488355328 ∧ (X.length + Y.length) * 8 ≤ 140737488355328) := Lib.hid ⟨by simp, by have := HXE.out.2.1; simp; omega, by have := HXE.out.2.1; have := HYE.out.2.1; omega⟩
              have HXA := Lib.hid (Kd.C_alloc H10.out.2.2.1.row (.cells #[] 3))
              have HYA := Lib.hid (Kd.C_alloc H10.out.2.2.2.row (.cells #[] 3))
              have HW10 := Lib.hid (Nat.le_trans HFB.out.size H10.out.2.1.size)
              go_wp2_with (at_builtin; first | (refine append_ints w10.heap.size ?hw (.tmp 64) (.tmp 65) rfl (.slice (some ⟨w10.heap.size, 0, none⟩) 0 0) [] X A7 X.length c7 rfl rfl (own_empty w10) HXA.out HSS.out.1 HSS.out.2.1 ?_; (case hw => rfl); intro A8 c8 w8 hr8 hc8 hl8 hf8; have H8 : Hid (Rw w8 w10.heap.size A8 c8 X ∧ Fr (fun _ => False) w10 w8 ∧ w10.heap.size ≤ w8.heap.size) := Lib.hid (app_first w10 A8 c8 X w8 hr8 hl8 hf8); clear hr8 hc8 hl8 hf8) | (refine append_ints w10.heap.size ?hw (.tmp 66) (.tmp 67) rfl (.slice A8 X.length c8) X Y B7 Y.length d7 rfl rfl H8.out.1.1 (H10.out.2.2.2.fr H8.out.2.1).row H8.out.2.2 HSS.out.2.2 ?_; (case hw => rfl); intro A11 c11 w11 hr8 hc8 hl8 hf8; have H11 : Hid (Rw w11 w10.heap.size A11 c11 (X ++ Y) ∧ Fr (fun _ => False) w10 w11) := Lib.hid (And.intro ⟨hr8, hl8⟩ (Rw.own H8.out.1 (Nat.le_refl _) H8.out.2.1 hf8)); clear hr8 hc8 hl8 hf8))
              have hal := least_any seed A11 c11 (X ++ Y) w11 H11.out.1.row (by have := HXE.out.2.1; have := HYE.out.2.1; simp; omega)
              rw [List.length_append] at hal
              have HW11 := Lib.hid (And.intro H11.out.2 (HFB.out.trans (H10.out.2.1.trans H11.out.2))); clear H11
              obtain ⟨al, hall⟩ : ∃ m, m = least seed (X ++ Y) := ⟨_, rfl⟩
              rw [← hall] at hal
              have HAL := Lib.hid hall; clear hall
              go_at_call 14
              refine hal.mono ?_
              clear hal
              rintro e w12 ⟨rfl, hf⟩
              have HT12 := Lib.hid (HW11.out.1.trans hf)
              have H12 := Lib.hid (HW11.out.2.trans hf); clear hf
              have hcases : (X.length = 0 ∧ Y.length = 0 ∧ lx = -1 ∧ ly = -1 ∧ al = -1) ∨ (X.length = 0 ∧ 0 < Y.length ∧ lx = -1 ∧ al = ly ∧ 0 ≤ ly) ∨ (0 < X.length ∧ Y.length = 0 ∧ ly = -1 ∧ al = lx ∧ 0 ≤ lx) ∨ (0 < X.length ∧ 0 < Y.length ∧ al = mn seed ly lx ∧ al ∈ X ++ Y) := leasts seed X Y lx ly al H9.out.1 H10.out.1 HAL.out (by rw [HXE.out.1]; exact mf_all xs) (by rw [HYE.out.1]; exact mf_all ys)
              obtain ⟨p, hp⟩ : ∃ p, p = X.length := ⟨_, rfl⟩
              obtain ⟨q, hq⟩ : ∃ q, q = Y.length := ⟨_, rfl⟩
              rw [← hp, ← hq] at hcases
              rw [← hp, ← hq]
              have HPQ := Lib.hid (And.intro hp hq); clear hp hq
              rcases hcases with ⟨rfl, rfl, rfl, rfl, rfl⟩ | ⟨rfl, hq, rfl, rfl, hn⟩ | ⟨hp, rfl, rfl, rfl, hn⟩ | ⟨hp, hq, ha, hin⟩
              · go_wp2_with fail
                go_ret
                exact ⟨rfl, H12.out⟩
              · go_wp2_with fail
                go_ret
                exact ⟨rfl, H12.out⟩
              · go_wp2_with fail
                go_ret
                exact ⟨rfl, H12.out⟩
              · have HA := Lib.hid (And.intro ha hin); clear ha hin
                have hp2 : ((p : Int) == 0) = false := by simp; omega
                have hq2 : ((q : Int) == 0) = false := by simp; omega
                go_wp2_with fail
                go_at_call 16
                refine (less_any _ _ _ _).mono ?_
                rintro e w13 ⟨rfl, hf⟩
                have HT13 := Lib.hid (HT12.out.trans hf)
                have H13 := Lib.hid (H12.out.trans hf); clear hf
                have HXA : Hid ((Kd.int .i64).C (w13.alloc (.cells #[] 3)) A7 p X) := Lib.hid (by rw [HPQ.out.1]; exact Kd.C_alloc (H10.out.2.2.1.fr HT13.out).row _)
                have HYB : Hid (∀ v, Fr (fun _ => False) w13 v → (Kd.int .i64).C v B7 q Y) := Lib.hid (fun v hv => by rw [HPQ.out.2]; exact ((H10.out.2.2.2.fr HT13.out).fr hv).row)
                have HSS2 : Hid (w13.heap.size ≤ (w13.alloc (.cells #[] 3)).heap.size ∧ (([] : List Int).length + p) * 8 ≤ 140737488355328 ∧ (X.length + q) * 8 ≤ 140737488355328) := Lib.hid ⟨by simp, by have := HXE.out.2.1; have := HPQ.out.1; simp; omega, by have := HXE.out.2.1; have := HYE.out.2.1; have := HPQ.out.2; omega⟩
                have hb : (wless seed ly lx = true ∧ al = ly) ∨ (wless seed ly lx = false ∧ al = lx) := by
                  have h := HA.out.1
                  unfold mn at h
                  by_cases hw : wless seed ly lx = true
                  · rw [if_pos hw] at h; exact .inl ⟨hw, h⟩
                  · rw [if_neg hw] at h; exact .inr ⟨by simpa using hw, h⟩
                have HIN := Lib.hid HA.out.2
                rcases hb with ⟨hb, e⟩ | ⟨hb, e⟩
                all_goals
                  rw [hb, ← e]
                  clear hb HA e
                  go_wp2_with (at_builtin; first | (refine append_ints w13.heap.size ?hw (.tmp 107) (.tmp 108) rfl (.slice (some ⟨w13.heap.size, 0, none⟩) 0 0) [] X A7 p c7 rfl rfl (own_empty w13) HXA.out HSS2.out.1 HSS2.out.2.1 ?_; (case hw => rfl); intro A14 c14 w14 hr8 hc8 hl8 hf8; have H14 : Hid (Rw w14 w13.heap.size A14 c14 X ∧ Fr (fun _ => False) w13 w14 ∧ w13.heap.size ≤ w14.heap.size) := Lib.hid (app_first w13 A14 c14 X w14 hr8 hl8 hf8); clear hr8 hc8 hl8 hf8) | (refine append_ints w13.heap.size ?hw (.tmp 109) (.tmp 110) rfl (.slice A14 X.length c14) X Y B7 q d7 rfl rfl H14.out.1.1 (HYB.out _ H14.out.2.1) H14.out.2.2 HSS2.out.2.2 ?_; (case hw => rfl); intro A15 c15 w15 hr8 hc8 hl8 hf8; have H15 : Hid (Rw w15 w13.heap.size A15 c15 (X ++ Y) ∧ Fr (fun _ => False) w13 w15) := Lib.hid (And.intro ⟨hr8, hl8⟩ (Rw.own H14.out.1 (Nat.le_refl _) H14.out.2.1 hf8)); clear hr8 hc8 hl8 hf8))
                  have hlen : (X ++ Y).length = X.length + Y.length := List.length_append
                  have hL0 : 0 < (X ++ Y).length := by rw [hlen, ← HPQ.out.1, ← HPQ.out.2]; omega
                  obtain ⟨g, cap8, hv, hg0, hg1, cells, hgc⟩ := Kd.R_form H15.out.1.1 hL0
                  injection hv with hv1 hv2 hv3
                  subst hv1
                  subst hv3
                  clear hgc hv2 hg0 hg1
                  have HR0 := Lib.hid (And.intro H15.out.1.1 (H13.out.trans H15.out.2)); clear H15
                  have hn2 : X.length + Y.length ≤ 200 := by have := HXE.out.2.1; have := HYE.out.2.1; omega
                  have HIN2 := HIN.out
                  obtain ⟨L, hL⟩ : ∃ L, L = X ++ Y := ⟨_, rfl⟩
                  have HR1 : Hid ((Kd.int .i64).R 3 w15 w13.heap.size (fun _ => True) (.slice (some ⟨g, 0, none⟩) L.length c15) L ∧ Fr (fun _ => False) w w15) := by rw [hL]; exact HR0
                  rw [← hL] at HIN2 hlen hL0
                  rw [← hlen] at hn2
                  obtain ⟨N, hNl⟩ : ∃ N, N = L.length := ⟨_, rfl⟩
                  rw [← hNl] at hn2 hL0
                  have hcast : (X.length : Int) + (Y.length : Int) = (N : Int) := by rw [hNl, hlen]; simp
                  simp only [← hlen, ← hNl, hcast]
                  clear hcast
                  have HNL := Lib.hid (And.intro hNl (And.intro hL HIN2)); clear hNl hL HIN2 hlen HR0 hL0
                  go_wp2_with fail
                  go_loopw [17, 113] (fun v i wr => ∃ (k : Nat), k ≤ N ∧ i = .int .i64 k ∧ v = .bool ((L.take k).any fun y => decide (y = al)) ∧ (Kd.int .i64).R 3 wr w13.heap.size (fun _ => True) (.slice (some ⟨g, 0, none⟩) L.length c15) L ∧ Fr (fun _ => False) w wr) (fun _ i _ => N - (intOf i).toNat)
                  case atStart => exact ⟨0, by omega, rfl, by simp, HR1.out.1, HR1.out.2⟩
                  case round =>
                    obtain ⟨k3, hk3, rfl, rfl, hr, hf⟩ := hrel
                    have HR3 := Lib.hid (And.intro hr hf); clear hr hf
                    by_cases hlt3 : k3 < N
                    · have hlt4 : k3 < L.length := by rw [← HNL.out.1]; exact hlt3
                      obtain ⟨hkc, hkf⟩ := row_at HR3.out.1 k3 hlt4
                      have hstep := any_take_succ L k3 hlt4 (fun y => decide (y = al))
                      obtain ⟨y, hy⟩ : ∃ y, y = rd L k3 := ⟨_, rfl⟩
                      rw [← hy] at hkc hstep
                      obtain ⟨b, hb⟩ : ∃ b, b = (L.take k3).any fun y => decide (y = al) := ⟨_, rfl⟩
                      rw [← hb] at hstep ⊢
                      have HST := Lib.hid hstep; clear hstep hb hlt4 hy
                      cases b
                      · by_cases hya : y = al
                        · subst hya
                          go_wp2_with fail
                          go_roundw
                          case rel => exact ⟨k3 + 1, by omega, by go_num, by rw [HST.out]; simp, HR3.out.1, HR3.out.2⟩
                          case measure => simp [intOf]; omega
                        · go_wp2_with fail
                          go_roundw
                          case rel => exact ⟨k3 + 1, by omega, by go_num, by rw [HST.out]; simp [hya], HR3.out.1, HR3.out.2⟩
                          case measure => simp [intOf]; omega
                      · go_wp2_with fail
                        go_roundw
                        case rel => exact ⟨k3 + 1, by omega, by go_num, by rw [HST.out]; simp, HR3.out.1, HR3.out.2⟩
                        case measure => simp [intOf]; omega
                    · have hall : ((L.take k3).any fun y => decide (y = al)) = true := by
                        rw [List.take_of_length_le (by have := HNL.out.1; omega), List.any_eq_true]
                        exact ⟨al, HNL.out.2.2, by simp⟩
                      rw [hall]
                      clear hall
                      go_wp2_with fail
                      go_ret
                      exact ⟨rfl, HR3.out.2⟩

end Go.Proofs.Ytmkafeknhnpkaaa
