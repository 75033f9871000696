/- BucketBound, by a walk. -/
import Derived.Test.YtpfdbbimpfihbaaBm
namespace Go.Proofs.Ytpfdbbimpfihbaa
open Go.RowKit Go.Proofs.YtpfdbbimpfihbaaW.PrintWords

theorem info3 : (Try.prog.info? 3).map (fun i => (i.zero, i.size, i.bytes)) = some (some (.int .i64 0), 1, 8) := by kernel_rfl

def RowOk (B R l x y : Int) (T K : List Int) (k g g0 g1 g2 c1 c2 : Nat) (w wr : World) : Prop := Bnd B R T K l x y ∧ IsB wr g B R l x ∧ OkB B R l x ∧ x ≤ k ∧ wr.ownsRow g0 3 1 (.slice (some ⟨g1, 0, none⟩) (k + 1) c1) (k + 1) (nums .i64 T) ∧ wr.ownsRow g0 3 1 (.slice (some ⟨g2, 0, none⟩) (k + 1) c2) (k + 1) (nums .i64 K) ∧ NeRow (.slice (some ⟨g1, 0, none⟩) (k + 1) c1) (.slice (some ⟨g2, 0, none⟩) (k + 1) c2) ∧ Fr (fun _ => False) w wr ∧ g0 ≤ wr.heap.size
def RowNext (B R l x y : Int) (T K : List Int) (k g g0 g1 g2 c1 c2 : Nat) (w wr : World) : Prop := Bnd B R (T ++ [x]) (K ++ [y]) l x y ∧ IsB wr g B R l x ∧ OkB B R l x ∧ x ≤ k + 1 ∧ wr.ownsRow g0 3 1 (.slice (some ⟨g1, 0, none⟩) (k + 1) c1) (k + 1) (nums .i64 T) ∧ wr.ownsRow g0 3 1 (.slice (some ⟨g2, 0, none⟩) (k + 1) c2) (k + 1) (nums .i64 K) ∧ NeRow (.slice (some ⟨g1, 0, none⟩) (k + 1) c1) (.slice (some ⟨g2, 0, none⟩) (k + 1) c2) ∧ Fr (fun _ => False) w wr ∧ g0 ≤ wr.heap.size

theorem fin_next {B R l x y l' x' y' : Int} {T K : List Int} {k g g0 g1 g2 c1 c2 : Nat} {w wr w5 : World} (hb : IsB w5 g B R l' x') (hf : Fr (· = g) wr w5) (hs1 : w.heap.size ≤ g) (hs2 : g < g0) (h : RowOk B R l x y T K k g g0 g1 g2 c1 c2 w wr) (hB : 0 ≤ B)
    (hok : OkB B R l' x') (hx : x' ≤ k + 1) (hbn : Bnd B R (T ++ [x']) (K ++ [y']) l' x' y') : RowNext B R l' x' y' T K k g g0 g1 g2 c1 c2 w w5 :=
  ⟨hbn, hb, hok, hx, own_fr h.2.2.2.2.1 hf (by omega), own_fr h.2.2.2.2.2.1 hf (by omega), h.2.2.2.2.2.2.1, h.2.2.2.2.2.2.2.1.own hf (by rintro _ rfl; exact hs1), Nat.le_trans h.2.2.2.2.2.2.2.2 hf.size⟩

theorem fin_yes {B R l x y : Int} {T K : List Int} {k g g0 g1 g2 c1 c2 : Nat} {w wr w5 : World} (hl : 1 ≤ l) (hb : IsB w5 g B R (tkL l) (tkT l x)) (hf : Fr (· = g) wr w5) (hs1 : w.heap.size ≤ g) (hs2 : g < g0) (h : RowOk B R l x y T K k g g0 g1 g2 c1 c2 w wr) (hB : 0 ≤ B) (hR : 0 ≤ R) (hk : k ≤ 120) :
    RowNext B R (l - 1) (x + 1) y T K k g g0 g1 g2 c1 c2 w w5 := by
  have e1 : tkL l = l - 1 := by simp [tkL, hl]
  have e2 : tkT l x = x + 1 := by simp [tkT, hl]
  rw [e1, e2] at hb
  obtain ⟨q1, q2, q3, q4, q5, q6, q7, q8⟩ := h.2.2.1
  have q9 := h.2.2.2.1
  refine fin_next hb hf hs1 hs2 h hB (by unfold OkB; omega) (by omega) (h.1.step hB (by omega) (by omega) ?_ (by omega) (by omega) (by omega) (by omega))
  simp; omega

theorem fin_no {B R l x y : Int} {T K : List Int} {k g g0 g1 g2 c1 c2 : Nat} {w wr w5 : World} (hl : ¬ 1 ≤ l) (hb : IsB w5 g B R (tkL l) (tkT l x)) (hf : Fr (· = g) wr w5) (hs1 : w.heap.size ≤ g) (hs2 : g < g0) (h : RowOk B R l x y T K k g g0 g1 g2 c1 c2 w wr) (hB : 0 ≤ B) (hR : 0 ≤ R) (hk : k ≤ 120) :
    RowNext B R l x y T K k g g0 g1 g2 c1 c2 w w5 := by
  have e1 : tkL l = l := by simp [tkL, hl]
  have e2 : tkT l x = x := by simp [tkT, hl]
  rw [e1, e2] at hb
  obtain ⟨q1, q2, q3, q4, q5, q6, q7, q8⟩ := h.2.2.1
  have q9 := h.2.2.2.1
  refine fin_next hb hf hs1 hs2 h hB (by unfold OkB; omega) (by omega) (h.1.step hB (by omega) (by omega) ?_ (by omega) (by omega) (by omega) (by omega))
  simp

theorem fin_tick {B R l x y : Int} {T K : List Int} {k g g0 g1 g2 c1 c2 : Nat} {w wr w5 : World} (hb : IsB w5 g B R (tiL B R l) x) (hf : Fr (· = g) wr w5) (hs1 : w.heap.size ≤ g) (hs2 : g < g0) (h : RowOk B R l x y T K k g g0 g1 g2 c1 c2 w wr) (hB : 0 ≤ B) (hR : 0 ≤ R) (hk : k ≤ 120) :
    RowNext B R (tiL B R l) x (y + 1) T K k g g0 g1 g2 c1 c2 w w5 := by
  have q0 := h.2.2.1.tick
  obtain ⟨q1, q2, q3, q4, q5, q6, q7, q8⟩ := h.2.2.1
  have q9 := h.2.2.2.1
  have qa := q0.2.2.2.2.1
  have qb := q0.2.2.2.2.2.1
  refine fin_next hb hf hs1 hs2 h hB q0 (by omega) (h.1.step hB (by omega) (by omega) ?_ (by omega) (by omega) (by omega) (by omega))
  rw [show y + 1 - y = 1 by omega, Int.mul_one]
  unfold tiL; split <;> omega

def App (w w' : World) (g0 g : Nat) (v : Value) (xs : List Int) : Prop := w'.ownsRow g0 3 1 v xs.length (nums .i64 xs) ∧ w.grownBy w' (some g) ∧ (v.ownBlock = some g ∨ ∃ b, v.ownBlock = some b ∧ w.heap.size ≤ b)

theorem app_two {B R l x y : Int} {T K : List Int} {k g g0 g1 g2 c1 c2 : Nat} {w w5 w6 w7 : World} {v1 v2 : Value} (h : RowNext B R l x y T K k g g0 g1 g2 c1 c2 w w5) (hg : g < g0) (hw : w.heap.size ≤ g0)
    (h6 : App w5 w6 g0 g1 v1 (T ++ [x])) (h7 : App w6 w7 g0 g2 v2 (K ++ [y])) :
    IsB w7 g B R l x ∧ w7.ownsRow g0 3 1 v1 (T ++ [x]).length (nums .i64 (T ++ [x])) ∧ w7.ownsRow g0 3 1 v2 (K ++ [y]).length (nums .i64 (K ++ [y])) ∧ NeRow v1 v2 ∧ Fr (fun _ => False) w w7 ∧ g0 ≤ w7.heap.size := by
  obtain ⟨_, hb, _, _, ho1, ho2, hne, hf, hs⟩ := h
  obtain ⟨a1, a2, a3⟩ := h6
  obtain ⟨b1, b2, b3⟩ := h7
  have e1 := own_base ho1 g1 rfl
  have e2 := own_base ho2 g2 rfl
  have l2 := own_lt ho2 g2 rfl
  have q0 : g1 ≠ g2 := fun e => hne g1 rfl (by rw [e]; rfl)
  have d6 : v1.ownBlock ≠ some g2 := by
    rcases a3 with a3 | ⟨b, a3, a4⟩ <;> rw [a3] <;> simp
    · exact q0
    · omega
  have f6 := Fr.of_grown a2
  have f7 := Fr.of_grown b2
  refine ⟨(hb.fr f6 (by simp; omega)).fr f7 (by simp; omega), own_other a1 b2 (.inr d6), b1, ?_, (hf.own f6 (by simp; omega)).own f7 (by simp; omega), by have := a2.size; have := b2.size; omega⟩
  intro q hq hq'
  rcases b3 with b3 | ⟨b, b3, b4⟩
  · rw [b3] at hq'; rw [← hq'] at hq; exact d6 hq
  · rw [b3] at hq'
    have := own_lt a1 q hq
    simp at hq'
    omega

set_option maxHeartbeats 4000000 in
theorem bound_any (b r : Int) (a : Option Addr) (n c : Nat) (xs : List Bool) (w : World) (hx : RdB w a n xs) :
    Calls Try.prog 4 #[.int .i64 b, .int .i64 r, .slice a n c] w fun e w' => e = .returned (.bool true) ∧ Fr (fun _ => False) w w' := by
  have hm : n ≤ 9223372036854775807 := by have := hx.2.1; unfold maxLen at this; exact this
  by_cases hn : 120 < n
  · go_enter Try.func4, Try.ntmps4
    go_wp2_with fail
    go_at_call 7
    refine (awake_any _).mono ?_
    rintro e w1 ⟨rfl, hf1⟩
    go_wp2_with fail
    go_at_call 7
    refine (awake_any _).mono ?_
    rintro e w2 ⟨rfl, hf2⟩
    go_wp2_with fail
    go_ret
    exact ⟨rfl, hf1.trans hf2⟩
  · go_enter Try.func4, Try.ntmps4
    go_wp2_with fail
    have b1 := umod_bd b 20 (by omega) (by omega)
    have r1 := umod_bd r 10 (by omega) (by omega)
    generalize wrap64 ((IntKind.u64.wrap b).tmod 20) = B at *
    generalize wrap64 ((IntKind.u64.wrap r).tmod 10) = R at *
    obtain ⟨b2, b3⟩ := b1
    obtain ⟨r3, r4⟩ := r1
    go_at_call 7
    refine (awake_any _).mono ?_
    rintro e w1 ⟨rfl, hf1⟩
    go_wp2_with fail
    go_at_call 8
    refine (new_good _ _ _ (by omega) (by omega) (by omega) (by omega)).mono ?_
    rintro e w2 ⟨rfl, hb2, hz2, hf2⟩
    have H2 := Lib.hid (And.intro hb2 (And.intro hz2 (hf1.trans hf2))); clear hb2 hz2 hf2
    have H1 := Lib.hid hf1; clear hf1
    have HX := Lib.hid hx; clear hx
    go_wp2_with fail
    have HS : Hid (w.heap.size ≤ w1.heap.size ∧ w1.heap.size < w2.heap.size) := Lib.hid ⟨H1.out.size, H2.out.1.lt⟩
    go_loopw [9, 10, 46] (fun v1 v2 i wr => ∃ (k : Nat) (l x y : Int) (T K : List Int), k ≤ n ∧ i = .int .i64 k ∧ T.length = k + 1 ∧ Bnd B R T K l x y ∧ IsB wr w1.heap.size B R l x ∧ OkB B R l x ∧ x ≤ k ∧ wr.ownsRow w2.heap.size 3 1 v1 T.length (nums .i64 T) ∧ wr.ownsRow w2.heap.size 3 1 v2 K.length (nums .i64 K) ∧ NeRow v1 v2 ∧ Fr (fun _ => False) w wr ∧ w2.heap.size ≤ wr.heap.size) (fun _ _ i _ => n - (intOf i).toNat)
    case atStart =>
      have hl1 := own_lit w2 w2.heap.size 3 .i64 [0] (Nat.le_refl _) (by simp)
      have hl2 := own_lit (w2.alloc (.cells #[.int .i64 0] 3)) w2.heap.size 3 .i64 [0] (by simp) (by simp)
      refine ⟨0, B, 0, 0, [0], [0], by omega, rfl, rfl, Bnd.start b2, ((H2.out.1.fr ((Fr.refl (fun _ => False) _).alloc _) (by simp)).fr ((Fr.refl (fun _ => False) _).alloc _) (by simp)), by unfold OkB; omega, by omega, ?_, ?_, ?_, (H2.out.2.2.alloc _).alloc _, by simp; omega⟩
      · exact hl1.alloc _
      · have hz : (w2.alloc (.cells #[.int .i64 0] 3)).heap.size = w2.heap.size + 1 := by simp
        rw [hz] at hl2
        exact hl2
      · intro q h1 h2
        simp [Value.ownBlock] at h1 h2
        omega
    case round =>
      obtain ⟨k, l, x, y, T, K, hk, rfl, hT, hbn, hb, hok, hxk, ho1, ho2, hne, hf, hsz⟩ := hrel
      have hK : K.length = k + 1 := by rw [← hbn.len, hT]
      obtain ⟨g1, c1, rfl, hg1, hl1⟩ := ho1.form (by omega)
      obtain ⟨g2, c2, rfl, hg2, hl2⟩ := ho2.form (by omega)
      have HR := Lib.hid (And.intro hbn (And.intro hb (And.intro hok (And.intro hxk (And.intro ho1 (And.intro ho2 (And.intro hne (And.intro hf hsz))))))))
      have HL := Lib.hid (And.intro hT hK)
      have hr := hbn.rng k (by omega) (by omega)
      have eT := hbn.lastT
      have eK := hbn.lastK
      rw [hT, show ((k + 1 : Nat) : Int) - 1 = (k : Int) by omega] at eT
      rw [hK, show ((k + 1 : Nat) : Int) - 1 = (k : Int) by omega] at eK
      obtain ⟨hc1, hz1⟩ := own_at ho1 k (by omega) (by omega)
      obtain ⟨hc2, hz2⟩ := own_at ho2 k (by omega) (by omega)
      rw [eT] at hc1 hr
      rw [eK] at hc2 hr
      have eT' := Lib.hid eT
      have eK' := Lib.hid eK
      obtain ⟨hr1, hr2, hr3, hr4⟩ := hr
      have hkk : k ≤ 120 := by omega
      simp only [Int.toNat_natCast] at hc1 hc2 hz1 hz2
      rw [hT, hK] at HR
      simp only [hT, hK]
      clear hbn hb hok hxk ho1 ho2 hne hf hsz eT eK hT hK hz1 hz2
      by_cases hlt : k < n
      · obtain ⟨ad, ea, hc⟩ := (HX.out.fr HR.out.2.2.2.2.2.2.2.1).at hlt
        subst ea
        by_cases ht : xs.getD k false = true
        · rw [ht] at hc
          clear ht
          by_cases hl : 1 ≤ l
          · have htk : tkB l = true := by simp [tkB, hl]
            go_wp2_with fail
            go_quiet (fail)
            go_wp2_with fail
            go_at_call 10
            refine (take_any _ _ _ _ _ _ (by exact HR.out.2.1) HR.out.2.2.1).mono ?_
            rintro e w5 ⟨rfl, hb5, hf5⟩
            have HH : Hid (RowNext B R (l - 1) (x + 1) (y) T K k w1.heap.size w2.heap.size g1 g2 c1 c2 w w5) :=
              Lib.hid (fin_yes hl hb5 hf5.und HS.out.1 HS.out.2 HR.out b2 r3 hkk)
            clear hb5 hf5
            have A1 : Hid (w5.ownsRow w2.heap.size 3 1 (.slice (some ⟨g1, 0, none⟩) (k + 1) c1) T.length (nums .i64 T)) := Lib.hid (by rw [HL.out.1]; exact HH.out.2.2.2.2.1)
            have A2 : Hid ((T.length + 1) * 8 ≤ 140737488355328) := Lib.hid (by rw [HL.out.1]; omega)
            have A3 : Hid (w5.ownsRow w2.heap.size 3 1 (.slice (some ⟨g2, 0, none⟩) (k + 1) c2) K.length (nums .i64 K)) := Lib.hid (by rw [HL.out.2]; exact HH.out.2.2.2.2.2.1)
            have A4 : Hid ((K.length + 1) * 8 ≤ 140737488355328) := Lib.hid (by rw [HL.out.2]; omega)
            go_wp2_with (first | (at_builtin; refine print_append_num (w0 := w5) w2.heap.size rfl (.tmp 70) (.tmp 72) 36 3 .i64 8 rfl Try.underlying36 info3 (by omega) _ T (x + 1) rfl rfl A1.out (Below.refl _ _) HH.out.2.2.2.2.2.2.2.2 A2.out ?_; intro v1 w6 ho6 _ hg6 hat6; have H6 : Hid (App w5 w6 w2.heap.size g1 v1 (T ++ [x + 1])) := Lib.hid ⟨ho6, hg6, hat6⟩; clear ho6 hg6 hat6) | (at_builtin; refine print_append_num (w0 := w6) w2.heap.size rfl (.tmp 74) (.tmp 76) 36 3 .i64 8 rfl Try.underlying36 info3 (by omega) _ K (y) rfl rfl (own_other A3.out H6.out.2.1 (ne_other HH.out.2.2.2.2.2.2.1)) (Below.refl _ _) (Nat.le_trans HH.out.2.2.2.2.2.2.2.2 H6.out.2.1.size) A4.out ?_; intro v2 w7 ho7 _ hg7 hat7; have H7 : Hid (App w6 w7 w2.heap.size g2 v2 (K ++ [y])) := Lib.hid ⟨ho7, hg7, hat7⟩; clear ho7 hg7 hat7))
            go_roundw
            case rel => exact ⟨k + 1, _, _, _, _, _, by omega, by go_num, by simp; exact HL.out.1, HH.out.1, (app_two HH.out HS.out.2 (by have := HS.out; omega) H6.out H7.out).1, HH.out.2.2.1, by have := HH.out.2.2.2.1; omega, (app_two HH.out HS.out.2 (by have := HS.out; omega) H6.out H7.out).2⟩
            case measure => simp [intOf]; omega
          · have htk : tkB l = false := by simp [tkB, hl]
            go_wp2_with fail
            go_quiet (fail)
            go_wp2_with fail
            go_at_call 10
            refine (take_any _ _ _ _ _ _ (by exact HR.out.2.1) HR.out.2.2.1).mono ?_
            rintro e w5 ⟨rfl, hb5, hf5⟩
            have HH : Hid (RowNext B R (l) (x) (y) T K k w1.heap.size w2.heap.size g1 g2 c1 c2 w w5) :=
              Lib.hid (fin_no (by omega) hb5 hf5.und HS.out.1 HS.out.2 HR.out b2 r3 hkk)
            clear hb5 hf5
            have A1 : Hid (w5.ownsRow w2.heap.size 3 1 (.slice (some ⟨g1, 0, none⟩) (k + 1) c1) T.length (nums .i64 T)) := Lib.hid (by rw [HL.out.1]; exact HH.out.2.2.2.2.1)
            have A2 : Hid ((T.length + 1) * 8 ≤ 140737488355328) := Lib.hid (by rw [HL.out.1]; omega)
            have A3 : Hid (w5.ownsRow w2.heap.size 3 1 (.slice (some ⟨g2, 0, none⟩) (k + 1) c2) K.length (nums .i64 K)) := Lib.hid (by rw [HL.out.2]; exact HH.out.2.2.2.2.2.1)
            have A4 : Hid ((K.length + 1) * 8 ≤ 140737488355328) := Lib.hid (by rw [HL.out.2]; omega)
            go_wp2_with (first | (at_builtin; refine print_append_num (w0 := w5) w2.heap.size rfl (.tmp 70) (.tmp 72) 36 3 .i64 8 rfl Try.underlying36 info3 (by omega) _ T (x) rfl rfl A1.out (Below.refl _ _) HH.out.2.2.2.2.2.2.2.2 A2.out ?_; intro v1 w6 ho6 _ hg6 hat6; have H6 : Hid (App w5 w6 w2.heap.size g1 v1 (T ++ [x])) := Lib.hid ⟨ho6, hg6, hat6⟩; clear ho6 hg6 hat6) | (at_builtin; refine print_append_num (w0 := w6) w2.heap.size rfl (.tmp 74) (.tmp 76) 36 3 .i64 8 rfl Try.underlying36 info3 (by omega) _ K (y) rfl rfl (own_other A3.out H6.out.2.1 (ne_other HH.out.2.2.2.2.2.2.1)) (Below.refl _ _) (Nat.le_trans HH.out.2.2.2.2.2.2.2.2 H6.out.2.1.size) A4.out ?_; intro v2 w7 ho7 _ hg7 hat7; have H7 : Hid (App w6 w7 w2.heap.size g2 v2 (K ++ [y])) := Lib.hid ⟨ho7, hg7, hat7⟩; clear ho7 hg7 hat7))
            go_roundw
            case rel => exact ⟨k + 1, _, _, _, _, _, by omega, by go_num, by simp; exact HL.out.1, HH.out.1, (app_two HH.out HS.out.2 (by have := HS.out; omega) H6.out H7.out).1, HH.out.2.2.1, by have := HH.out.2.2.2.1; omega, (app_two HH.out HS.out.2 (by have := HS.out; omega) H6.out H7.out).2⟩
            case measure => simp [intOf]; omega
        · have ht' : xs.getD k false = false := by simpa using ht
          rw [ht'] at hc
          clear ht ht'
          go_wp2_with fail
          go_quiet (fail)
          go_wp2_with fail
          go_at_call 12
          refine (tick_any _ _ _ _ _ _ (by exact HR.out.2.1) HR.out.2.2.1).mono ?_
          rintro e w5 ⟨rfl, hb5, hf5⟩
          have HH : Hid (RowNext B R (tiL B R l) (x) (y + 1) T K k w1.heap.size w2.heap.size g1 g2 c1 c2 w w5) :=
            Lib.hid (fin_tick hb5 hf5.und HS.out.1 HS.out.2 HR.out b2 r3 hkk)
          clear hb5 hf5
          have A1 : Hid (w5.ownsRow w2.heap.size 3 1 (.slice (some ⟨g1, 0, none⟩) (k + 1) c1) T.length (nums .i64 T)) := Lib.hid (by rw [HL.out.1]; exact HH.out.2.2.2.2.1)
          have A2 : Hid ((T.length + 1) * 8 ≤ 140737488355328) := Lib.hid (by rw [HL.out.1]; omega)
          have A3 : Hid (w5.ownsRow w2.heap.size 3 1 (.slice (some ⟨g2, 0, none⟩) (k + 1) c2) K.length (nums .i64 K)) := Lib.hid (by rw [HL.out.2]; exact HH.out.2.2.2.2.2.1)
          have A4 : Hid ((K.length + 1) * 8 ≤ 140737488355328) := Lib.hid (by rw [HL.out.2]; omega)
          go_wp2_with (first | (at_builtin; refine print_append_num (w0 := w5) w2.heap.size rfl (.tmp 70) (.tmp 72) 36 3 .i64 8 rfl Try.underlying36 info3 (by omega) _ T (x) rfl rfl A1.out (Below.refl _ _) HH.out.2.2.2.2.2.2.2.2 A2.out ?_; intro v1 w6 ho6 _ hg6 hat6; have H6 : Hid (App w5 w6 w2.heap.size g1 v1 (T ++ [x])) := Lib.hid ⟨ho6, hg6, hat6⟩; clear ho6 hg6 hat6) | (at_builtin; refine print_append_num (w0 := w6) w2.heap.size rfl (.tmp 74) (.tmp 76) 36 3 .i64 8 rfl Try.underlying36 info3 (by omega) _ K (y + 1) rfl rfl (own_other A3.out H6.out.2.1 (ne_other HH.out.2.2.2.2.2.2.1)) (Below.refl _ _) (Nat.le_trans HH.out.2.2.2.2.2.2.2.2 H6.out.2.1.size) A4.out ?_; intro v2 w7 ho7 _ hg7 hat7; have H7 : Hid (App w6 w7 w2.heap.size g2 v2 (K ++ [y + 1])) := Lib.hid ⟨ho7, hg7, hat7⟩; clear ho7 hg7 hat7))
          go_roundw
          case rel => exact ⟨k + 1, _, _, _, _, _, by omega, by go_num, by simp; exact HL.out.1, HH.out.1, (app_two HH.out HS.out.2 (by have := HS.out; omega) H6.out H7.out).1, HH.out.2.2.1, by have := HH.out.2.2.2.1; omega, (app_two HH.out HS.out.2 (by have := HS.out; omega) H6.out H7.out).2⟩
          case measure => simp [intOf]; omega
      · obtain rfl : k = n := by omega
        have HB : Hid (∀ i j : Int, 0 ≤ i → i ≤ j → j < (k : Int) + 1 → ∃ ti tj ki kj : Int, rd T i = ti ∧ rd T j = tj ∧ rd K i = ki ∧ rd K j = kj ∧ 0 ≤ ti ∧ ti ≤ 200 ∧ 0 ≤ tj ∧ tj ≤ 200 ∧ 0 ≤ ki ∧ ki ≤ 200 ∧ 0 ≤ kj ∧ kj ≤ 200 ∧ tj - ti ≤ B + R * (kj - ki)) := by
          refine Lib.hid fun i j h0 h1 h2 => ⟨_, _, _, _, rfl, rfl, rfl, rfl, ?_⟩
          have q1 := HR.out.1.rng i h0 (by rw [HL.out.1]; omega)
          have q2 := HR.out.1.rng j (by omega) (by rw [HL.out.1]; omega)
          have q3 := HR.out.1.two i j h0 h1 (by rw [HL.out.1]; omega)
          exact ⟨by omega, by omega, by omega, by omega, by omega, by omega, by omega, by omega, q3⟩
        go_wp2_with fail
        go_loopw [6, 16, 17, 81] (fun f _ _ i wq => ∃ j : Nat, j ≤ k + 1 ∧ i = .int .i64 j ∧ wq.ownsRow w2.heap.size 3 1 (.slice (some ⟨g1, 0, none⟩) (k + 1) c1) (k + 1) (nums .i64 T) ∧ wq.ownsRow w2.heap.size 3 1 (.slice (some ⟨g2, 0, none⟩) (k + 1) c2) (k + 1) (nums .i64 K) ∧ Fr (fun _ => False) w wq) (fun _ _ _ i _ => k + 1 - (intOf i).toNat)
        case atStart => exact ⟨0, by omega, rfl, HR.out.2.2.2.2.1, HR.out.2.2.2.2.2.1, HR.out.2.2.2.2.2.2.2.1⟩
        case round =>
          obtain ⟨i, hi, rfl, ho1, ho2, hf⟩ := hrel
          have HO := Lib.hid (And.intro ho1 (And.intro ho2 hf))
          clear ho1 ho2 hf
          by_cases hik : i < k + 1
          · go_wp2_with fail
            go_loopw [6, 17] (fun f j wq => ∃ m : Nat, i ≤ m ∧ m ≤ k + 1 ∧ j = .int .i64 m ∧ wq.ownsRow w2.heap.size 3 1 (.slice (some ⟨g1, 0, none⟩) (k + 1) c1) (k + 1) (nums .i64 T) ∧ wq.ownsRow w2.heap.size 3 1 (.slice (some ⟨g2, 0, none⟩) (k + 1) c2) (k + 1) (nums .i64 K) ∧ Fr (fun _ => False) w wq) (fun _ j _ => k + 1 - (intOf j).toNat)
            case atStart => exact ⟨i, by omega, by omega, rfl, HO.out.1, HO.out.2.1, HO.out.2.2⟩
            case round =>
              obtain ⟨m, him, hm1, rfl, ho1, ho2, hf⟩ := hrel
              have HO' := Lib.hid (And.intro ho1 (And.intro ho2 hf))
              clear ho1 ho2 hf
              by_cases hmk : m < k + 1
              · obtain ⟨ti, tj, ki, kj, et1, et2, ek1, ek2, h1, h2, h3, h4, h5, h6, h7, h8, h9⟩ := HB.out i m (by omega) (by omega) (by omega)
                have c1i := (own_at HO'.out.1 i (by omega) (by omega)).1
                have c1m := (own_at HO'.out.1 m (by omega) (by omega)).1
                have c2i := (own_at HO'.out.2.1 i (by omega) (by omega)).1
                have c2m := (own_at HO'.out.2.1 m (by omega) (by omega)).1
                rw [et1] at c1i
                rw [et2] at c1m
                rw [ek1] at c2i
                rw [ek2] at c2m
                simp only [Int.toNat_natCast] at c1i c1m c2i c2m
                have hp1 : R * (kj - ki) ≤ 2000 := Int.le_trans (Int.mul_le_mul_of_nonneg_left (by omega : kj - ki ≤ 200) r3) (by omega)
                have hp2 : -2000 ≤ R * (kj - ki) := Int.le_trans (by omega) (Int.mul_le_mul_of_nonneg_left (by omega : -200 ≤ kj - ki) r3)
                clear et1 et2 ek1 ek2
                go_wp2_with fail
                go_quiet (fail)
                go_wp2_with fail
                go_roundw
                case rel => exact ⟨m + 1, by omega, by omega, by go_num, HO'.out.1, HO'.out.2.1, HO'.out.2.2.drewN _⟩
                case measure => simp [intOf]; omega
              · obtain rfl : m = k + 1 := by omega
                go_wp2_with fail
                go_roundw
                case rel => exact ⟨i + 1, by omega, by go_num, HO'.out.1, HO'.out.2.1, HO'.out.2.2⟩
                case measure => simp [intOf]; omega
          · obtain rfl : i = k + 1 := by omega
            go_wp2_with fail
            go_ret
            exact ⟨rfl, HO.out.2.2⟩

end Go.Proofs.Ytpfdbbimpfihbaa
