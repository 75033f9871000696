/- Names: the document's own hex digits and quoting, by walks. -/
import Derived.Test.YtlnafmibopkilaaDoorUt
namespace Go.Proofs.YtlnafmibopkilaaDoor
open Go Go.Lib Go.RowKit Go.Proofs.YtlnafmibopkilaaDoorW.PrintWords
theorem hexA_acc : ∀ (f n : Nat) (acc : List UInt8), hexA f n acc = hexA f n [] ++ acc
  | 0, n, acc => rfl
  | f + 1, n, acc => by
    unfold hexA
    by_cases h : n < 16
    · rw [if_pos h, if_pos h]; rfl
    · rw [if_neg h, if_neg h, hexA_acc f _ (hd (n % 16) :: acc), hexA_acc f _ [hd (n % 16)], List.append_assoc]
      rfl
theorem hexA_len2 : ∀ (f n : Nat) (acc : List UInt8), (hexA f n acc).length ≤ f + 1 + acc.length
  | 0, n, acc => by simp [hexA]; omega
  | f + 1, n, acc => by
    unfold hexA
    by_cases h : n < 16
    · rw [if_pos h, List.length_cons]; omega
    · rw [if_neg h]
      have h2 := hexA_len2 f (n / 16) (hd (n % 16) :: acc)
      rw [List.length_cons] at h2
      omega
theorem one_hex (d : Nat) (h : d < 16) : (⟨#[48, 49, 50, 51, 52, 53, 54, 55, 56, 57, 97, 98, 99, 100, 101, 102]⟩ : ByteArray).extract d (d + 1) = ⟨[hd d].toArray⟩ :=
  (by decide : ∀ d : Fin 16, (⟨#[48, 49, 50, 51, 52, 53, 54, 55, 56, 57, 97, 98, 99, 100, 101, 102]⟩ : ByteArray).extract d.1 (d.1 + 1) = ⟨[hd d.1].toArray⟩) ⟨d, h⟩
theorem one_hexZ (z : Int) (h0 : 0 ≤ z) (h : z < 16) : (⟨#[48, 49, 50, 51, 52, 53, 54, 55, 56, 57, 97, 98, 99, 100, 101, 102]⟩ : ByteArray).extract z.toNat (z + 1).toNat = ⟨[hd z.toNat].toArray⟩ := by
  rw [show (z + 1).toNat = z.toNat + 1 by omega]
  exact one_hex _ (by omega)
theorem cat2 (a b : List UInt8) : ((⟨a.toArray⟩ ++ ⟨b.toArray⟩ : ByteArray)) = ⟨(a ++ b).toArray⟩ := by
  apply ByteArray.ext
  simp
theorem arr_size (a : List UInt8) : (⟨a.toArray⟩ : ByteArray).size = a.length := by simp [ByteArray.size]
def HexS (f : Nat) (z : Int) : ByteArray := ⟨(hexA f z.toNat []).toArray⟩
theorem HexS_lo (f : Nat) (z : Int) (h0 : 0 ≤ z) (h : z < 16) : HexS f z = ⟨[hd z.toNat].toArray⟩ := by
  unfold HexS
  cases f with
  | zero => unfold hexA; rw [Nat.mod_eq_of_lt (by omega)]
  | succ f => unfold hexA; rw [if_pos (by omega)]
theorem HexS_hi (f : Nat) (z : Int) (h0 : 0 ≤ z) (h : ¬ z < 16) : HexS (f + 1) z = HexS f (z / 16) ++ ⟨[hd (z % 16).toNat].toArray⟩ := by
  unfold HexS
  conv => lhs; unfold hexA
  rw [if_neg (by omega), hexA_acc, cat2, show (z / 16).toNat = z.toNat / 16 by omega, show (z % 16).toNat = z.toNat % 16 by omega]
theorem HexS_size (f : Nat) (z : Int) : (HexS f z).size ≤ f + 1 := by
  unfold HexS
  rw [arr_size]
  have := hexA_len2 f z.toNat []
  simpa using this
set_option maxHeartbeats 1000000 in
theorem rhex_lo (f : Nat) (z : Int) (w : World) (h0 : 0 ≤ z) (h : z < 16) :
    Calls Tryd.prog 39 #[.int .i64 z] w fun e w' => e = .returned (.string (HexS f z)) ∧ ∃ m, w' = w.drewN m := by
  have he := HexS_lo f z h0 h
  rw [← one_hexZ z h0 h] at he
  have HE := Lib.hid he; clear he
  go_enter Tryd.func39, Tryd.ntmps39
  go_wp2
  go_ret
  exact ⟨by rw [HE.out]; rfl, 0, rfl⟩
set_option maxHeartbeats 1000000 in
theorem rhex_any : ∀ (f : Nat) (z : Int) (w : World), f ≤ 15 → 0 ≤ z → z < 16 ^ (f + 1) → z < 4294967296 →
    Calls Tryd.prog 39 #[.int .i64 z] w fun e w' => e = .returned (.string (HexS f z)) ∧ ∃ m, w' = w.drewN m
  | 0, z, w, _, h0, h, _ => rhex_lo 0 z w h0 (by simpa using h)
  | f + 1, z, w, hf, h0, h, hb => by
    by_cases hlt : z < 16
    · exact rhex_lo (f + 1) z w h0 hlt
    · have ih := fun W => rhex_any f (z / 16) W (by omega) (by omega) (by rw [Int.pow_succ] at h; omega) (by omega)
      have he := HexS_hi f z h0 hlt
      rw [← one_hexZ (z % 16) (by omega) (by omega)] at he
      have hs := HexS_size f (z / 16)
      generalize HexS f (z / 16) = X at *
      generalize HexS (f + 1) z = Y at *
      have HE := Lib.hid (And.intro ih he); clear ih he h
      have hm0 : 0 ≤ z % 16 := by omega
      have hm1 : z % 16 < 16 := by omega
      have hlt2 : decide (z < 16) = false := by simpa using hlt
      go_enter Tryd.func39, Tryd.ntmps39
      go_wp2_with fail
      go_quiet ((go_at_call 39; exact Calls.quiet_of (HE.out.1 _)))
      go_wp2
      go_ret
      exact ⟨by rw [HE.out.2]; rfl, nq, rfl⟩

theorem rfirst_any (s : ByteArray) (h : 0 < s.size) (w : World) : Calls Tryd.prog 26 #[.string s] w fun e w' => e = .returned (.agg #[.int .i64 ((decodeL s.data.toList).1 : Int), .int .i64 ((decodeL s.data.toList).2 : Int), .bool (!badP s.data.toList)]) ∧ Below w.heap.size w w' :=
  PValid.spoorref01_First.calls 4 s _ _ _ w (first_list s h 0)
theorem bel_drewN {B : Nat} {a b : World} (h : Below B a b) (n : Nat) : Below B a (b.drewN n) := ⟨h.os, h.tape, h.output, h.size, h.block⟩

theorem qstep (r x st : ByteArray) (P : List UInt8) (hne : r.data.toList ≠ []) (h : x.data.toList ++ quoteP r.data.toList = P) (hst : st = ⟨(quoteStep r.data.toList).toArray⟩) :
    (x ++ st).data.toList ++ quoteP (r.extract (decodeL r.data.toList).2 r.size).data.toList = P := by
  rw [← h, quoteP_cons _ hne, extract_tl, hst, ← List.append_assoc]
  simp [tl]
theorem qstep_bad (r : ByteArray) (hr0 : 0 < r.size) (hb : badP r.data.toList = true) : (⟨#[92, 120]⟩ ++ HexS 15 ((r[0].toNat : Int) / 16)) ++ HexS 15 ((r[0].toNat : Int) % 16) = ⟨(quoteStep r.data.toList).toArray⟩ := by
  have hl := r[0].toNat_lt
  unfold quoteStep
  have e : r.data.toList.headD 0 = r[0] := by rw [list_of r hr0]; rfl
  rw [if_pos hb, e, HexS_lo 15 _ (by omega) (by omega), HexS_lo 15 _ (by omega) (by omega), show (⟨#[92, 120]⟩ : ByteArray) = ⟨[92, 120].toArray⟩ from rfl, cat2, cat2,
    show ((r[0].toNat : Int) / 16).toNat = r[0].toNat / 16 by omega, show ((r[0].toNat : Int) % 16).toNat = r[0].toNat % 16 by omega]
  rfl
theorem qstep_92 (r : ByteArray) (hb : badP r.data.toList = false) (h : (decodeL r.data.toList).1 = 92) : (⟨#[92, 92]⟩ : ByteArray) = ⟨(quoteStep r.data.toList).toArray⟩ := by
  unfold quoteStep
  rw [if_neg (by simp [hb]), if_pos h]
theorem qstep_as (r : ByteArray) (hne : r.data.toList ≠ []) (hb : badP r.data.toList = false) (h : (decodeL r.data.toList).1 ≠ 92) (h2 : (32 ≤ (decodeL r.data.toList).1 ∧ (decodeL r.data.toList).1 ≤ 126) ∨ (161 ≤ (decodeL r.data.toList).1 ∧ (decodeL r.data.toList).1 ≤ 591)) : r.extract 0 (decodeL r.data.toList).2 = ⟨(quoteStep r.data.toList).toArray⟩ := by
  unfold quoteStep
  rw [if_neg (by simp [hb]), if_neg h, if_pos h2, dec_good _ hne hb]
  apply ByteArray.ext
  apply Array.toList_inj.1
  rw [extract_data, List.drop_zero, Nat.sub_zero]
theorem qstep_u (r : ByteArray) (hb : badP r.data.toList = false) (h : (decodeL r.data.toList).1 ≠ 92) (h2 : ¬ ((32 ≤ (decodeL r.data.toList).1 ∧ (decodeL r.data.toList).1 ≤ 126) ∨ (161 ≤ (decodeL r.data.toList).1 ∧ (decodeL r.data.toList).1 ≤ 591))) : (⟨#[92, 117]⟩ ++ HexS 15 ((decodeL r.data.toList).1 : Int)) ++ ⟨#[46]⟩ = (⟨(quoteStep r.data.toList).toArray⟩ : ByteArray) := by
  unfold quoteStep HexS
  rw [if_neg (by simp [hb]), if_neg h, if_neg h2, show (⟨#[92, 117]⟩ : ByteArray) = ⟨[92, 117].toArray⟩ from rfl, show (⟨#[46]⟩ : ByteArray) = ⟨[46].toArray⟩ from rfl, cat2, cat2, Int.toNat_natCast]
  rfl

set_option maxRecDepth 100000 in
set_option maxHeartbeats 4000000 in
theorem rquote_any (s : ByteArray) (w : World) (hs : s.size ≤ 1000000) :
    Calls Tryd.prog 23 #[.string s] w fun e w' => e = .returned (.string ⟨(quoteP s.data.toList).toArray⟩) ∧ Below w.heap.size w w' := by
  obtain ⟨P, hP⟩ : ∃ P, P = quoteP s.data.toList := ⟨_, rfl⟩
  rw [← hP]
  have HP := Lib.hid hP.symm; clear hP
  go_enter Tryd.func23, Tryd.ntmps23
  go_wp2_with fail
  go_loopw [0, 3] (fun v0 v3 wr => ∃ (r x : ByteArray), v0 = .string r ∧ v3 = .string x ∧ Below w.heap.size w wr ∧ Hid (x.data.toList ++ quoteP r.data.toList = P) ∧ x.size + 11 * r.size ≤ 11 * s.size) (fun v _ _ => strLen v)
  case atStart =>
    exact ⟨s, ⟨#[]⟩, rfl, rfl, Below.refl _ _, HP, by show 0 + _ ≤ _; omega⟩
  case round =>
    obtain ⟨r, x, rfl, rfl, hbw, HX, hxs⟩ := hrel
    by_cases h0 : r.size = 0
    · have hout : P = x.data.toList := by
        rw [← HX.out]
        have e : r.data.toList = [] := List.eq_nil_of_length_eq_zero (by simpa using h0)
        rw [e, quoteP_nil, List.append_nil]
      have HO := Lib.hid hout; clear hout
      have h0d : decide (0 < r.size) = false := decide_eq_false (by omega)
      go_wp2_with fail
      go_ret
      refine ⟨?_, hbw⟩
      rw [HO.out]
      rfl
    · have hr0 : 0 < r.size := by omega
      have hsz : r.data.toList.length = r.size := by simp
      have hne : r.data.toList ≠ [] := by
        intro e
        rw [e] at hsz
        simp at hsz
        omega
      have hF := fun W => rfirst_any r hr0 W
      have hp := dw_pos r.data.toList hne
      have hle := decodeL_le r.data.toList hne
      rw [hsz] at hle
      have hdl := dec_le r.data.toList
      have hsl := (step_len r.data.toList hne).2
      have hq := fun st => qstep r x st P hne HX.out
      clear HX
      by_cases hbad : badP r.data.toList = true
      · rw [hbad] at hF
        have hrl := r[0].toNat_lt
        have hx1 := fun W => rhex_any 15 ((r[0].toNat : Int) / 16) W (by omega) (by omega) (by omega) (by omega)
        have hx2 := fun W => rhex_any 15 ((r[0].toNat : Int) % 16) W (by omega) (by omega) (by omega) (by omega)
        have hs1 := HexS_size 15 ((r[0].toNat : Int) / 16)
        have hs2 := HexS_size 15 ((r[0].toNat : Int) % 16)
        have hq2 := hq _ (qstep_bad r hr0 hbad)
        have hsz2 := congrArg ByteArray.size (qstep_bad r hr0 hbad)
        rw [arr_size (quoteStep r.data.toList)] at hsz2
        generalize HexS 15 ((r[0].toNat : Int) / 16) = H1 at *
        generalize HexS 15 ((r[0].toNat : Int) % 16) = H2 at *
        have hst : (⟨#[92, 120]⟩ ++ H1 ++ H2 : ByteArray).size ≤ 11 := by omega
        simp only [ByteArray.size_append] at hst
        generalize decodeL r.data.toList = D at *
        obtain ⟨p, q⟩ := D
        have H := Lib.hid (And.intro hF (And.intro hx1 (And.intro hx2 hq2)))
        clear hF hx1 hx2 hq2 hq hsz2 hbad hne hsz
        have hb0 : (0 : Int) ≤ (r[0].toNat : Int) := Int.natCast_nonneg _
        have hb1 : (r[0].toNat : Int) ≤ 255 := by omega
        clear hrl
        simp only at hp hle hdl
        go_wp2_with fail
        go_at_call 26
        refine (H.out.1 _).mono ?_
        rintro e w1 ⟨rfl, hb⟩
        go_wp2_with fail
        go_at_call 39
        refine (H.out.2.1 _).mono ?_
        rintro e w2 ⟨rfl, m2, rfl⟩
        go_wp2_with fail
        go_at_call 39
        refine (H.out.2.2.1 _).mono ?_
        rintro e w2 ⟨rfl, m3, rfl⟩
        go_wp2_with fail
        go_roundw
        case rel =>
          refine ⟨_, _, rfl, rfl, bel_drewN ((hbw.trans (hb.mono hbw.size)).alloc (Nat.le_trans hbw.size hb.size) _) _, Lib.hid (H.out.2.2.2), ?_⟩
          simp only [ByteArray.size_append, ByteArray.size_extract]
          omega
        case measure => simp [strLen]; omega
      · have hbf : badP r.data.toList = false := by simpa using hbad
        rw [hbf] at hF
        by_cases h92 : (decodeL r.data.toList).1 = 92
        · have hq2 := hq _ (qstep_92 r hbf h92)
          rw [h92] at hF
          generalize decodeL r.data.toList = D at *
          obtain ⟨p, q⟩ := D
          have H := Lib.hid (And.intro hF hq2)
          clear hF hq2 hq hbad hbf hne hsz hsl
          simp only at hp hle
          go_wp2_with fail
          go_at_call 26
          refine (H.out.1 _).mono ?_
          rintro e w1 ⟨rfl, hb⟩
          go_wp2_with fail
          go_roundw
          case rel =>
            refine ⟨_, _, rfl, rfl, (hbw.trans (hb.mono hbw.size)).alloc (Nat.le_trans hbw.size hb.size) _, Lib.hid H.out.2, ?_⟩
            simp only [ByteArray.size_append, ByteArray.size_extract]
            show x.size + 2 + _ ≤ _
            omega
          case measure => simp [strLen]; omega
        · by_cases hpc : (32 ≤ (decodeL r.data.toList).1 ∧ (decodeL r.data.toList).1 ≤ 126) ∨ (161 ≤ (decodeL r.data.toList).1 ∧ (decodeL r.data.toList).1 ≤ 591)
          · have hq2 := hq _ (qstep_as r hne hbf h92 hpc)
            have hsz2 := congrArg ByteArray.size (qstep_as r hne hbf h92 hpc)
            rw [arr_size (quoteStep r.data.toList)] at hsz2
            rw [← hsz2] at hsl
            clear hsz2
            generalize decodeL r.data.toList = D at *
            obtain ⟨p, q⟩ := D
            simp only at hp hle hdl hpc h92 hF
            obtain ⟨z, hz⟩ : ∃ z : Int, z = (p : Int) := ⟨_, rfl⟩
            rw [← hz] at hF
            have hz92 : ¬ z = 92 := by omega
            have hzc : (32 ≤ z ∧ z ≤ 126) ∨ (161 ≤ z ∧ z ≤ 591) := by omega
            have H := Lib.hid (And.intro hF hq2)
            clear hF hq2 hq hbad hbf hne hsz hz hpc h92 hdl
            have hxs2 : x.size + q + 11 * (r.size - q) ≤ 11 * s.size := by omega
            clear hsl
            rcases hzc with ⟨hz1, hz2⟩ | ⟨hz1, hz2⟩
            all_goals
              go_wp2_with fail
              go_at_call 26
              refine (H.out.1 _).mono ?_
              rintro e w1 ⟨rfl, hb⟩
              go_wp2_with fail
              go_roundw
              case rel =>
                refine ⟨_, _, rfl, rfl, (hbw.trans (hb.mono hbw.size)).alloc (Nat.le_trans hbw.size hb.size) _, Lib.hid H.out.2, ?_⟩
                simp only [ByteArray.size_append, ByteArray.size_extract]
                omega
              case measure => simp [strLen]; omega
          · have hx1 := fun W => rhex_any 15 ((decodeL r.data.toList).1 : Int) W (by omega) (by omega) (by omega) (by omega)
            have hq2 := hq _ (qstep_u r hbf h92 hpc)
            have hsz2 := congrArg ByteArray.size (qstep_u r hbf h92 hpc)
            rw [arr_size (quoteStep r.data.toList)] at hsz2
            have hs1 := HexS_size 15 ((decodeL r.data.toList).1 : Int)
            generalize HexS 15 ((decodeL r.data.toList).1 : Int) = H1 at *
            have hst : (⟨#[92, 117]⟩ ++ H1 ++ ⟨#[46]⟩ : ByteArray).size ≤ 11 := by omega
            simp only [ByteArray.size_append] at hst
            clear hsz2
            generalize decodeL r.data.toList = D at *
            obtain ⟨p, q⟩ := D
            simp only at hp hle hdl hpc h92 hF hx1
            obtain ⟨z, hz⟩ : ∃ z : Int, z = (p : Int) := ⟨_, rfl⟩
            rw [← hz] at hF hx1
            have hz92 : ¬ z = 92 := by omega
            have hzc : z < 32 ∨ (126 < z ∧ z < 161) ∨ 591 < z := by omega
            have H := Lib.hid (And.intro hF (And.intro hx1 hq2))
            clear hF hx1 hq2 hq hbad hbf hne hsz hz hpc h92 hdl hsl
            rcases hzc with hz1 | ⟨hz1, hz2⟩ | hz1
            all_goals
              go_wp2_with fail
              go_at_call 26
              refine (H.out.1 _).mono ?_
              rintro e w1 ⟨rfl, hb⟩
              go_wp2_with fail
              go_at_call 39
              refine (H.out.2.1 _).mono ?_
              rintro e w2 ⟨rfl, m2, rfl⟩
              go_wp2_with fail
              go_roundw
              case rel =>
                refine ⟨_, _, rfl, rfl, bel_drewN ((hbw.trans (hb.mono hbw.size)).alloc (Nat.le_trans hbw.size hb.size) _) _, Lib.hid H.out.2.2, ?_⟩
                simp only [ByteArray.size_append, ByteArray.size_extract]
                omega
              case measure => simp [strLen]; omega

end Go.Proofs.YtlnafmibopkilaaDoor
