/- HashGoes, by a walk. -/
import Derived.Test.YtmkafeknhnpkaaaHp
import Derived.Test.YtmkafeknhnpkaaaHa
import Derived.Laws.BytesArg
namespace Go.Proofs.Ytmkafeknhnpkaaa
open Go.RowKit Go.Proofs.Ytmkafeknhnpkaaa.PHashTells Go.Proofs.YtmkafeknhnpkaaaW.PrintWords

theorem bytes_snoc (s : ByteArray) (a : Int) (h0 : 0 ≤ a) (h1 : a < 256) : bytesOf (s ++ strOfNums [a]) = bytesOf s ++ [a] := by
  have e : ((UInt8.ofNat a.toNat).toNat : Int) = a := by simp; omega
  simp [bytesOf, strOfNums]
  omega
theorem mo_range (l : List Int) : ∀ x : Int, 0 ≤ x → x < 18446744073709551616 → 0 ≤ mo x l ∧ mo x l < 18446744073709551616 := by
  induction l with
  | nil => intro x h0 h1; exact ⟨h0, h1⟩
  | cons a l ih =>
    intro x _ _
    show 0 ≤ mo (stepF x a) l ∧ mo (stepF x a) l < 18446744073709551616
    have h : 0 ≤ stepF x a ∧ stepF x a < 18446744073709551616 := by
      unfold stepF
      generalize Go.bits .xor .u64 x (IntKind.u64.wrap a) * 1099511628211 = z
      simp [IntKind.wrap, IntKind.signed, IntKind.bits]
      omega
    exact ih _ h.1 h.2
theorem goes_law (s : ByteArray) (a b : Int) (ha0 : 0 ≤ a) (ha1 : a < 256) (hb0 : 0 ≤ b) (hb1 : b < 256) :
    (decide (mo first (bytesOf (s ++ strOfNums [a])) = mo first (bytesOf (s ++ strOfNums [b]))) = decide (a = b)) ∧ mo first (bytesOf (s ++ strOfNums [a])) = stepF (mo first (bytesOf s)) a := by
  have hr := mo_range (bytesOf s) first (by decide) (by decide)
  rw [bytes_snoc s a ha0 ha1, bytes_snoc s b hb0 hb1, mo_append, mo_append]
  show decide (stepF (mo first (bytesOf s)) a = stepF (mo first (bytesOf s)) b) = decide (a = b) ∧ stepF (mo first (bytesOf s)) a = stepF (mo first (bytesOf s)) a
  refine ⟨?_, rfl⟩
  generalize mo first (bytesOf s) = m at *
  obtain ⟨x, rfl⟩ := Int.eq_ofNat_of_zero_le hr.1
  obtain ⟨c, rfl⟩ := Int.eq_ofNat_of_zero_le ha0
  obtain ⟨d, rfl⟩ := Int.eq_ofNat_of_zero_le hb0
  refine decide_eq_decide.2 ⟨fun h => ?_, fun h => by rw [h]⟩
  rw [step_inj x (by omega) c d (by omega) (by omega) h]

theorem cv1 (W : World) (g : Nat) (x : Int) (h : W.cell? ⟨g, 0, none⟩ = some (.int .u8 x)) : (convert 33 9 (.slice (some ⟨g, 0, none⟩) 1 1)).run Try.prog W = .ok (.string (strOfNums [x])) W :=
  run_convert_bytes_arg (P := Try.prog) W 33 5 Try.underlying33 Try.underlying5 g 0 1 1 [x] rfl (fun i hi => by
    have e : i = 0 := by omega
    subst e
    exact h) 9 Try.underlying9

theorem Fr.keep1 {w1 w5 : World} {x : Value} {o : Obj} (h : Fr (fun _ => False) ((w1.alloc (.cells #[x] 5)).alloc o).drew w5) : w5.cell? ⟨w1.heap.size, 0, none⟩ = some x :=
  (h.bel.cell (by show w1.heap.size < ((w1.alloc (.cells #[x] 5)).alloc o).heap.size; simp; omega)).trans (by go_simp)
theorem Fr.keep2 {w1 w5 : World} {x : Value} {o : Obj} (h : Fr (fun _ => False) ((w1.alloc o).alloc (.cells #[x] 5)).drew w5) : w5.cell? ⟨w1.heap.size + 1, 0, none⟩ = some x :=
  (h.bel.cell (by show w1.heap.size + 1 < ((w1.alloc o).alloc (.cells #[x] 5)).heap.size; simp)).trans (by go_simp)

set_option maxRecDepth 100000 in
set_option maxHeartbeats 4000000 in
theorem goes_any (s : ByteArray) (a b : Int) (w : World) (hs : s.size ≤ 140737488351232) (ha : (Lit.int .u8 a).wf = true) (hb : (Lit.int .u8 b).wf = true) :
    Calls Try.prog 5 #[.string s, .int .u8 a, .int .u8 b] w fun e w' => e = .returned (.bool true) ∧ Fr (fun _ => False) w w' := by
  by_cases h1 : 2000 < s.size
  · go_enter Try.func5, Try.ntmps5
    go_wp2_with fail
    go_at_call 7
    refine (awake_any _).mono ?_
    rintro e w1 ⟨rfl, hf1⟩
    go_wp2_with fail
    go_at_call 7
    refine (awake_any _).mono ?_
    rintro e w2 ⟨rfl, hf2⟩
    go_wp2_with fail
    go_ret
    exact ⟨rfl, hf1.trans hf2⟩
  · have ha2 : 0 ≤ a ∧ a < 256 := by simp [Lit.wf, IntKind.min, IntKind.max, IntKind.signed, IntKind.bits] at ha; omega
    have hb2 : 0 ≤ b ∧ b < 256 := by simp [Lit.wf, IntKind.min, IntKind.max, IntKind.signed, IntKind.bits] at hb; omega
    have HLAW := Lib.hid (goes_law s a b ha2.1 ha2.2 hb2.1 hb2.2)
    clear ha hb
    go_enter Try.func5, Try.ntmps5
    go_wp2_with fail
    go_at_call 7
    refine (awake_any _).mono ?_
    rintro e w1 ⟨rfl, hf⟩
    have H1 := Lib.hid hf; clear hf
    go_upto_region 3 with fail
    obtain ⟨sa, hsa⟩ : ∃ t, t = strOfNums [a] := ⟨_, rfl⟩
    obtain ⟨sb, hsb⟩ : ∃ t, t = strOfNums [b] := ⟨_, rfl⟩
    have hcva : ∀ (g : Nat) (W : World), W.cell? ⟨g, 0, none⟩ = some (.int .u8 a) → (convert 33 9 (.slice (some ⟨g, 0, none⟩) 1 1)).run Try.prog W = .ok (.string sa) W := fun g W h => by rw [hsa]; exact cv1 W g a h
    have hcvb : ∀ (g : Nat) (W : World), W.cell? ⟨g, 0, none⟩ = some (.int .u8 b) → (convert 33 9 (.slice (some ⟨g, 0, none⟩) 1 1)).run Try.prog W = .ok (.string sb) W := fun g W h => by rw [hsb]; exact cv1 W g b h
    have hza : sa.size = 1 := by rw [hsa, strOfNums_size]; rfl
    have hzb : sb.size = 1 := by rw [hsb, strOfNums_size]; rfl
    have HS := Lib.hid (And.intro hsa hsb); clear hsa hsb
    have hszA : (s ++ sa).size ≤ 140737488355328 := by simp [hza]; omega
    have hszB : (s ++ sb).size ≤ 140737488355328 := by simp [hzb]; omega
    have HZ := Lib.hid (And.intro hszA hszB); clear hszA hszB
    obtain ⟨xa, hxa⟩ : ∃ t, t = mo first (bytesOf (s ++ sa)) := ⟨_, rfl⟩
    obtain ⟨xb, hxb⟩ : ∃ t, t = mo first (bytesOf (s ++ sb)) := ⟨_, rfl⟩
    have HXX := Lib.hid (And.intro hxa hxb); clear hxa hxb
    go_cut [7, 8] from 17 to 29 (fun x y wx => x = .int .u64 xa ∧ y = .int .u64 xb ∧ Fr (fun _ => False) w wx)
    case first =>
      go_region_with (go_at_call 10; first | (refine Calls.mono (sum_any (s ++ sa) _ ?_) ?_; exact HZ.out.1; rintro e w5 ⟨rfl, hf⟩; (first | have H5 := Lib.hid (Fr.trans (Fr.drew (Fr.alloc H1.out _)) hf) | (have H5 := Lib.hid (Fr.trans (Fr.drew (Fr.alloc (Fr.alloc H1.out _) _)) hf); have hk5 := Fr.keep1 hf; have hk6 := Fr.keep2 hf)); clear hf) | (refine Calls.mono (sum_any (s ++ sb) _ ?_) ?_; exact HZ.out.2; rintro e w6 ⟨rfl, hf⟩; (first | have H6 := Lib.hid (Fr.trans H5.out hf) | have H6 := Lib.hid (Fr.trans (Fr.alloc H5.out _) hf)); clear hf))
      all_goals (go_wp2_with fail; go_meet; exact ⟨congrArg (Value.int .u64) HXX.out.1.symm, congrArg (Value.int .u64) HXX.out.2.symm, H6.out⟩)
    case rest =>
      obtain ⟨rfl, rfl, hfc⟩ := hcut
      have HC := Lib.hid hfc; clear hfc
      have hl := HLAW.out
      rw [← HS.out.1, ← HS.out.2, ← HXX.out.1, ← HXX.out.2] at hl
      obtain ⟨m, hm⟩ : ∃ m, m = mo first (bytesOf s) := ⟨_, rfl⟩
      rw [← hm] at hl
      have HM := Lib.hid hm; clear hm
      have h5 : s.size ≤ 140737488355328 := by omega
      have HS5 := Lib.hid h5; clear h5
      obtain ⟨hl1, hl2⟩ := hl
      unfold stepF at hl2
      by_cases hab : a = b
      · subst hab
        have hx : xa = xb := by simpa using hl1
        subst hx
        have HL2 := Lib.hid hl2
        clear hl1 hl2
        go_wp2_with fail
        go_at_call 10
        refine (sum_any s _ HS5.out).mono ?_
        rw [← HM.out]
        rintro e w7 ⟨rfl, hf⟩
        have H7 := Lib.hid (HC.out.trans hf); clear hf
        have hl2 := HL2.out
        go_wp2_with fail
        go_ret
        exact ⟨rfl, H7.out⟩
      · have hx : ¬ xa = xb := by simpa [hab] using hl1
        have hx2 : (xa == xb) = false := by simpa using hx
        have hab2 : (a == b) = false := by simpa using hab
        have HL2 := Lib.hid hl2
        clear hl1 hl2
        go_wp2_with fail
        go_at_call 10
        refine (sum_any s _ HS5.out).mono ?_
        rw [← HM.out]
        rintro e w7 ⟨rfl, hf⟩
        have H7 := Lib.hid (HC.out.trans hf); clear hf
        have hl2 := HL2.out
        go_wp2_with fail
        go_ret
        exact ⟨rfl, H7.out⟩

end Go.Proofs.Ytmkafeknhnpkaaa
