/- The disk: what each of its calls does, by walks. -/
import Derived.Test.YtnbimbcnfhninaaBy
namespace Go.Proofs.Ytnbimbcnfhninaa
open Go.RowKit Go.Proofs.YtnbimbcnfhninaaW.PrintWords

theorem info5 : (Try.prog.info? 5).map (fun i => (i.zero, i.size, i.bytes)) = some (some (.int .u8 0), 1, 1) := by kernel_rfl

/-- A disk at block g, its bytes in a row of its own, both from block b on. -/
def IsD (w : World) (b g : Nat) (s : ByteArray) (k : Nat) : Prop :=
  ∃ v, w.heap[g]? = some (.cells #[v, .int .i64 k] 41 (0, 0)) ∧ w.ownsRow b 5 1 v s.size (nums .u8 (bytesOf s)) ∧ b ≤ g ∧ k ≤ s.size ∧ s.size ≤ 65536
/-- What a disk's calls may write. -/
def TD (w : World) (b g : Nat) (i : Nat) : Prop := b ≤ i ∧ (i = g ∨ ∃ cs fr, w.heap[i]? = some (.cells cs 5 fr))

theorem IsD.lt {w : World} {b g : Nat} {s : ByteArray} {k : Nat} (h : IsD w b g s k) : g < w.heap.size := by
  obtain ⟨v, hb, _⟩ := h
  exact blk_lt hb

theorem IsD.fr {w w' : World} {b g : Nat} {s : ByteArray} {k : Nat} {S : Nat → Prop} (h : IsD w b g s k) (hf : Fr S w w') (hs : ∀ i, b ≤ i → ¬ S i) : IsD w' b g s k := by
  obtain ⟨v, h1, h2, h3, h4⟩ := h
  exact ⟨v, hf.blk h1 (hs g h3), own_fr h2 hf hs, h3, h4⟩

theorem own_block_ty {w : World} {b : Nat} {v : Value} {n : Nat} {xs : List Value} (h : w.ownsRow b 5 1 v n xs) : ∀ i, v.ownBlock = some i → b ≤ i ∧ ∃ cs fr, w.heap[i]? = some (.cells cs 5 fr) := by
  intro i hi
  rcases h.2 with ⟨rfl, _⟩ | ⟨g, cap, cur, rfl, hg, hh, _⟩
  · simp [Value.ownBlock] at hi
  · simp [Value.ownBlock] at hi
    subst hi
    exact ⟨hg, _, _, hh⟩

set_option maxHeartbeats 400000 in
theorem dnew_any (w : World) :
    Calls Try.prog 7 #[] w fun e w' => e = .returned (.pointer (some ⟨w.heap.size, 0, none⟩)) ∧ IsD w' w.heap.size w.heap.size ByteArray.empty 0 ∧ w'.heap.size = w.heap.size + 1 ∧ Fr (fun _ => False) w w' := by
  go_enter Try.func7, Try.ntmps7
  go_wp2
  go_ret
  exact ⟨rfl, ⟨.slice none 0 0, blk_new _ _, own_nil _ _ _ _, Nat.le_refl _, Nat.le_refl _, by decide⟩, by simp, (Fr.refl _ _).alloc _⟩

set_option maxHeartbeats 400000 in
theorem kept_any (b g : Nat) (s : ByteArray) (k : Nat) (w : World) (h : IsD w b g s k) :
    Calls Try.prog 16 #[.pointer (some ⟨g, 0, none⟩)] w fun e w' => e = .returned (.int .i64 k) ∧ w = w' := by
  obtain ⟨v, h1, _⟩ := h
  have hc := (blk_cell h1 1).trans rfl
  clear h1
  go_enter Try.func16, Try.ntmps16
  go_wp2
  go_ret
  exact ⟨rfl, rfl⟩

set_option maxHeartbeats 400000 in
theorem bytes_any (b g : Nat) (s : ByteArray) (k : Nat) (w : World) (h : IsD w b g s k) :
    Calls Try.prog 15 #[.pointer (some ⟨g, 0, none⟩)] w fun e w' => e = .returned (.string s) ∧ w = w' := by
  obtain ⟨v, h1, h2, _⟩ := h
  have hc := (blk_cell h1 0).trans rfl
  have hs := own_string (P := Try.prog) (src := 39) (e := 5) (dst := 9) Try.underlying39 Try.underlying5 Try.underlying9 h2
  rw [strOfNums_bytesOf] at hs
  clear h1 h2
  go_enter Try.func15, Try.ntmps15
  go_wp2
  go_ret
  exact ⟨rfl, rfl⟩

set_option maxHeartbeats 400000 in
theorem sync_any (b g : Nat) (s : ByteArray) (k : Nat) (w : World) (h : IsD w b g s k) :
    Calls Try.prog 10 #[.pointer (some ⟨g, 0, none⟩)] w fun e w' => e = .returned (.tuple #[]) ∧ IsD w' b g s s.size ∧ Fr (TD w b g) w w' := by
  obtain ⟨v, h1, h2, h3, h4, h5⟩ := h
  have hc0 := (blk_cell h1 0).trans rfl
  have hc1 := (blk_cell h1 1).trans rfl
  have hf1 := blk_frozen h1 1
  have H := Lib.hid (And.intro h1 h2)
  obtain ⟨A, c, rfl⟩ := own_slice h2
  clear h1 h2
  go_enter Try.func10, Try.ntmps10
  go_wp2
  go_end0
  have hf : Fr (TD w b g) w (w.setCell ⟨g, 1, none⟩ (.int .i64 s.size)) := (Fr.refl _ _).setCell (.inl ⟨h3, .inl rfl⟩) _
  refine ⟨rfl, ⟨_, by simpa using blk_set H.out.1 1 (.int .i64 s.size), ?_, h3, Nat.le_refl _, h5⟩, hf⟩
  exact own_setCell H.out.2 (fun e => by obtain ⟨_, cs, fr, hh⟩ := own_block_ty H.out.2 g e.symm; rw [H.out.1] at hh; simp at hh) _

theorem dset {w : World} {b g : Nat} {v v' : Value} {s' : ByteArray} {k k' : Nat} (h1 : w.heap[g]? = some (.cells #[v, .int .i64 k] 41 (0, 0))) (h2 : w.ownsRow b 5 1 v' s'.size (nums .u8 (bytesOf s'))) (h3 : b ≤ g) (h4 : k' ≤ s'.size) (h5 : s'.size ≤ 65536) :
    IsD ((w.setCell ⟨g, 0, none⟩ v').setCell ⟨g, 1, none⟩ (.int .i64 k')) b g s' k' := by
  have hne : some g ≠ v'.ownBlock := fun e => by
    obtain ⟨_, cs, fr, hh⟩ := own_block_ty h2 g e.symm
    rw [h1] at hh
    simp at hh
  refine ⟨v', ?_, own_setCell (own_setCell h2 hne _) hne _, h3, h4, h5⟩
  have q := blk_set (blk_set h1 0 v') 1 (.int .i64 k')
  simpa using q

theorem dset0 {w : World} {b g : Nat} {v v' : Value} {s' : ByteArray} {k : Nat} (h1 : w.heap[g]? = some (.cells #[v, .int .i64 k] 41 (0, 0))) (h2 : w.ownsRow b 5 1 v' s'.size (nums .u8 (bytesOf s'))) (h3 : b ≤ g) (h4 : k ≤ s'.size) (h5 : s'.size ≤ 65536) :
    IsD (w.setCell ⟨g, 0, none⟩ v') b g s' k := by
  have hne : some g ≠ v'.ownBlock := fun e => by
    obtain ⟨_, cs, fr, hh⟩ := own_block_ty h2 g e.symm
    rw [h1] at hh
    simp at hh
  refine ⟨v', ?_, own_setCell h2 hne _, h3, h4, h5⟩
  have q := blk_set h1 0 v'
  simpa using q

theorem own_cut {w : World} {b : Nat} {A : Option Addr} {c : Nat} {s : ByteArray} (h : w.ownsRow b 5 1 (.slice A s.size c) s.size (nums .u8 (bytesOf s))) (m : Nat) (hm : m ≤ s.size) :
    w.ownsRow b 5 1 (.slice A m c) (s.extract 0 m).size (nums .u8 (bytesOf (s.extract 0 m))) := by
  have e : (s.extract 0 m).size = m := by simp; omega
  have q := own_take h m hm
  rw [e, bytesOf_extract]
  have e2 : nums .u8 ((bytesOf s).take m) = (nums .u8 (bytesOf s)).take m := by simp [nums, List.map_take]
  rw [e2]
  exact q

/-- How many bytes a cut leaves. -/
def cutN (n : Int) (s : Nat) : Nat := if n ≤ 0 then 0 else if (s : Int) ≤ n then s else n.toNat
theorem cutN_le (n : Int) (s : Nat) : cutN n s ≤ s := by unfold cutN; split; (omega); split <;> omega

set_option maxHeartbeats 1000000 in
theorem cut_any (b g : Nat) (s : ByteArray) (k : Nat) (n : Int) (w : World) (h : IsD w b g s k) :
    Calls Try.prog 13 #[.pointer (some ⟨g, 0, none⟩), .int .i64 n] w fun e w' => e = .returned (.tuple #[]) ∧ IsD w' b g (s.extract 0 (cutN n s.size)) (cutN n s.size) ∧ Fr (TD w b g) w w' := by
  obtain ⟨v, h1, h2, h3, h4, h5⟩ := h
  have hc0 := (blk_cell h1 0).trans rfl
  have hf0 := blk_frozen h1 0
  have hc1 := (blk_cell h1 1).trans rfl
  have hf1 := blk_frozen h1 1
  obtain ⟨A, c, rfl⟩ := own_slice h2
  have hcap := own_le h2
  have hle := cutN_le n s.size
  have hs : (s.extract 0 (cutN n s.size)).size = cutN n s.size := by simp; omega
  have H := Lib.hid (And.intro h1 (And.intro (own_cut h2 _ hle) (And.intro hle hs)))
  clear h1 h2 hle hs
  have fin : ∀ m : Nat, cutN n s.size = m → IsD (((w.setCell ⟨g, 0, none⟩ (.slice A m c)).setCell ⟨g, 1, none⟩ (.int .i64 m))) b g (s.extract 0 (cutN n s.size)) (cutN n s.size) ∧ Fr (TD w b g) w (((w.setCell ⟨g, 0, none⟩ (.slice A m c)).setCell ⟨g, 1, none⟩ (.int .i64 m))) := by
    rintro m rfl
    exact ⟨dset H.out.1 H.out.2.1 h3 (by rw [H.out.2.2.2]; exact Nat.le_refl _) (by rw [H.out.2.2.2]; have := H.out.2.2.1; omega), ((Fr.refl _ _).setCell (.inl ⟨h3, .inl rfl⟩) _).setCell (.inl ⟨h3, .inl rfl⟩) _⟩
  have HF := Lib.hid fin
  clear fin
  by_cases hn0 : n < 0
  · go_enter Try.func13, Try.ntmps13
    go_wp2
    go_region
    go_wp2
    go_end0
    have q := HF.out 0 (by unfold cutN; rw [if_pos (by omega)])
    exact ⟨rfl, q.1, q.2.drew⟩
  · by_cases hn1 : (s.size : Int) < n
    · go_enter Try.func13, Try.ntmps13
      go_wp2
      go_region
      go_wp2
      go_end0
      have q := HF.out s.size (by unfold cutN; rw [if_neg (by omega), if_pos (by omega)])
      exact ⟨rfl, q.1, q.2.drew⟩
    · obtain ⟨m, rfl⟩ := Int.eq_ofNat_of_zero_le (by omega : 0 ≤ n)
      go_enter Try.func13, Try.ntmps13
      go_wp2
      go_region
      go_wp2
      go_end0
      have q := HF.out m (by unfold cutN; split; (omega); split <;> omega)
      exact ⟨rfl, q.1, q.2.drew⟩

/-- How many bytes a crash leaves. -/
def crashN (n : Int) (k s : Nat) : Nat := k + (n % 18446744073709551616).toNat % (s - k + 1)

theorem crash_num (n : Int) (k s : Nat) (hk : k ≤ s) (hs : s ≤ 65536) : IntKind.i64.wrap ((k : Int) + IntKind.i64.wrap ((IntKind.u64.wrap n).tmod ((s : Int) - k + 1))) = (crashN n k s : Int) := by
  unfold crashN
  have hw : IntKind.u64.wrap n = n % 18446744073709551616 := by simp [IntKind.wrap, IntKind.signed, IntKind.bits]
  rw [hw]
  have h0 : 0 ≤ n % 18446744073709551616 := Int.emod_nonneg _ (by omega)
  obtain ⟨m, hm⟩ := Int.eq_ofNat_of_zero_le h0
  rw [hm]
  simp only [Int.toNat_natCast]
  have e : (s : Int) - k + 1 = ((s - k + 1 : Nat) : Int) := by omega
  rw [e, Int.tmod_eq_emod_of_nonneg (by omega)]
  have hlt := Nat.mod_lt m (by omega : 0 < s - k + 1)
  have em : (m : Int) % ((s - k + 1 : Nat) : Int) = ((m % (s - k + 1) : Nat) : Int) := by omega
  rw [em]
  generalize m % (s - k + 1) = q at *
  have e1 : IntKind.i64.wrap (q : Int) = q := IntWalk.i64_in _ (by omega)
  rw [e1]
  have e2 : IntKind.i64.wrap ((k : Int) + q) = k + q := IntWalk.i64_in _ (by omega)
  rw [e2]
  omega
theorem crashN_le (n : Int) (k s : Nat) (hk : k ≤ s) : crashN n k s ≤ s ∧ k ≤ crashN n k s := by
  unfold crashN
  have := Nat.mod_lt ((n % 18446744073709551616).toNat) (by omega : 0 < s - k + 1)
  omega
theorem cutN_crash (n : Int) (k s : Nat) (hk : k ≤ s) : cutN (crashN n k s) s = crashN n k s := by
  have := crashN_le n k s hk
  unfold cutN; split; (omega); split <;> omega

set_option maxHeartbeats 1000000 in
theorem crash_any (b g : Nat) (s : ByteArray) (k : Nat) (n : Int) (w : World) (h : IsD w b g s k) :
    Calls Try.prog 11 #[.pointer (some ⟨g, 0, none⟩), .int .i64 n] w fun e w' => e = .returned (.tuple #[]) ∧ IsD w' b g (s.extract 0 (crashN n k s.size)) (crashN n k s.size) ∧ Fr (TD w b g) w w' := by
  have h' := h
  obtain ⟨v, h1, h2, h3, h4, h5⟩ := h
  have hc0 := (blk_cell h1 0).trans rfl
  have hc1 := (blk_cell h1 1).trans rfl
  obtain ⟨A, c, rfl⟩ := own_slice h2
  have HN := Lib.hid (crash_num n k s.size h4 h5)
  have HC := Lib.hid (cutN_crash n k s.size h4)
  have HD := Lib.hid h'
  clear h1 h2 h'
  go_enter Try.func11, Try.ntmps11
  go_wp2
  go_region
  go_wp2
  have e1 : IntKind.u64.wrap ((s.size : Int) - k + 1) = (s.size : Int) - k + 1 := by simp [IntKind.wrap, IntKind.signed, IntKind.bits]; omega
  have e2 : ((s.size : Int) - k + 1 == 0) = false := by simp; omega
  have e3 : ¬ ((s.size : Int) - k + 1 = 0) := by omega
  go_region_with (go_at_call 13; rw [HN.out]; refine (cut_any b g s k _ _ (by exact HD.out)).mono ?_; rintro e w1 ⟨rfl, hd, hf⟩; have H1 := Lib.hid (And.intro hd hf); clear hd hf)
  go_wp2
  go_end0
  have q := H1.out
  rw [HC.out] at q
  have q2 : Fr (TD w b g) (w.drewN 2) w1 := q.2
  exact ⟨rfl, q.1, q2.und⟩

set_option maxHeartbeats 1000000 in
theorem dapp_full (b g : Nat) (s t : ByteArray) (k : Nat) (w : World) (h : IsD w b g s k) (ht : t.size ≤ 1000000) (hs : 65536 < s.size + t.size) :
    Calls Try.prog 8 #[.pointer (some ⟨g, 0, none⟩), .string t] w fun e w' => e = .returned (.int .i64 6) ∧ w = w' := by
  obtain ⟨v, h1, h2, h3, h4, h5⟩ := h
  have hc0 := (blk_cell h1 0).trans rfl
  obtain ⟨A, c, rfl⟩ := own_slice h2
  clear h1 h2
  have hd : decide ((65536 : Int) < (s.size : Int) + (t.size : Int)) = true := by simp; omega
  go_enter Try.func8, Try.ntmps8
  go_wp2
  go_ret
  exact ⟨rfl, rfl⟩

set_option maxHeartbeats 1000000 in
theorem dapp_any (b g : Nat) (s t : ByteArray) (k : Nat) (w : World) (h : IsD w b g s k) (hs : s.size + t.size ≤ 65536) :
    Calls Try.prog 8 #[.pointer (some ⟨g, 0, none⟩), .string t] w fun e w' => e = .returned (.int .i64 0) ∧ IsD w' b g (s ++ t) k ∧ Fr (TD w b g) w w' := by
  obtain ⟨v, h1, h2, h3, h4, h5⟩ := h
  have hc0 := (blk_cell h1 0).trans rfl
  have hf0 := blk_frozen h1 0
  have ht : t.size ≤ 65536 := by omega
  have hg : g < w.heap.size := blk_lt h1
  have H := Lib.hid (And.intro h1 h2)
  obtain ⟨A, c, rfl⟩ := own_slice h2
  have H2 : Hid (w.ownsRow b 5 1 (.slice A s.size c) (bytesOf s).length (nums .u8 (bytesOf s))) := Lib.hid (by rw [bytesOf_length]; exact h2)
  have H3 : Hid ((bytesOf s).length + t.size ≤ 140737488355328) := Lib.hid (by rw [bytesOf_length]; omega)
  clear h1 h2
  have hd : decide ((65536 : Int) < (s.size : Int) + (t.size : Int)) = false := by simp; omega
  go_enter Try.func8, Try.ntmps8
  go_wp2_with (at_builtin; refine print_append_str (w0 := w) b rfl _ _ 39 9 5 rfl Try.underlying39 Try.underlying9 info5 _ (bytesOf s) t rfl rfl H2.out (Below.refl _ _) (Nat.le_of_lt (Nat.lt_of_le_of_lt h3 hg)) H3.out ?_; intro v1 w1 ho hB hgr; obtain ⟨A1, c1, rfl⟩ := own_slice ho; have hb1 := blk_grown H.out.1 hgr (own_ne H.out.2 H.out.1 (by decide)); have hc1 := (blk_cell hb1 0).trans rfl; have hf1 := blk_frozen hb1 0; have H4 := Lib.hid (And.intro ho (And.intro hgr hb1)); clear ho hB hgr hb1)
  go_ret
  have e1 : (s ++ t).size = s.size + t.size := by simp
  have e2 : (bytesOf s ++ bytesOf t).length = (s ++ t).size := by rw [List.length_append, bytesOf_length, bytesOf_length, e1]
  obtain ⟨ho, hgr, hb⟩ := H4.out
  rw [e2, ← bytesOf_append] at ho
  refine ⟨rfl, dset0 hb (by rw [← List.length_append, e2]; exact ho) h3 (by omega) (by omega), ?_⟩
  have f1 := Fr.of_grown hgr
  refine (f1.mono fun i _ hi => ?_).setCell (.inl ⟨h3, .inl rfl⟩) _
  have q := own_block_ty H.out.2 i hi.symm
  exact ⟨q.1, .inr q.2⟩

set_option maxHeartbeats 400000 in
theorem dapp_nil (t : ByteArray) (w : World) :
    Calls Try.prog 8 #[.pointer none, .string t] w fun e w' => e = .returned (.int .i64 9) ∧ w = w' := by
  go_enter Try.func8, Try.ntmps8
  go_wp2
  go_ret
  exact ⟨rfl, rfl⟩

set_option maxHeartbeats 400000 in
theorem sync_nil (w : World) :
    Calls Try.prog 10 #[.pointer none] w fun e w' => e = .returned (.tuple #[]) ∧ w = w' := by
  go_enter Try.func10, Try.ntmps10
  go_wp2
  go_end0
  exact ⟨rfl, rfl⟩

set_option maxHeartbeats 400000 in
theorem crash_nil (n : Int) (w : World) :
    Calls Try.prog 11 #[.pointer none, .int .i64 n] w fun e w' => e = .returned (.tuple #[]) ∧ w = w' := by
  go_enter Try.func11, Try.ntmps11
  go_wp2
  exact bodyPost_ret (results_none rfl _ _ _) rfl ⟨rfl, rfl⟩

set_option maxHeartbeats 400000 in
theorem cut_nil (n : Int) (w : World) :
    Calls Try.prog 13 #[.pointer none, .int .i64 n] w fun e w' => e = .returned (.tuple #[]) ∧ w = w' := by
  go_enter Try.func13, Try.ntmps13
  go_wp2
  exact bodyPost_ret (results_none rfl _ _ _) rfl ⟨rfl, rfl⟩

set_option maxHeartbeats 400000 in
theorem bytes_nil (w : World) :
    Calls Try.prog 15 #[.pointer none] w fun e w' => e = .returned (.string ByteArray.empty) ∧ w = w' := by
  go_enter Try.func15, Try.ntmps15
  go_wp2
  go_ret
  exact ⟨rfl, rfl⟩

set_option maxHeartbeats 400000 in
theorem kept_nil (w : World) :
    Calls Try.prog 16 #[.pointer none] w fun e w' => e = .returned (.int .i64 0) ∧ w = w' := by
  go_enter Try.func16, Try.ntmps16
  go_wp2
  go_ret
  exact ⟨rfl, rfl⟩


theorem TD.ge {w : World} {b g i : Nat} (h : TD w b g i) : b ≤ i := h.1

theorem made_string (W : World) : (convert 39 9 (.slice (some ⟨W.heap.size, 0, none⟩) 65536 65536)).run Try.prog (W.alloc (.cells (madeCells #[.int .u8 0] 65536) 5)) = .ok (.string (strOfNums (List.replicate 65536 0))) (W.alloc (.cells (madeCells #[.int .u8 0] 65536) 5)) :=
  own_string (P := Try.prog) (src := 39) (e := 5) (dst := 9) Try.underlying39 Try.underlying5 Try.underlying9 (own_made W 0 5 .u8 65536 (Nat.zero_le _) (by omega))

theorem awake_lits : crashN 2 3 6 = 5 ∧ cutN 1 5 = 1 := by decide

set_option maxHeartbeats 1000000 in
theorem awake_any (w : World) :
    Calls Try.prog 6 #[] w fun e w' => e = .returned (.bool true) ∧ Fr (fun _ => False) w w' := by
  have hmk : ∀ W : World, (Instr.makeSlice 39 (.int .i64 65536) (.int .i64 65536)).run Try.prog W = .ok (.slice (some ⟨W.heap.size, 0, none⟩) 65536 65536) (W.alloc (.cells (madeCells #[.int .u8 0] 65536) 5)) := print_make (P := Try.prog) 39 5 .u8 1 Try.underlying39 info5 (by omega) 65536 (by omega)
  have hcv := made_string
  have HS : Hid ((strOfNums (List.replicate 65536 0)).size = 65536) := Lib.hid (by rw [strOfNums_size, List.length_replicate])
  generalize strOfNums (List.replicate 65536 0) = Z at *
  generalize madeCells #[.int .u8 0] 65536 = M at *
  go_enter Try.func6, Try.ntmps6
  go_wp2_with fail
  go_at_call 7
  refine (dnew_any _).mono ?_
  rintro e w1 ⟨rfl, hd, hz, hf⟩
  have H1 := Lib.hid (And.intro hd hf); clear hd hf
  go_wp2_with fail
  go_at_call 8
  refine (dapp_any _ _ _ _ _ _ H1.out.1 (by decide)).mono ?_
  rintro e w2 ⟨rfl, hd, hf⟩
  have H2 := Lib.hid (And.intro hd (H1.out.2.own hf (fun _ h => h.1))); clear hd hf
  go_wp2_with fail
  go_at_call 10
  refine (sync_any _ _ _ _ _ H2.out.1).mono ?_
  rintro e w3 ⟨rfl, hd, hf⟩
  have H3 := Lib.hid (And.intro hd (H2.out.2.own hf (fun _ h => h.1))); clear hd hf
  go_wp2_with fail
  go_at_call 8
  refine (dapp_any _ _ _ _ _ _ H3.out.1 (by decide)).mono ?_
  rintro e w4 ⟨rfl, hd, hf⟩
  have H4 := Lib.hid (And.intro hd (H3.out.2.own hf (fun _ h => h.1))); clear hd hf
  go_wp2_with fail
  go_at_call 11
  refine (crash_any _ _ _ _ _ _ H4.out.1).mono ?_
  rintro e w5 ⟨rfl, hd, hf⟩
  have H5 := Lib.hid (And.intro hd (H4.out.2.own hf (fun _ h => h.1))); clear hd hf
  have hs5 : (((ByteArray.empty ++ ⟨#[97, 98, 99]⟩) ++ ⟨#[100, 101, 102]⟩ : ByteArray).extract 0 (crashN 2 (ByteArray.empty ++ ⟨#[97, 98, 99]⟩ : ByteArray).size ((ByteArray.empty ++ ⟨#[97, 98, 99]⟩) ++ ⟨#[100, 101, 102]⟩ : ByteArray).size)) = ⟨#[97, 98, 99, 100, 101]⟩ := by decide
  have hk5 : crashN 2 (ByteArray.empty ++ ⟨#[97, 98, 99]⟩ : ByteArray).size ((ByteArray.empty ++ ⟨#[97, 98, 99]⟩) ++ ⟨#[100, 101, 102]⟩ : ByteArray).size = 5 := by decide
  have H6 : Hid (IsD w5 w.heap.size w.heap.size ⟨#[97, 98, 99, 100, 101]⟩ 5 ∧ Fr (fun _ => False) w w5) := Lib.hid ⟨by have q := H5.out.1; rw [hs5, hk5] at q; exact q, H5.out.2⟩
  clear hs5 hk5
  go_wp2_with fail
  go_at_call 15
  refine (bytes_any _ _ _ _ _ H6.out.1).mono ?_
  rintro e w6 ⟨rfl, rfl⟩
  go_wp2_with fail
  go_at_call 16
  refine (kept_any _ _ _ _ _ H6.out.1).mono ?_
  rintro e w6 ⟨rfl, rfl⟩
  go_wp2_with fail
  go_at_call 13
  refine (cut_any _ _ _ _ _ _ H6.out.1).mono ?_
  rintro e w7 ⟨rfl, hd, hf⟩
  have hs7 : (⟨#[97, 98, 99, 100, 101]⟩ : ByteArray).extract 0 (cutN 1 (⟨#[97, 98, 99, 100, 101]⟩ : ByteArray).size) = ⟨#[97]⟩ := by decide
  have hk7 : cutN 1 (⟨#[97, 98, 99, 100, 101]⟩ : ByteArray).size = 1 := by decide
  rw [hs7, hk7] at hd
  have H7 := Lib.hid (And.intro hd (H6.out.2.own hf (fun _ h => h.1))); clear hd hf hs7 hk7
  go_wp2_with fail
  go_at_call 15
  refine (bytes_any _ _ _ _ _ H7.out.1).mono ?_
  rintro e w6 ⟨rfl, rfl⟩
  go_wp2_with fail
  go_at_call 8
  refine (dapp_full w.heap.size w.heap.size ⟨#[97]⟩ Z 1 _ (by exact H7.out.1.fr ((Fr.refl (fun _ => False) _).alloc _) (by simp)) (by rw [HS.out]; decide) (by rw [HS.out]; decide)).mono ?_
  rintro e w8 ⟨rfl, rfl⟩
  go_wp2_with fail
  go_ret
  exact ⟨rfl, H7.out.2.alloc _⟩

end Go.Proofs.Ytnbimbcnfhninaa
