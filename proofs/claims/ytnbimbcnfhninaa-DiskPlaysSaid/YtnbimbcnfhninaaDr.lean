/- The reference's disk, by walks. -/
import Derived.Test.YtnbimbcnfhninaaDc
namespace Go.Proofs.Ytnbimbcnfhninaa
open Go.RowKit Go.Proofs.YtnbimbcnfhninaaW.PrintWords

def IsR (w : World) (g : Nat) (s : ByteArray) (k : Nat) : Prop := w.heap[g]? = some (.cells #[.string s, .int .i64 k] 28 (0, 0))
theorem IsR.fr {w w' : World} {g : Nat} {s : ByteArray} {k : Nat} {S : Nat → Prop} (h : IsR w g s k) (hf : Fr S w w') (hs : ¬ S g) : IsR w' g s k := hf.blk h hs
theorem IsR.lt {w : World} {g : Nat} {s : ByteArray} {k : Nat} (h : IsR w g s k) : g < w.heap.size := blk_lt h

set_option maxHeartbeats 1000000 in
theorem rapp_full (g : Nat) (s t : ByteArray) (k : Nat) (w : World) (h : IsR w g s k) (hs1 : s.size ≤ 65536) (ht : t.size ≤ 1000000) (hs : 65536 < s.size + t.size) :
    Calls Try.prog 9 #[.pointer (some ⟨g, 0, none⟩), .string t] w fun e w' => e = .returned (.int .i64 6) ∧ w = w' := by
  have hc0 := (blk_cell h 0).trans rfl
  clear h
  have hd : decide ((65536 : Int) < (s.size : Int) + (t.size : Int)) = true := by simp; omega
  go_enter Try.func9, Try.ntmps9
  go_wp2
  go_ret
  exact ⟨rfl, rfl⟩

set_option maxHeartbeats 1000000 in
theorem rapp_any (g : Nat) (s t : ByteArray) (k : Nat) (w : World) (h : IsR w g s k) (hs : s.size + t.size ≤ 65536) :
    Calls Try.prog 9 #[.pointer (some ⟨g, 0, none⟩), .string t] w fun e w' => e = .returned (.int .i64 0) ∧ IsR w' g (s ++ t) k ∧ Fr (· = g) w w' := by
  have hc0 := (blk_cell h 0).trans rfl
  have hf0 := blk_frozen h 0
  have hs1 : s.size ≤ 65536 := by omega
  have ht : t.size ≤ 65536 := by omega
  have H := Lib.hid h
  clear h
  have hd : decide ((65536 : Int) < (s.size : Int) + (t.size : Int)) = false := by simp; omega
  go_enter Try.func9, Try.ntmps9
  go_wp2
  go_ret
  refine ⟨rfl, ?_, (Fr.refl _ _).setCell (by simp) _⟩
  simpa [IsR] using blk_set H.out 0 (.string (s ++ t))

theorem rset {w : World} {g : Nat} {s s' : ByteArray} {k k' : Nat} (h : IsR w g s k) : IsR ((w.setCell ⟨g, 0, none⟩ (.string s')).setCell ⟨g, 1, none⟩ (.int .i64 k')) g s' k' := by
  simpa [IsR] using blk_set (blk_set h 0 (.string s')) 1 (.int .i64 k')

set_option maxHeartbeats 1000000 in
theorem rcut_any (g : Nat) (s : ByteArray) (k : Nat) (n : Int) (w : World) (h : IsR w g s k) (hs : s.size ≤ 65536) :
    Calls Try.prog 14 #[.pointer (some ⟨g, 0, none⟩), .int .i64 n] w fun e w' => e = .returned (.tuple #[]) ∧ IsR w' g (s.extract 0 (cutN n s.size)) (cutN n s.size) ∧ Fr (· = g) w w' := by
  have hc0 := (blk_cell h 0).trans rfl
  have hf0 := blk_frozen h 0
  have hc1 := (blk_cell h 1).trans rfl
  have hf1 := blk_frozen h 1
  have HF : Hid (∀ m : Nat, cutN n s.size = m → IsR ((w.setCell ⟨g, 0, none⟩ (.string (s.extract 0 m))).setCell ⟨g, 1, none⟩ (.int .i64 m)) g (s.extract 0 (cutN n s.size)) (cutN n s.size) ∧ Fr (· = g) w ((w.setCell ⟨g, 0, none⟩ (.string (s.extract 0 m))).setCell ⟨g, 1, none⟩ (.int .i64 m))) := by
    refine Lib.hid ?_
    rintro m rfl
    exact ⟨rset h, ((Fr.refl _ _).setCell (by simp) _).setCell (by simp) _⟩
  clear h
  by_cases hn0 : n < 0
  · have hz : (s.extract 0 0).size = 0 := by simp
    go_enter Try.func14, Try.ntmps14
    go_wp2
    go_region
    go_wp2
    go_end0
    have q := HF.out 0 (by unfold cutN; rw [if_pos (by omega)])
    have e0 : s.extract 0 0 = ByteArray.empty := by simp
    rw [e0] at q
    exact ⟨rfl, q.1, q.2.drew⟩
  · by_cases hn1 : (s.size : Int) < n
    · have hz : (s.extract 0 s.size).size = s.size := by simp
      go_enter Try.func14, Try.ntmps14
      go_wp2
      go_region
      go_wp2
      go_end0
      have q := HF.out s.size (by unfold cutN; rw [if_neg (by omega), if_pos (by omega)])
      rw [extract_whole] at q
      exact ⟨rfl, q.1, q.2.drew⟩
    · obtain ⟨m, rfl⟩ := Int.eq_ofNat_of_zero_le (by omega : 0 ≤ n)
      have hz : (s.extract 0 m).size = m := by simp; omega
      go_enter Try.func14, Try.ntmps14
      go_wp2
      go_region
      go_wp2
      go_end0
      have q := HF.out m (by unfold cutN; split; (omega); split <;> omega)
      exact ⟨rfl, q.1, q.2.drew⟩

set_option maxHeartbeats 1000000 in
theorem rcrash_any (g : Nat) (s : ByteArray) (k : Nat) (n : Int) (w : World) (h : IsR w g s k) (hk : k ≤ s.size) (hs : s.size ≤ 65536) :
    Calls Try.prog 12 #[.pointer (some ⟨g, 0, none⟩), .int .i64 n] w fun e w' => e = .returned (.tuple #[]) ∧ IsR w' g (s.extract 0 (crashN n k s.size)) (crashN n k s.size) ∧ Fr (· = g) w w' := by
  have hc0 := (blk_cell h 0).trans rfl
  have hf0 := blk_frozen h 0
  have hc1 := (blk_cell h 1).trans rfl
  have hf1 := blk_frozen h 1
  have HN := crash_num n k s.size hk hs
  have HN2 : wrap64 ((k : Int) + wrap64 ((IntKind.u64.wrap n).tmod ((s.size : Int) - k + 1))) = (crashN n k s.size : Int) := by rw [IntKind.wrap_i64, IntKind.wrap_i64] at HN; unfold wrap64; exact HN
  have HC := crashN_le n k s.size hk
  have HF : Hid (∀ m : Nat, crashN n k s.size = m → IsR ((w.setCell ⟨g, 0, none⟩ (.string (s.extract 0 m))).setCell ⟨g, 1, none⟩ (.int .i64 m)) g (s.extract 0 (crashN n k s.size)) (crashN n k s.size) ∧ Fr (· = g) w ((w.setCell ⟨g, 0, none⟩ (.string (s.extract 0 m))).setCell ⟨g, 1, none⟩ (.int .i64 m))) := by
    refine Lib.hid ?_
    rintro m rfl
    exact ⟨rset h, ((Fr.refl _ _).setCell (by simp) _).setCell (by simp) _⟩
  clear h
  generalize crashN n k s.size = m at *
  obtain ⟨hm, hkm⟩ := HC
  have hz : (s.extract 0 m).size = m := by simp; omega
  have e1 : IntKind.u64.wrap ((s.size : Int) - k + 1) = (s.size : Int) - k + 1 := by simp [IntKind.wrap, IntKind.signed, IntKind.bits]; omega
  have e2 : ((s.size : Int) - k + 1 == 0) = false := by simp; omega
  have e3 : ¬ ((s.size : Int) - k + 1 = 0) := by omega
  go_enter Try.func12, Try.ntmps12
  go_wp2
  go_region
  go_wp2
  go_region
  go_wp2
  go_end0
  have q := HF.out m rfl
  exact ⟨rfl, q.1, q.2.drewN 2⟩

end Go.Proofs.Ytnbimbcnfhninaa
