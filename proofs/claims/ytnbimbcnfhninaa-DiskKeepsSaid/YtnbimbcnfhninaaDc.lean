/- DiskCuts, by a walk. -/
import Derived.Test.YtnbimbcnfhninaaDk
namespace Go.Proofs.Ytnbimbcnfhninaa
open Go.RowKit Go.Proofs.YtnbimbcnfhninaaW.PrintWords

theorem bytes_q (b g : Nat) (s : ByteArray) (k : Nat) (w : World) (h : IsD w b g s k) (n : Nat) :
    Calls Try.prog 15 #[.pointer (some ⟨g, 0, none⟩)] (w.drewN n) fun e w' => e = .returned (.string s) ∧ w' = w.drewN n :=
  (bytes_any b g s k (w.drewN n) h).mono fun _ _ k => ⟨k.1, k.2.symm⟩
theorem kept_q (b g : Nat) (s : ByteArray) (k : Nat) (w : World) (h : IsD w b g s k) (n : Nat) :
    Calls Try.prog 16 #[.pointer (some ⟨g, 0, none⟩)] (w.drewN n) fun e w' => e = .returned (.int .i64 k) ∧ w' = w.drewN n :=
  (kept_any b g s k (w.drewN n) h).mono fun _ _ k => ⟨k.1, k.2.symm⟩
theorem bytesOf_inj {s t : ByteArray} (h : bytesOf s = bytesOf t) : s = t := by rw [← strOfNums_bytesOf s, ← strOfNums_bytesOf t, h]
theorem extract_join (p b : ByteArray) : (p ++ b).extract 0 p.size = p := by
  apply bytesOf_inj
  rw [bytesOf_extract, bytesOf_append]
  simp [← bytesOf_length p]
theorem extract_whole (p : ByteArray) : p.extract 0 p.size = p := by
  apply bytesOf_inj
  rw [bytesOf_extract, ← bytesOf_length p, List.take_length]
theorem crashN_zero (k s : Nat) (h : k ≤ s) : crashN 0 k s = k := by simp [crashN]
theorem crashN_all (n : Int) (k : Nat) : crashN n k k = k := by simp [crashN, Nat.mod_one]

/-- A disk's beginning m of a, b behind it, and a crash of nothing kept: back to the beginning. -/
theorem cuts_back (p b : ByteArray) : (p ++ b).extract 0 (crashN 0 p.size (p ++ b).size) = p ∧ crashN 0 p.size (p ++ b).size = p.size := by
  have e : (p ++ b).size = p.size + b.size := by simp
  have q := crashN_zero p.size (p ++ b).size (by omega)
  rw [q]
  exact ⟨extract_join p b, rfl⟩

set_option maxHeartbeats 2000000 in
theorem cuts_lo (a b : ByteArray) (n : Int) (w : World) (ha : a.size + b.size ≤ 3000) (hn : n < 0) :
    Calls Try.prog 5 #[.string a, .string b, .int .i64 n] w fun e w' => e = .returned (.bool true) ∧ Fr (fun _ => False) w w' := by
  have ha1 : a.size ≤ 3000 := by omega
  have hb1 : b.size ≤ 3000 := by omega
  have hd : decide ((3000 : Int) < (a.size : Int) + (b.size : Int)) = false := by simp; omega
  have HM : Hid (cutN n a.size = 0) := Lib.hid (by unfold cutN; rw [if_pos (by omega)])
  have HP : Hid ((a.extract 0 (0)).size = 0) := Lib.hid (by simp)
  go_enter Try.func5, Try.ntmps5
  go_wp2_with fail
  go_at_call 6
  refine (awake_any _).mono ?_
  rintro e w1 ⟨rfl, hf1⟩
  have H1 := Lib.hid hf1; clear hf1
  go_wp2_with fail
  go_at_call 7
  refine (dnew_any _).mono ?_
  rintro e w2 ⟨rfl, hd, hz, hf⟩
  have HS : Hid (w.heap.size ≤ w1.heap.size) := Lib.hid H1.out.size
  have H2 := Lib.hid (And.intro hd (H1.out.trans hf)); clear hd hf hz
  go_wp2_with fail
  go_at_call 8
  refine (dapp_any _ _ _ _ _ _ H2.out.1 (by rw [ByteArray.size_empty]; omega)).mono ?_
  rintro e w3 ⟨rfl, hd, hf⟩
  have H3 : Hid (IsD w3 w1.heap.size w1.heap.size a 0 ∧ Fr (fun _ => False) w w3) := Lib.hid ⟨by simpa using hd, H2.out.2.own hf (fun _ h => Nat.le_trans HS.out h.1)⟩; clear hd hf
  go_wp2_with fail
  go_at_call 16
  refine (kept_any _ _ _ _ _ H3.out.1).mono ?_
  rintro e w4 ⟨rfl, rfl⟩
  go_wp2_with fail
  go_at_call 13
  refine (cut_any _ _ _ _ _ _ H3.out.1).mono ?_
  rintro e w5 ⟨rfl, hd, hf⟩
  rw [HM.out] at hd
  have H5 := Lib.hid (And.intro hd (H3.out.2.own hf (fun _ h => Nat.le_trans HS.out h.1))); clear hd hf
  go_wp2_with fail
  go_at_call 16
  refine (kept_any _ _ _ _ _ H5.out.1).mono ?_
  rintro e w6 ⟨rfl, rfl⟩
  go_wp2_with fail
  go_at_call 8
  refine (dapp_any _ _ _ _ _ _ H5.out.1 (by rw [HP.out]; omega)).mono ?_
  rintro e w7 ⟨rfl, hd, hf⟩
  have H7 := Lib.hid (And.intro hd (H5.out.2.own hf (fun _ h => Nat.le_trans HS.out h.1))); clear hd hf
  go_wp2_with fail
  go_at_call 11
  refine (crash_any _ _ _ _ _ _ H7.out.1).mono ?_
  rintro e w8 ⟨rfl, hd, hf⟩
  have H8 : Hid (IsD w8 w1.heap.size w1.heap.size (a.extract 0 (0)) (0) ∧ Fr (fun _ => False) w w8) := Lib.hid ⟨by
    have c := cuts_back (a.extract 0 (0)) b
    rw [HP.out] at c
    rw [c.1, c.2] at hd
    exact hd, H7.out.2.own hf (fun _ h => Nat.le_trans HS.out h.1)⟩; clear hd hf
  go_wp2_with fail
  go_quiet ((go_at_call 15; exact Calls.quiet_of_same (bytes_q _ _ _ _ _ H8.out.1 _)))
  go_wp2_with fail
  go_at_call 8
  refine (dapp_any _ _ _ _ _ _ (by exact H8.out.1) (by rw [HP.out]; omega)).mono ?_
  rintro e w10 ⟨rfl, hd, hf⟩
  have H10 : Hid (IsD w10 w1.heap.size w1.heap.size (a.extract 0 (0) ++ b) (0) ∧ Fr (fun _ => False) w w10) := Lib.hid ⟨hd, (H8.out.2.drewN _).own hf (fun _ h => Nat.le_trans HS.out h.1)⟩; clear hd hf
  go_wp2_with fail
  go_at_call 10
  refine (sync_any _ _ _ _ _ H10.out.1).mono ?_
  rintro e w11 ⟨rfl, hd, hf⟩
  have H11 := Lib.hid (And.intro hd (H10.out.2.own hf (fun _ h => Nat.le_trans HS.out h.1))); clear hd hf
  go_wp2_with fail
  go_at_call 11
  refine (crash_any _ _ _ _ _ _ H11.out.1).mono ?_
  rintro e w12 ⟨rfl, hd, hf⟩
  have H12 : Hid (IsD w12 w1.heap.size w1.heap.size (a.extract 0 (0) ++ b) (0 + b.size) ∧ Fr (fun _ => False) w w12) := Lib.hid ⟨by
    rw [crashN_all, extract_whole] at hd
    have e1 : (a.extract 0 (0) ++ b).size = 0 + b.size := by rw [ByteArray.size_append, HP.out]
    rw [e1] at hd
    exact hd, H11.out.2.own hf (fun _ h => Nat.le_trans HS.out h.1)⟩; clear hd hf
  go_wp2_with fail
  go_quiet ((first | (go_at_call 15; exact Calls.quiet_of_same (bytes_q _ _ _ _ _ H12.out.1 _)) | (go_at_call 16; exact Calls.quiet_of_same (kept_q _ _ _ _ _ H12.out.1 _))))
  go_wp2_with fail
  go_ret
  exact ⟨rfl, H12.out.2.drewN _⟩

set_option maxHeartbeats 2000000 in
theorem cuts_hi (a b : ByteArray) (n : Int) (w : World) (ha : a.size + b.size ≤ 3000) (hn : (a.size : Int) < n) :
    Calls Try.prog 5 #[.string a, .string b, .int .i64 n] w fun e w' => e = .returned (.bool true) ∧ Fr (fun _ => False) w w' := by
  have ha1 : a.size ≤ 3000 := by omega
  have hb1 : b.size ≤ 3000 := by omega
  have hd : decide ((3000 : Int) < (a.size : Int) + (b.size : Int)) = false := by simp; omega
  have HM : Hid (cutN n a.size = a.size) := Lib.hid (by unfold cutN; rw [if_neg (by omega), if_pos (by omega)])
  have HP : Hid ((a.extract 0 (a.size)).size = a.size) := Lib.hid (by simp)
  go_enter Try.func5, Try.ntmps5
  go_wp2_with fail
  go_at_call 6
  refine (awake_any _).mono ?_
  rintro e w1 ⟨rfl, hf1⟩
  have H1 := Lib.hid hf1; clear hf1
  go_wp2_with fail
  go_at_call 7
  refine (dnew_any _).mono ?_
  rintro e w2 ⟨rfl, hd, hz, hf⟩
  have HS : Hid (w.heap.size ≤ w1.heap.size) := Lib.hid H1.out.size
  have H2 := Lib.hid (And.intro hd (H1.out.trans hf)); clear hd hf hz
  go_wp2_with fail
  go_at_call 8
  refine (dapp_any _ _ _ _ _ _ H2.out.1 (by rw [ByteArray.size_empty]; omega)).mono ?_
  rintro e w3 ⟨rfl, hd, hf⟩
  have H3 : Hid (IsD w3 w1.heap.size w1.heap.size a 0 ∧ Fr (fun _ => False) w w3) := Lib.hid ⟨by simpa using hd, H2.out.2.own hf (fun _ h => Nat.le_trans HS.out h.1)⟩; clear hd hf
  go_wp2_with fail
  go_at_call 16
  refine (kept_any _ _ _ _ _ H3.out.1).mono ?_
  rintro e w4 ⟨rfl, rfl⟩
  go_wp2_with fail
  go_at_call 13
  refine (cut_any _ _ _ _ _ _ H3.out.1).mono ?_
  rintro e w5 ⟨rfl, hd, hf⟩
  rw [HM.out] at hd
  have H5 := Lib.hid (And.intro hd (H3.out.2.own hf (fun _ h => Nat.le_trans HS.out h.1))); clear hd hf
  go_wp2_with fail
  go_at_call 16
  refine (kept_any _ _ _ _ _ H5.out.1).mono ?_
  rintro e w6 ⟨rfl, rfl⟩
  go_wp2_with fail
  go_at_call 8
  refine (dapp_any _ _ _ _ _ _ H5.out.1 (by rw [HP.out]; omega)).mono ?_
  rintro e w7 ⟨rfl, hd, hf⟩
  have H7 := Lib.hid (And.intro hd (H5.out.2.own hf (fun _ h => Nat.le_trans HS.out h.1))); clear hd hf
  go_wp2_with fail
  go_at_call 11
  refine (crash_any _ _ _ _ _ _ H7.out.1).mono ?_
  rintro e w8 ⟨rfl, hd, hf⟩
  have H8 : Hid (IsD w8 w1.heap.size w1.heap.size (a.extract 0 (a.size)) (a.size) ∧ Fr (fun _ => False) w w8) := Lib.hid ⟨by
    have c := cuts_back (a.extract 0 (a.size)) b
    rw [HP.out] at c
    rw [c.1, c.2] at hd
    exact hd, H7.out.2.own hf (fun _ h => Nat.le_trans HS.out h.1)⟩; clear hd hf
  go_wp2_with fail
  go_quiet ((go_at_call 15; exact Calls.quiet_of_same (bytes_q _ _ _ _ _ H8.out.1 _)))
  go_wp2_with fail
  go_at_call 8
  refine (dapp_any _ _ _ _ _ _ (by exact H8.out.1) (by rw [HP.out]; omega)).mono ?_
  rintro e w10 ⟨rfl, hd, hf⟩
  have H10 : Hid (IsD w10 w1.heap.size w1.heap.size (a.extract 0 (a.size) ++ b) (a.size) ∧ Fr (fun _ => False) w w10) := Lib.hid ⟨hd, (H8.out.2.drewN _).own hf (fun _ h => Nat.le_trans HS.out h.1)⟩; clear hd hf
  go_wp2_with fail
  go_at_call 10
  refine (sync_any _ _ _ _ _ H10.out.1).mono ?_
  rintro e w11 ⟨rfl, hd, hf⟩
  have H11 := Lib.hid (And.intro hd (H10.out.2.own hf (fun _ h => Nat.le_trans HS.out h.1))); clear hd hf
  go_wp2_with fail
  go_at_call 11
  refine (crash_any _ _ _ _ _ _ H11.out.1).mono ?_
  rintro e w12 ⟨rfl, hd, hf⟩
  have H12 : Hid (IsD w12 w1.heap.size w1.heap.size (a.extract 0 (a.size) ++ b) (a.size + b.size) ∧ Fr (fun _ => False) w w12) := Lib.hid ⟨by
    rw [crashN_all, extract_whole] at hd
    have e1 : (a.extract 0 (a.size) ++ b).size = a.size + b.size := by rw [ByteArray.size_append, HP.out]
    rw [e1] at hd
    exact hd, H11.out.2.own hf (fun _ h => Nat.le_trans HS.out h.1)⟩; clear hd hf
  go_wp2_with fail
  go_quiet ((first | (go_at_call 15; exact Calls.quiet_of_same (bytes_q _ _ _ _ _ H12.out.1 _)) | (go_at_call 16; exact Calls.quiet_of_same (kept_q _ _ _ _ _ H12.out.1 _))))
  go_wp2_with fail
  go_ret
  exact ⟨rfl, H12.out.2.drewN _⟩

set_option maxHeartbeats 2000000 in
theorem cuts_in (a b : ByteArray)  (w : World) (ha : a.size + b.size ≤ 3000) (m : Nat) (hn : m ≤ a.size) :
    Calls Try.prog 5 #[.string a, .string b, .int .i64 (m : Int)] w fun e w' => e = .returned (.bool true) ∧ Fr (fun _ => False) w w' := by
  have ha1 : a.size ≤ 3000 := by omega
  have hb1 : b.size ≤ 3000 := by omega
  have hd : decide ((3000 : Int) < (a.size : Int) + (b.size : Int)) = false := by simp; omega
  have HM : Hid (cutN (m : Int) a.size = m) := Lib.hid (by unfold cutN; split; (omega); split <;> omega)
  have HP : Hid ((a.extract 0 (m)).size = m) := Lib.hid (by simp; omega)
  go_enter Try.func5, Try.ntmps5
  go_wp2_with fail
  go_at_call 6
  refine (awake_any _).mono ?_
  rintro e w1 ⟨rfl, hf1⟩
  have H1 := Lib.hid hf1; clear hf1
  go_wp2_with fail
  go_at_call 7
  refine (dnew_any _).mono ?_
  rintro e w2 ⟨rfl, hd, hz, hf⟩
  have HS : Hid (w.heap.size ≤ w1.heap.size) := Lib.hid H1.out.size
  have H2 := Lib.hid (And.intro hd (H1.out.trans hf)); clear hd hf hz
  go_wp2_with fail
  go_at_call 8
  refine (dapp_any _ _ _ _ _ _ H2.out.1 (by rw [ByteArray.size_empty]; omega)).mono ?_
  rintro e w3 ⟨rfl, hd, hf⟩
  have H3 : Hid (IsD w3 w1.heap.size w1.heap.size a 0 ∧ Fr (fun _ => False) w w3) := Lib.hid ⟨by simpa using hd, H2.out.2.own hf (fun _ h => Nat.le_trans HS.out h.1)⟩; clear hd hf
  go_wp2_with fail
  go_at_call 16
  refine (kept_any _ _ _ _ _ H3.out.1).mono ?_
  rintro e w4 ⟨rfl, rfl⟩
  go_wp2_with fail
  go_at_call 13
  refine (cut_any _ _ _ _ _ _ H3.out.1).mono ?_
  rintro e w5 ⟨rfl, hd, hf⟩
  rw [HM.out] at hd
  have H5 := Lib.hid (And.intro hd (H3.out.2.own hf (fun _ h => Nat.le_trans HS.out h.1))); clear hd hf
  go_wp2_with fail
  go_at_call 16
  refine (kept_any _ _ _ _ _ H5.out.1).mono ?_
  rintro e w6 ⟨rfl, rfl⟩
  go_wp2_with fail
  go_at_call 8
  refine (dapp_any _ _ _ _ _ _ H5.out.1 (by rw [HP.out]; omega)).mono ?_
  rintro e w7 ⟨rfl, hd, hf⟩
  have H7 := Lib.hid (And.intro hd (H5.out.2.own hf (fun _ h => Nat.le_trans HS.out h.1))); clear hd hf
  go_wp2_with fail
  go_at_call 11
  refine (crash_any _ _ _ _ _ _ H7.out.1).mono ?_
  rintro e w8 ⟨rfl, hd, hf⟩
  have H8 : Hid (IsD w8 w1.heap.size w1.heap.size (a.extract 0 (m)) (m) ∧ Fr (fun _ => False) w w8) := Lib.hid ⟨by
    have c := cuts_back (a.extract 0 (m)) b
    rw [HP.out] at c
    rw [c.1, c.2] at hd
    exact hd, H7.out.2.own hf (fun _ h => Nat.le_trans HS.out h.1)⟩; clear hd hf
  go_wp2_with fail
  go_quiet ((go_at_call 15; exact Calls.quiet_of_same (bytes_q _ _ _ _ _ H8.out.1 _)))
  go_wp2_with fail
  go_at_call 8
  refine (dapp_any _ _ _ _ _ _ (by exact H8.out.1) (by rw [HP.out]; omega)).mono ?_
  rintro e w10 ⟨rfl, hd, hf⟩
  have H10 : Hid (IsD w10 w1.heap.size w1.heap.size (a.extract 0 (m) ++ b) (m) ∧ Fr (fun _ => False) w w10) := Lib.hid ⟨hd, (H8.out.2.drewN _).own hf (fun _ h => Nat.le_trans HS.out h.1)⟩; clear hd hf
  go_wp2_with fail
  go_at_call 10
  refine (sync_any _ _ _ _ _ H10.out.1).mono ?_
  rintro e w11 ⟨rfl, hd, hf⟩
  have H11 := Lib.hid (And.intro hd (H10.out.2.own hf (fun _ h => Nat.le_trans HS.out h.1))); clear hd hf
  go_wp2_with fail
  go_at_call 11
  refine (crash_any _ _ _ _ _ _ H11.out.1).mono ?_
  rintro e w12 ⟨rfl, hd, hf⟩
  have H12 : Hid (IsD w12 w1.heap.size w1.heap.size (a.extract 0 (m) ++ b) (m + b.size) ∧ Fr (fun _ => False) w w12) := Lib.hid ⟨by
    rw [crashN_all, extract_whole] at hd
    have e1 : (a.extract 0 (m) ++ b).size = m + b.size := by rw [ByteArray.size_append, HP.out]
    rw [e1] at hd
    exact hd, H11.out.2.own hf (fun _ h => Nat.le_trans HS.out h.1)⟩; clear hd hf
  go_wp2_with fail
  go_quiet ((first | (go_at_call 15; exact Calls.quiet_of_same (bytes_q _ _ _ _ _ H12.out.1 _)) | (go_at_call 16; exact Calls.quiet_of_same (kept_q _ _ _ _ _ H12.out.1 _))))
  go_wp2_with fail
  go_ret
  exact ⟨rfl, H12.out.2.drewN _⟩


set_option maxHeartbeats 1000000 in
theorem cuts_big (a b : ByteArray) (n : Int) (w : World) (ha : 3000 < a.size + b.size) (h1 : a.size ≤ 140737488351232) (h2 : b.size ≤ 140737488351232) :
    Calls Try.prog 5 #[.string a, .string b, .int .i64 n] w fun e w' => e = .returned (.bool true) ∧ Fr (fun _ => False) w w' := by
  have hd : decide ((3000 : Int) < (a.size : Int) + (b.size : Int)) = true := by simp; omega
  go_enter Try.func5, Try.ntmps5
  go_wp2_with fail
  go_at_call 6
  refine (awake_any _).mono ?_
  rintro e w1 ⟨rfl, hf1⟩
  go_wp2_with fail
  go_at_call 6
  refine (awake_any _).mono ?_
  rintro e w2 ⟨rfl, hf2⟩
  go_wp2_with fail
  go_ret
  exact ⟨rfl, hf1.trans hf2⟩

theorem cuts_any (a b : ByteArray) (n : Int) (w : World) (h1 : a.size ≤ 140737488351232) (h2 : b.size ≤ 140737488351232) :
    Calls Try.prog 5 #[.string a, .string b, .int .i64 n] w fun e w' => e = .returned (.bool true) ∧ Fr (fun _ => False) w w' := by
  by_cases h : 3000 < a.size + b.size
  · exact cuts_big a b n w h h1 h2
  · by_cases h3 : n < 0
    · exact cuts_lo a b n w (by omega) h3
    · by_cases h4 : (a.size : Int) < n
      · exact cuts_hi a b n w (by omega) h4
      · obtain ⟨m, rfl⟩ := Int.eq_ofNat_of_zero_le (by omega : 0 ≤ n)
        exact cuts_in a b w (by omega) m (by omega)

end Go.Proofs.Ytnbimbcnfhninaa
