/- NameCuts, by a walk. -/
import Derived.Test.YtlnafmibopkilaaDoorUa
import Derived.Test.YtlnafmibopkilaaDoorUc
namespace Go.Proofs.YtlnafmibopkilaaDoor
open Go Go.Lib Go.RowKit

theorem cutS_list (s : ByteArray) (n : Int) : (cutS s n).data.toList = cutL s.data.toList n := by
  unfold cutS cutL
  rw [extract_data, List.drop_zero, Nat.sub_zero]

theorem mod30 (n : Int) : ∃ N : Nat, wrap64 ((IntKind.u64.wrap n).tmod 30) = N ∧ N < 30 := by
  have h0 : 0 ≤ IntKind.u64.wrap n := by simp [IntKind.wrap, IntKind.signed, IntKind.bits]; omega
  generalize IntKind.u64.wrap n = m at *
  obtain ⟨k, rfl⟩ := Int.eq_ofNat_of_zero_le h0
  refine ⟨k % 30, ?_, Nat.mod_lt _ (by decide)⟩
  have e : ((k : Int)).tmod 30 = ((k % 30 : Nat) : Int) := by rw [Int.tmod_eq_emod_of_nonneg (by omega)]; simp
  rw [e]
  unfold wrap64
  omega
theorem cuts_plain (s : ByteArray) (N : Nat) : countP (cutS s N).data.toList = min N (countP s.data.toList) ∧ (cutS s N).size ≤ s.size ∧ s.extract 0 (cutS s N).size = cutS s N ∧ (validP s.data.toList = true → validP (cutS s N).data.toList = true) ∧ cutS (cutS s N) N = cutS s N := by
  have hl := cutS_list s N
  have hle := cutN_le s.data.toList N
  have hsl : s.data.toList.length = s.size := by simp
  rw [hsl] at hle
  have hsz : (cutS s N).size = cutN s.data.toList N := by
    unfold cutS
    simp
    omega
  refine ⟨?_, by rw [hsz]; exact hle, ?_, ?_, ?_⟩
  · rw [hl, count_cut]; simp
  · rw [hsz]; rfl
  · intro h; rw [hl]; exact valid_cut _ _ h
  · apply ByteArray.ext
    apply Array.ext'
    rw [cutS_list, hl, cut_cut]

set_option maxRecDepth 100000 in
set_option maxHeartbeats 4000000 in
theorem cuts_any (s : ByteArray) (n : Int) (w : World) (hT : Tabs w) (hs : s.size ≤ 140737488351232) (hn : (Lit.int .i64 n).wf = true) : Calls Tryd.prog 7 #[.string s, .int .i64 n] w fun e w' => e = .returned (.bool true) ∧ Below w.heap.size w w' := by
  by_cases h1 : 500 < s.size
  · go_enter Tryd.func7, Tryd.ntmps7
    go_wp2_with fail
    go_at_call 10
    refine (awake_any _ hT).mono ?_
    rintro e w1 ⟨rfl, hb1⟩
    go_wp2_with fail
    go_at_call 10
    refine (awake_any _ (hT.below hb1)).mono ?_
    rintro e w2 ⟨rfl, hb2⟩
    go_wp2_with fail
    go_ret
    exact ⟨rfl, hb1.trans (hb2.mono hb1.size)⟩
  · go_enter Tryd.func7, Tryd.ntmps7
    go_wp2_with fail
    obtain ⟨N, hN, hN30⟩ := mod30 n
    rw [hN]
    clear hN
    obtain ⟨k1, k2, k3, k4, k5⟩ := cuts_plain s N
    have hcc := fun W => cut_any s N W hs (by omega)
    generalize cutS s N = c at *
    have hcs : c.size ≤ 140737488351232 := by omega
    have hcut2 := fun W => cut_any c N W hcs (by omega)
    rw [k5] at hcut2
    have hcnt := fun W => count_any c W hcs
    have hcnt2 := fun W => count_any s W hs
    have hval := fun W => valid_any c W hcs
    have hval2 := fun W => valid_any s W hs
    have hb : ((countP s.data.toList : Int) < N ∧ (countP c.data.toList : Int) = countP s.data.toList) ∨ ((N : Int) ≤ countP s.data.toList ∧ (countP c.data.toList : Int) = N) := by omega
    clear k1
    generalize (countP c.data.toList : Int) = cc at *
    generalize (countP s.data.toList : Int) = cs at *
    clear hN30
    generalize (N : Int) = Ni at *
    generalize validP c.data.toList = vc at *
    generalize validP s.data.toList = vs at *
    have HC := Lib.hid (And.intro hcc (And.intro hcut2 (And.intro hcnt (And.intro hcnt2 (And.intro hval hval2))))); clear hcc hcut2 hcnt hcnt2 hval hval2 k5
    have hmn : min Ni cs = cc := by omega
    have hv : vs = false ∨ (vs = true ∧ vc = true) := by
      cases vs
      · exact .inl rfl
      · exact .inr ⟨rfl, k4 rfl⟩
    clear k4 hcs
    rcases hb with ⟨hb, rfl⟩ | ⟨hb, rfl⟩
    all_goals
      rcases hv with rfl | ⟨rfl, rfl⟩
      all_goals
        go_at_call 10
        refine (awake_any _ hT).mono ?_
        rintro e w1 ⟨rfl, hb1⟩
        have B1 := Lib.hid hb1; clear hb1
        go_wp2_with fail
        go_at_call 17
        refine (HC.out.1 _).mono ?_
        rintro e w2 ⟨rfl, hb2⟩
        have B2 := Lib.hid (B1.out.trans (hb2.mono B1.out.size)); clear hb2
        go_wp2_with fail
        go_at_call 13
        refine (HC.out.2.2.1 _).mono ?_
        rintro e w3 ⟨rfl, hb3⟩
        have B3 := Lib.hid (B2.out.trans (hb3.mono B2.out.size)); clear hb3
        go_wp2_with fail
        go_at_call 13
        refine (HC.out.2.2.2.1 _).mono ?_
        rintro e w4 ⟨rfl, hb4⟩
        have B4 := Lib.hid (B3.out.trans (hb4.mono B3.out.size)); clear hb4
        go_wp2_with fail
        go_at_call 15
        refine (HC.out.2.2.2.2.2 _).mono ?_
        rintro e w5 ⟨rfl, hb5⟩
        have B5 := Lib.hid (B4.out.trans (hb5.mono B4.out.size)); clear hb5
        go_wp2_with fail
        first
          | (go_at_call 15
             refine (HC.out.2.2.2.2.1 _).mono ?_
             rintro e w6 ⟨rfl, hb6⟩
             have B6 := Lib.hid (B5.out.trans (hb6.mono B5.out.size)); clear hb6
             go_wp2_with fail
             go_at_call 17
             refine (HC.out.2.1 _).mono ?_
             rintro e w7 ⟨rfl, hb7⟩
             have B7 := Lib.hid (B6.out.trans (hb7.mono B6.out.size)); clear hb7
             go_wp2_with fail
             go_ret
             exact ⟨rfl, B7.out⟩)
          | (go_at_call 17
             refine (HC.out.2.1 _).mono ?_
             rintro e w7 ⟨rfl, hb7⟩
             have B7 := Lib.hid (B5.out.trans (hb7.mono B5.out.size)); clear hb7
             go_wp2_with fail
             go_ret
             exact ⟨rfl, B7.out⟩)

end Go.Proofs.YtlnafmibopkilaaDoor
