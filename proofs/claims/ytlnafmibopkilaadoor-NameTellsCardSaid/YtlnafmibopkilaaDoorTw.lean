/- NameTells, by a walk. -/
import Derived.Test.YtlnafmibopkilaaDoorTo
import Derived.Test.YtlnafmibopkilaaDoorUa
import Derived.Test.YtlnafmibopkilaaDoorUo
namespace Go.Proofs.YtlnafmibopkilaaDoor
open Go Go.Lib Go.RowKit

set_option maxRecDepth 100000 in
set_option maxHeartbeats 4000000 in
theorem tells_any (s t : ByteArray) (n : Int) (w : World) (hT : Tabs w) (hs : s.size ≤ 140737488351232) (ht : t.size ≤ 140737488351232) (hw : (Lit.int .i64 n).wf = true) :
    Calls Tryd.prog 3 #[.string s, .string t, .int .i64 n] w fun e w' => e = .returned (.bool true) ∧ Below w.heap.size w w' := by
  have hn : n ≤ 9223372036854775807 := by
    have := bounds_i64 hw
    omega
  clear hw
  by_cases h1 : 500 < s.size + t.size
  · have h2 : (500 : Int) < (s.size : Int) + (t.size : Int) := by omega
    go_enter Tryd.func3, Tryd.ntmps3
    go_wp2_with fail
    go_at_call 10
    refine (awake_any _ hT).mono ?_
    rintro e w1 ⟨rfl, hb1⟩
    go_wp2_with fail
    go_at_call 10
    refine (awake_any _ (hT.below hb1)).mono ?_
    rintro e w2 ⟨rfl, hb2⟩
    go_wp2_with fail
    go_ret
    exact ⟨rfl, hb1.trans (hb2.mono hb1.size)⟩
  · have a1 := fun W => right_any s W hs
    have a2 := fun W => rright_any s W (by omega)
    have a3 := fun W => count_any s W hs
    have a4 := fun W => rrunes_any s W (by omega)
    have a5 := fun W => valid_any s W hs
    have a6 := fun W => rvalid_any s W (by omega)
    have a7 := fun W => cut_any s n W hs hn
    have a8 := fun W => rcut_any s n W (by omega)
    have a9 := fun W hT => order_any s t W hT hs ht
    have aa := fun W => rorder_any s t W (by omega) (by omega)
    unfold RunesAt at a4
    have hcl := rl_len s
    have hcu : countP s.data.toList = (runes s.data.toList).length := rfl
    rw [← hcu] at hcl
    rw [hcl] at a4
    clear hcl hcu
    generalize rightP s.data.toList = v1 at *
    generalize countP s.data.toList = v2 at *
    generalize validP s.data.toList = v3 at *
    generalize cutS s n = v4 at *
    generalize orderP s.data.toList t.data.toList = v5 at *
    have H := Lib.hid (And.intro a1 (And.intro a2 (And.intro a3 (And.intro a4 (And.intro a5 (And.intro a6 (And.intro a7 (And.intro a8 (And.intro a9 aa)))))))))
    clear a1 a2 a3 a4 a5 a6 a7 a8 a9 aa
    have h2 : ¬ (500 : Int) < (s.size : Int) + (t.size : Int) := by omega
    go_enter Tryd.func3, Tryd.ntmps3
    go_wp2_with fail
    go_at_call 10
    refine (awake_any _ hT).mono ?_
    rintro e w1 ⟨rfl, hb1⟩
    have B1 := Lib.hid hb1; clear hb1
    go_wp2_with fail
    go_at_call 11
    refine (H.out.1 _).mono ?_
    rintro e w2 ⟨rfl, hb⟩
    have B2 := Lib.hid (B1.out.trans (hb.mono B1.out.size)); clear hb
    go_wp2_with fail
    go_at_call 12
    refine (H.out.2.1 _).mono ?_
    rintro e w3 ⟨rfl, hb⟩
    have B3 := Lib.hid (B2.out.trans (hb.mono B2.out.size)); clear hb
    go_wp2_with fail
    go_at_call 13
    refine (H.out.2.2.1 _).mono ?_
    rintro e w4 ⟨rfl, hb⟩
    have B4 := Lib.hid (B3.out.trans (hb.mono B3.out.size)); clear hb
    go_wp2_with fail
    go_at_call 14
    refine (H.out.2.2.2.1 _).mono ?_
    rintro e w5 ⟨A, c, rfl, _, hb⟩
    have B5 := Lib.hid (B4.out.trans (hb.mono B4.out.size)); clear hb
    go_wp2_with fail
    go_at_call 15
    refine (H.out.2.2.2.2.1 _).mono ?_
    rintro e w6 ⟨rfl, hb⟩
    have B6 := Lib.hid (B5.out.trans (hb.mono B5.out.size)); clear hb
    go_wp2_with fail
    go_at_call 16
    refine (H.out.2.2.2.2.2.1 _).mono ?_
    rintro e w7 ⟨rfl, hb⟩
    have B7 := Lib.hid (B6.out.trans (hb.mono B6.out.size)); clear hb
    go_wp2_with fail
    go_at_call 17
    refine (H.out.2.2.2.2.2.2.1 _).mono ?_
    rintro e w8 ⟨rfl, hb⟩
    have B8 := Lib.hid (B7.out.trans (hb.mono B7.out.size)); clear hb
    go_wp2_with fail
    go_at_call 18
    refine (H.out.2.2.2.2.2.2.2.1 _).mono ?_
    rintro e w9 ⟨rfl, hb⟩
    have B9 := Lib.hid (B8.out.trans (hb.mono B8.out.size)); clear hb
    go_wp2_with fail
    go_at_call 19
    refine (H.out.2.2.2.2.2.2.2.2.1 _ (hT.below B9.out)).mono ?_
    rintro e wa ⟨rfl, hb⟩
    have Ba := Lib.hid (B9.out.trans (hb.mono B9.out.size)); clear hb
    go_wp2_with fail
    go_at_call 20
    refine (H.out.2.2.2.2.2.2.2.2.2 _).mono ?_
    rintro e wb ⟨rfl, hb⟩
    have Bb := Lib.hid (Ba.out.trans (hb.mono Ba.out.size)); clear hb
    go_wp2_with fail
    go_ret
    exact ⟨rfl, Bb.out⟩

end Go.Proofs.YtlnafmibopkilaaDoor
