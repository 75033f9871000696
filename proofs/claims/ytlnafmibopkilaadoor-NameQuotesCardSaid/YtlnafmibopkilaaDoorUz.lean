/- NameQuotes, by a walk. -/
import Derived.Test.YtlnafmibopkilaaDoorWq
import Derived.Test.YtlnafmibopkilaaDoorUj
namespace Go.Proofs.YtlnafmibopkilaaDoor
open Go Go.Lib Go.RowKit

set_option maxRecDepth 100000 in
set_option maxHeartbeats 4000000 in
theorem quotes_any (s : ByteArray) (w : World) (hT : Tabs w) (hs : s.size ≤ 140737488351232) :
    Calls Tryd.prog 4 #[.string s] w fun e w' => e = .returned (.bool true) ∧ Below w.heap.size w w' := by
  by_cases h1 : 500 < s.size
  · go_enter Tryd.func4, Tryd.ntmps4
    go_wp2_with fail
    go_at_call 10
    refine (awake_any _ hT).mono ?_
    rintro e w1 ⟨rfl, hb1⟩
    go_wp2_with fail
    go_at_call 10
    refine (awake_any _ (hT.below hb1)).mono ?_
    rintro e w2 ⟨rfl, hb2⟩
    go_wp2_with fail
    go_ret
    exact ⟨rfl, hb1.trans (hb2.mono hb1.size)⟩
  · have hsl : s.data.toList.length = s.size := by simp
    have q1 := quote_len s.data.toList
    have hq1 : (quoteP s.data.toList).length ≤ 5500 := by omega
    have hQ := fun W hT => quote_any s W (by omega) hT
    have hU2 := fun W hT => unq_run s.data.toList W hT (by omega)
    have hR := fun W => rquote_any s W (by omega)
    have hV := fun W => rvalid_any ⟨(quoteP s.data.toList).toArray⟩ W (by show (quoteP s.data.toList).length ≤ _; omega)
    have hv : validP (quoteP s.data.toList) = true := quote_valid s.data.toList
    have hvv : validP (⟨(quoteP s.data.toList).toArray⟩ : ByteArray).data.toList = true := hv
    rw [hvv] at hV
    have es : (⟨s.data.toList.toArray⟩ : ByteArray) = s := by cases s; simp
    rw [es] at hU2
    obtain ⟨Q, hQe⟩ : ∃ Q : ByteArray, Q = ⟨(quoteP s.data.toList).toArray⟩ := ⟨_, rfl⟩
    rw [← hQe] at hQ hU2 hV
    simp only [← hQe] at hR
    have HC := Lib.hid (And.intro hQ (And.intro hU2 (And.intro hR hV))); clear hQ hU2 hR hV hQe hv hvv es q1 hq1 hsl
    go_enter Tryd.func4, Tryd.ntmps4
    go_wp2_with fail
    go_at_call 10
    refine (awake_any _ hT).mono ?_
    rintro e w1 ⟨rfl, hb1⟩
    have B1 := Lib.hid hb1; clear hb1
    go_wp2_with fail
    go_at_call 21
    refine (HC.out.1 _ (hT.below B1.out)).mono ?_
    rintro e w2 ⟨rfl, hb2⟩
    have B2 := Lib.hid (B1.out.trans (hb2.mono B1.out.size)); clear hb2
    go_wp2_with fail
    go_at_call 22
    refine (HC.out.2.1 _ (hT.below B2.out)).mono ?_
    rintro e w3 ⟨rfl, hb3⟩
    have B3 := Lib.hid (B2.out.trans (hb3.mono B2.out.size)); clear hb3
    go_wp2_with fail
    go_at_call 23
    refine (HC.out.2.2.1 _).mono ?_
    rintro e w4 ⟨rfl, hb4⟩
    have B4 := Lib.hid (B3.out.trans (hb4.mono B3.out.size)); clear hb4
    go_wp2_with fail
    go_at_call 16
    refine (HC.out.2.2.2 _).mono ?_
    rintro e w5 ⟨rfl, hb5⟩
    have B5 := Lib.hid (B4.out.trans (hb5.mono B4.out.size)); clear hb5
    go_wp2_with fail
    go_ret
    exact ⟨rfl, B5.out⟩

end Go.Proofs.YtlnafmibopkilaaDoor
