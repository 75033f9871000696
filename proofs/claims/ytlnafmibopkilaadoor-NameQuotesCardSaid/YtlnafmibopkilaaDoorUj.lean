/- NameRead, by a walk. -/
import Derived.Test.YtlnafmibopkilaaDoorUa
import Derived.Test.YtlnafmibopkilaaDoorUk
namespace Go.Proofs.YtlnafmibopkilaaDoor
open Go Go.Lib Go.RowKit

theorem unq_run (l : List UInt8) (W : World) (hT : Tabs W) (hl : (quoteP l).length ≤ 1000000000) : Calls Tryd.prog 22 #[.string ⟨(quoteP l).toArray⟩] W fun e w' => e = .returned (.tuple #[.string ⟨l.toArray⟩, .int .i64 0]) ∧ Below W.heap.size W w' := by
  refine (unquote_any ⟨(quoteP l).toArray⟩ W hT hl).mono fun e w' h => ⟨?_, h.2⟩
  rw [h.1]
  show UR (unqP (quoteP l) []) (quoteP l) = _
  rw [unq_quote, UR_some, List.nil_append, if_pos rfl]

set_option maxRecDepth 100000 in
set_option maxHeartbeats 4000000 in
theorem read_any (s : ByteArray) (w : World) (hT : Tabs w) (hs : s.size ≤ 140737488351232) :
    Calls Tryd.prog 9 #[.string s] w fun e w' => e = .returned (.bool true) ∧ Below w.heap.size w w' := by
  by_cases h1 : 300 < s.size
  · go_enter Tryd.func9, Tryd.ntmps9
    go_wp2_with fail
    go_at_call 10
    refine (awake_any _ hT).mono ?_
    rintro e w1 ⟨rfl, hb1⟩
    go_wp2_with fail
    go_at_call 10
    refine (awake_any _ (hT.below hb1)).mono ?_
    rintro e w2 ⟨rfl, hb2⟩
    go_wp2_with fail
    go_ret
    exact ⟨rfl, hb1.trans (hb2.mono hb1.size)⟩
  · have hsl : s.data.toList.length = s.size := by simp
    have q1 := quote_len s.data.toList
    have q2 := quote_len (quoteP s.data.toList)
    have hq1 : (quoteP s.data.toList).length ≤ 3300 := by omega
    have hq2 : (quoteP (quoteP s.data.toList)).length ≤ 36300 := by omega
    have hge := quote_ge s.data.toList
    rw [hsl] at hge
    have hQ := fun W hT => quote_any s W (by omega) hT
    have hQ2 := fun W hT => quote_any ⟨(quoteP s.data.toList).toArray⟩ W (by show (quoteP s.data.toList).length ≤ _; omega) hT
    have hU1 := fun W hT => unq_run (quoteP s.data.toList) W hT (by omega)
    have hU2 := fun W hT => unq_run s.data.toList W hT (by omega)
    have hV := fun W => valid_any ⟨(quoteP s.data.toList).toArray⟩ W (by show (quoteP s.data.toList).length ≤ _; omega)
    have hv : validP (quoteP s.data.toList) = true := quote_valid s.data.toList
    have hvv : validP (⟨(quoteP s.data.toList).toArray⟩ : ByteArray).data.toList = true := hv
    rw [hvv] at hV
    have es : (⟨s.data.toList.toArray⟩ : ByteArray) = s := by cases s; simp
    rw [es] at hU2
    have eq2 : (⟨(quoteP (⟨(quoteP s.data.toList).toArray⟩ : ByteArray).data.toList).toArray⟩ : ByteArray) = ⟨(quoteP (quoteP s.data.toList)).toArray⟩ := rfl
    rw [eq2] at hQ2
    have eqs : (⟨(quoteP s.data.toList).toArray⟩ : ByteArray).size = (quoteP s.data.toList).length := by simp [ByteArray.size]
    obtain ⟨Q, hQe⟩ : ∃ Q : ByteArray, Q = ⟨(quoteP s.data.toList).toArray⟩ := ⟨_, rfl⟩
    obtain ⟨R, hRe⟩ : ∃ R : ByteArray, R = ⟨(quoteP (quoteP s.data.toList)).toArray⟩ := ⟨_, rfl⟩
    rw [← hQe] at hQ hQ2 hU1 hU2 hV eqs
    rw [← hRe] at hQ2 hU1
    have hlen : (s.size : Int) ≤ (Q.size : Int) := by rw [eqs]; omega
    have HC := Lib.hid (And.intro hQ (And.intro hQ2 (And.intro hU1 (And.intro hU2 hV)))); clear hQ hQ2 hU1 hU2 hV hQe hRe eqs hv hvv es eq2 hge q1 q2 hq1 hq2 hsl
    go_enter Tryd.func9, Tryd.ntmps9
    go_wp2_with fail
    go_at_call 10
    refine (awake_any _ hT).mono ?_
    rintro e w1 ⟨rfl, hb1⟩
    have B1 := Lib.hid hb1; clear hb1
    go_wp2_with fail
    go_at_call 21
    refine (HC.out.1 _ (hT.below B1.out)).mono ?_
    rintro e w2 ⟨rfl, hb2⟩
    have B2 := Lib.hid (B1.out.trans (hb2.mono B1.out.size)); clear hb2
    go_wp2_with fail
    go_at_call 21
    refine (HC.out.2.1 _ (hT.below B2.out)).mono ?_
    rintro e w3 ⟨rfl, hb3⟩
    have B3 := Lib.hid (B2.out.trans (hb3.mono B2.out.size)); clear hb3
    go_wp2_with fail
    go_at_call 22
    refine (HC.out.2.2.1 _ (hT.below B3.out)).mono ?_
    rintro e w4 ⟨rfl, hb4⟩
    have B4 := Lib.hid (B3.out.trans (hb4.mono B3.out.size)); clear hb4
    go_wp2_with fail
    go_at_call 22
    refine (HC.out.2.2.2.1 _ (hT.below B4.out)).mono ?_
    rintro e w5 ⟨rfl, hb5⟩
    have B5 := Lib.hid (B4.out.trans (hb5.mono B4.out.size)); clear hb5
    go_wp2_with fail
    go_at_call 15
    refine (HC.out.2.2.2.2 _).mono ?_
    rintro e w6 ⟨rfl, hb6⟩
    have B6 := Lib.hid (B5.out.trans (hb6.mono B5.out.size)); clear hb6
    go_wp2_with fail
    go_ret
    exact ⟨rfl, B6.out⟩

end Go.Proofs.YtlnafmibopkilaaDoor
