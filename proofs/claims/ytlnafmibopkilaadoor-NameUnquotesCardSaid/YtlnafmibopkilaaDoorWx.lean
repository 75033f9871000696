/- NameUnquotes, by a walk. -/
import Derived.Test.YtlnafmibopkilaaDoorWw
import Derived.Test.YtlnafmibopkilaaDoorUa
import Derived.Test.YtlnafmibopkilaaDoorUk
namespace Go.Proofs.YtlnafmibopkilaaDoor
open Go Go.Lib Go.RowKit
theorem unq_no (s : ByteArray) (W : World) (hT : Tabs W) (hl : s.size ≤ 1000000000) (h : ∀ l, quoteP l ≠ s.data.toList) : Calls Tryd.prog 22 #[.string s] W fun e w' => e = .returned (.tuple #[.string ⟨#[]⟩, .int .i64 3]) ∧ Below W.heap.size W w' := by
  refine (unquote_any s W hT hl).mono fun e w' h2 => ⟨?_, h2.2⟩
  rw [h2.1]
  cases unqP s.data.toList [] with
  | none => rfl
  | some out => rw [UR_some, if_neg (h out)]
theorem unq_yes (s : ByteArray) (l : List UInt8) (W : World) (hT : Tabs W) (hl : s.size ≤ 1000000000) (h : quoteP l = s.data.toList) : Calls Tryd.prog 22 #[.string s] W fun e w' => e = .returned (.tuple #[.string ⟨l.toArray⟩, .int .i64 0]) ∧ Below W.heap.size W w' := by
  refine (unquote_any s W hT hl).mono fun e w' h2 => ⟨?_, h2.2⟩
  rw [h2.1, ← h, unq_quote, UR_some, List.nil_append, if_pos rfl]
theorem quote_one {l m : List UInt8} (h : quoteP l = quoteP m) : l = m := by
  have h1 := unq_quote l
  rw [h, unq_quote m] at h1
  exact (Option.some.inj h1).symm
theorem run_yes (s : ByteArray) (l : List UInt8) (w : World) (hn : s.size ≤ 100000) (h : quoteP l = s.data.toList) : Calls Tryd.prog 24 #[.string s] w fun e w' => e = .returned (.tuple #[.string ⟨l.toArray⟩, .bool true]) ∧ Below w.heap.size w w' := by
  refine (runquote_any s w hn).mono fun e w' hp => ?_
  rcases hp with ⟨⟨m, hm, he⟩ | ⟨hno, _⟩, hb⟩
  · rw [quote_one (hm.trans h.symm)] at he
    exact ⟨he, hb⟩
  · exact absurd h (hno l)
theorem run_no (s : ByteArray) (w : World) (hn : s.size ≤ 100000) (h : ∀ l, quoteP l ≠ s.data.toList) : Calls Tryd.prog 24 #[.string s] w fun e w' => e = .returned (.tuple #[.string ⟨#[]⟩, .bool false]) ∧ Below w.heap.size w w' := by
  refine (runquote_any s w hn).mono fun e w' hp => ?_
  rcases hp with ⟨⟨m, hm, he⟩ | ⟨_, he⟩, hb⟩
  · exact absurd hm (h m)
  · exact ⟨he, hb⟩
set_option maxRecDepth 100000 in
set_option maxHeartbeats 4000000 in
theorem unquotes_any (s : ByteArray) (w : World) (hT : Tabs w) (hs : s.size ≤ 140737488351232) :
    Calls Tryd.prog 5 #[.string s] w fun e w' => e = .returned (.bool true) ∧ Below w.heap.size w w' := by
  by_cases h1 : 500 < s.size
  · go_enter Tryd.func5, Tryd.ntmps5
    go_wp2_with fail
    go_at_call 10
    refine (awake_any _ hT).mono ?_
    rintro e w1 ⟨rfl, hb1⟩
    go_wp2_with fail
    go_at_call 10
    refine (awake_any _ (hT.below hb1)).mono ?_
    rintro e w2 ⟨rfl, hb2⟩
    go_wp2_with fail
    go_ret
    exact ⟨rfl, hb1.trans (hb2.mono hb1.size)⟩
  · by_cases hq : ∃ l, quoteP l = s.data.toList
    · obtain ⟨l, hq⟩ := hq
      have hU := fun W hT => unq_yes s l W hT (by omega) hq
      have hR := fun W => run_yes s l W (by omega) hq
      have hge := quote_ge l
      have hsl : s.data.toList.length = s.size := by simp
      rw [hq, hsl] at hge
      have es : (⟨(quoteP l).toArray⟩ : ByteArray) = s := by rw [hq]
      have hQ := fun W hT => quote_any ⟨l.toArray⟩ W (by show l.length ≤ _; omega) hT
      have eq2 : (⟨(quoteP (⟨l.toArray⟩ : ByteArray).data.toList).toArray⟩ : ByteArray) = s := es
      rw [eq2] at hQ
      obtain ⟨T, hTe⟩ : ∃ T : ByteArray, T = ⟨l.toArray⟩ := ⟨_, rfl⟩
      rw [← hTe] at hU hR hQ
      have HC := Lib.hid (And.intro hU (And.intro hR hQ)); clear hU hR hQ hTe eq2 es hge hsl hq
      go_enter Tryd.func5, Tryd.ntmps5
      go_wp2_with fail
      go_at_call 10
      refine (awake_any _ hT).mono ?_
      rintro e w1 ⟨rfl, hb1⟩
      have B1 := Lib.hid hb1; clear hb1
      go_wp2_with fail
      go_at_call 22
      refine (HC.out.1 _ (hT.below B1.out)).mono ?_
      rintro e w2 ⟨rfl, hb2⟩
      have B2 := Lib.hid (B1.out.trans (hb2.mono B1.out.size)); clear hb2
      go_wp2_with fail
      go_at_call 24
      refine (HC.out.2.1 _).mono ?_
      rintro e w3 ⟨rfl, hb3⟩
      have B3 := Lib.hid (B2.out.trans (hb3.mono B2.out.size)); clear hb3
      go_wp2_with fail
      go_at_call 21
      refine (HC.out.2.2 _ (hT.below B3.out)).mono ?_
      rintro e w4 ⟨rfl, hb4⟩
      have B4 := Lib.hid (B3.out.trans (hb4.mono B3.out.size)); clear hb4
      go_wp2_with fail
      go_ret
      exact ⟨rfl, B4.out⟩
    · have hno : ∀ l, quoteP l ≠ s.data.toList := fun l e => hq ⟨l, e⟩
      have hU := fun W hT => unq_no s W hT (by omega) hno
      have hR := fun W => run_no s W (by omega) hno
      have HC := Lib.hid (And.intro hU hR); clear hU hR hno hq
      go_enter Tryd.func5, Tryd.ntmps5
      go_wp2_with fail
      go_at_call 10
      refine (awake_any _ hT).mono ?_
      rintro e w1 ⟨rfl, hb1⟩
      have B1 := Lib.hid hb1; clear hb1
      go_wp2_with fail
      go_at_call 22
      refine (HC.out.1 _ (hT.below B1.out)).mono ?_
      rintro e w2 ⟨rfl, hb2⟩
      have B2 := Lib.hid (B1.out.trans (hb2.mono B1.out.size)); clear hb2
      go_wp2_with fail
      go_at_call 24
      refine (HC.out.2 _).mono ?_
      rintro e w3 ⟨rfl, hb3⟩
      have B3 := Lib.hid (B2.out.trans (hb3.mono B2.out.size)); clear hb3
      go_wp2_with fail
      go_ret
      exact ⟨rfl, B3.out⟩

end Go.Proofs.YtlnafmibopkilaaDoor
