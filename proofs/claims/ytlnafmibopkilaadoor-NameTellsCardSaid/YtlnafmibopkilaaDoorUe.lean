/- Names: what stands behind a backslash. -/
import Derived.Test.YtlnafmibopkilaaDoorUr
import Derived.Test.YtlnafmibopkilaaDoorUq
import Derived.Lib.IndexLaws
namespace Go.Proofs.YtlnafmibopkilaaDoor
open Go Go.Lib Go.RowKit

/-- The text ahead of the first dot. -/
def cutI (l : List UInt8) : Int := indexByte l 46
def dig (s : ByteArray) : ByteArray := if 0 ≤ cutI s.data.toList then s.extract 0 (cutI s.data.toList).toNat else s
theorem cutI_lt (l : List UInt8) (h : 0 ≤ cutI l) : (cutI l).toNat < l.length := by
  obtain ⟨k, hk⟩ := Int.eq_ofNat_of_zero_le h
  have := (indexByte_some hk).1
  rw [hk]
  rcases Nat.lt_or_ge k l.length with h2 | h2
  · simpa using h2
  · rw [List.getElem?_eq_none h2] at this; cases this

set_option maxHeartbeats 1000000 in
theorem cut_in (s : ByteArray) (w : World) (hs : s.size ≤ 140737488351232) : Calls Tryd.prog 62 #[.string s, .string ⟨#[46]⟩] w fun e w' => (∃ b, e = .returned (.tuple #[.string (dig s), .string b, .bool (decide (0 ≤ cutI s.data.toList))])) ∧ Below w.heap.size w w' := by
  have hix := fun W => Tryd.stringslite_Index_one s 46 W
  have hge := indexByte_ge s.data.toList 46
  have hlt := cutI_lt s.data.toList
  have hsz : s.data.toList.length = s.size := by simp
  rw [hsz] at hlt
  unfold dig
  unfold cutI at *
  clear hsz
  generalize indexByte s.data.toList 46 = i at *
  by_cases h : 0 ≤ i
  · obtain ⟨k, rfl⟩ := Int.eq_ofNat_of_zero_le h
    have hk : k < s.size := by simpa using hlt h
    have hd : decide (0 ≤ (k : Int)) = true := by simp
    rw [hd]
    have hif : (if 0 ≤ (k : Int) then s.extract 0 (k : Int).toNat else s) = s.extract 0 k := by rw [if_pos h]; simp
    rw [hif]
    clear hlt hge hif
    have HIX := Lib.hid hix; clear hix
    go_enter Tryd.func62, Tryd.ntmps62
    go_wp2_with fail
    go_at_call 74
    refine (HIX.out _).mono ?_
    rintro e w1 ⟨rfl, rfl⟩
    go_wp2_with fail
    go_region
    all_goals
      go_wp2_with fail
      go_ret3
      exact ⟨⟨_, rfl⟩, ⟨rfl, rfl, rfl, Nat.le_refl _, fun _ _ => rfl⟩⟩
  · have hd : decide (0 ≤ i) = false := by simpa using h
    rw [hd, if_neg h]
    have HIX := Lib.hid hix; clear hix
    have hm : i = -1 := by omega
    subst hm
    go_enter Tryd.func62, Tryd.ntmps62
    go_wp2_with fail
    go_at_call 74
    refine (HIX.out _).mono ?_
    rintro e w1 ⟨rfl, rfl⟩
    go_wp2_with fail
    go_ret3
    exact ⟨⟨_, rfl⟩, Below.refl _ _⟩

theorem cut_dot (s : ByteArray) (w : World) (hs : s.size ≤ 140737488351232) : Calls Tryd.prog 52 #[.string s, .string ⟨#[46]⟩] w fun e w' => (∃ b, e = .returned (.tuple #[.string (dig s), .string b, .bool (decide (0 ≤ cutI s.data.toList))])) ∧ Below w.heap.size w w' := by
  have hci := cut_in s w hs
  generalize dig s = d at *
  generalize decide (0 ≤ cutI s.data.toList) = f at *
  go_enter Tryd.func52, Tryd.ntmps52
  go_wp2_with fail
  go_at_call 62
  refine hci.mono ?_
  rintro e w1 ⟨⟨b, rfl⟩, hb⟩
  go_wp2_with fail
  go_ret3
  exact ⟨⟨_, rfl⟩, hb⟩

/-- What strconv.ParseUint hands back. -/
def PV (max : Nat) (p : Option Nat) (x err : Value) : Prop :=
  (∃ n, p = some n ∧ n ≤ max ∧ x = .int .u64 n ∧ err = .nilIface) ∨ (p = none ∧ (∃ y, x = .int .u64 y) ∧ ∃ N : Nat, err = .iface 95 (.pointer (some ⟨N, 0, none⟩)))

set_option maxHeartbeats 1000000 in
theorem parse_pub (max bits : Nat) (s : ByteArray) (w : World) (hT : Tabs w) (hs : s.size ≤ 140737488351232)
    (hin : Calls Tryd.prog 60 #[.string s, .int .i64 16, .int .i64 bits] w fun e w' => (∃ x err, e = .returned (.tuple #[x, err]) ∧ PU max (parseU max s.data.toList) x err) ∧ Below w.heap.size w w') :
    Calls Tryd.prog 51 #[.string s, .int .i64 16, .int .i64 bits] w fun e w' => (∃ x err, e = .returned (.tuple #[x, err]) ∧ PV max (parseU max s.data.toList) x err) ∧ Below w.heap.size w w' := by
  generalize parseU max s.data.toList = p at *
  go_enter Tryd.func51, Tryd.ntmps51
  go_wp2_with fail
  go_at_call 60
  refine hin.mono ?_
  rintro e w1 ⟨⟨x, err, rfl, hp⟩, hb⟩
  have hT1 := hT.below hb
  rcases hp with ⟨n, rfl, hn, rfl, rfl⟩ | ⟨rfl, ⟨rfl, rfl⟩ | ⟨rfl, rfl⟩⟩
  · go_wp2_with fail
    go_ret2
    exact ⟨⟨_, _, rfl, .inl ⟨n, rfl, hn, rfl, rfl⟩⟩, hb⟩
  · obtain ⟨te, pe, hev⟩ := hT1.syn
    have hte := fun fn => Tryd.strconv_toError_syntax fn s 16 bits _ w1 (by omega) hev (.inr ⟨te, pe, rfl⟩)
    have HTE := Lib.hid hte; clear hte hev
    go_wp2_with fail
    go_at_call 61
    refine (HTE.out _).mono ?_
    rintro e w2 ⟨N, rfl, _, _, hb2⟩
    go_wp2_with fail
    go_ret2
    exact ⟨⟨_, _, rfl, .inr ⟨rfl, ⟨_, rfl⟩, N, rfl⟩⟩, hb.trans (hb2.mono hb.size)⟩
  · obtain ⟨te, pe, hev⟩ := hT1.rng
    have hte := fun fn => Tryd.strconv_toError_range fn s 16 bits _ w1 (by omega) hev (.inr ⟨te, pe, rfl⟩)
    have HTE := Lib.hid hte; clear hte hev
    go_wp2_with fail
    go_at_call 61
    refine (HTE.out _).mono ?_
    rintro e w2 ⟨N, rfl, _, _, hb2⟩
    go_wp2_with fail
    go_ret2
    exact ⟨⟨_, _, rfl, .inr ⟨rfl, ⟨_, rfl⟩, N, rfl⟩⟩, hb.trans (hb2.mono hb.size)⟩

end Go.Proofs.YtlnafmibopkilaaDoor
