/- NameJoins, by a walk. -/
import Derived.Test.YtlnafmibopkilaaDoorUa
import Derived.Test.YtlnafmibopkilaaDoorUt
namespace Go.Proofs.YtlnafmibopkilaaDoor
open Go Go.Lib Go.RowKit

theorem app_list (a b : ByteArray) : (a ++ b).data.toList = a.data.toList ++ b.data.toList := by simp

set_option maxRecDepth 100000 in
set_option maxHeartbeats 4000000 in
theorem joins_any (a b : ByteArray) (w : World) (hT : Tabs w) (ha : a.size ≤ 140737488351232) (hb : b.size ≤ 140737488351232) :
    Calls Tryd.prog 8 #[.string a, .string b] w fun e w' => e = .returned (.bool true) ∧ Below w.heap.size w w' := by
  by_cases h1 : 500 < a.size + b.size
  · have h2 : (500 : Int) < (a.size : Int) + b.size := by omega
    clear h1
    go_enter Tryd.func8, Tryd.ntmps8
    go_wp2_with fail
    go_at_call 10
    refine (awake_any _ hT).mono ?_
    rintro e w1 ⟨rfl, hb1⟩
    go_wp2_with fail
    go_at_call 10
    refine (awake_any _ (hT.below hb1)).mono ?_
    rintro e w2 ⟨rfl, hb2⟩
    go_wp2_with fail
    go_ret
    exact ⟨rfl, hb1.trans (hb2.mono hb1.size)⟩
  · have h2 : (a.size : Int) + b.size ≤ 500 := by omega
    have hva := fun W => rvalid_any a W (by omega)
    have hvb := fun W => rvalid_any b W (by omega)
    have hj := quote_join a.data.toList.length a.data.toList b.data.toList (Nat.le_refl _)
    have hk := count_join a.data.toList.length a.data.toList b.data.toList (Nat.le_refl _)
    generalize validP a.data.toList = va at *
    generalize validP b.data.toList = vb at *
    have HV := Lib.hid (And.intro hva hvb); clear hva hvb h1
    cases va
    · go_enter Tryd.func8, Tryd.ntmps8
      clear hj hk
      go_wp2_with fail
      go_at_call 10
      refine (awake_any _ hT).mono ?_
      rintro e w1 ⟨rfl, hb1⟩
      have B1 := Lib.hid hb1; clear hb1
      go_wp2_with fail
      go_at_call 16
      refine (HV.out.1 _).mono ?_
      rintro e w2 ⟨rfl, hb2⟩
      have B2 := Lib.hid (B1.out.trans (hb2.mono B1.out.size)); clear hb2
      go_wp2_with fail
      go_at_call 10
      refine (awake_any _ (hT.below B2.out)).mono ?_
      rintro e w3 ⟨rfl, hb3⟩
      go_wp2_with fail
      go_ret
      exact ⟨rfl, B2.out.trans (hb3.mono B2.out.size)⟩
    · cases vb
      · go_enter Tryd.func8, Tryd.ntmps8
        clear hj hk
        go_wp2_with fail
        go_at_call 10
        refine (awake_any _ hT).mono ?_
        rintro e w1 ⟨rfl, hb1⟩
        have B1 := Lib.hid hb1; clear hb1
        go_wp2_with fail
        go_at_call 16
        refine (HV.out.1 _).mono ?_
        rintro e w2 ⟨rfl, hb2⟩
        have B2 := Lib.hid (B1.out.trans (hb2.mono B1.out.size)); clear hb2
        go_wp2_with fail
        go_at_call 16
        refine (HV.out.2 _).mono ?_
        rintro e w3 ⟨rfl, hb3⟩
        have B3 := Lib.hid (B2.out.trans (hb3.mono B2.out.size)); clear hb3
        go_wp2_with fail
        go_at_call 10
        refine (awake_any _ (hT.below B3.out)).mono ?_
        rintro e w4 ⟨rfl, hb4⟩
        go_wp2_with fail
        go_ret
        exact ⟨rfl, B3.out.trans (hb4.mono B3.out.size)⟩
      · have hj2 := hj rfl
        have hk2 := hk rfl
        clear hj hk
        have hsab : (a ++ b).size = a.size + b.size := by simp
        have qab := fun W hT => quote_any (a ++ b) W (by omega) hT
        have qa := fun W hT => quote_any a W (by omega) hT
        have qb := fun W hT => quote_any b W (by omega) hT
        have cab := fun W => count_any (a ++ b) W (by omega)
        have ca := fun W => count_any a W (by omega)
        have cb := fun W => count_any b W (by omega)
        rw [app_list] at qab cab
        rw [hj2] at qab
        rw [hk2] at cab
        have la := quote_len a.data.toList
        have lb := quote_len b.data.toList
        have sa : a.data.toList.length = a.size := by simp
        have sb : b.data.toList.length = b.size := by simp
        have na := count_le a.data.toList
        have nb := count_le b.data.toList
        rw [sa] at la na
        rw [sb] at lb nb
        generalize quoteP a.data.toList = Qa at *
        generalize quoteP b.data.toList = Qb at *
        generalize countP a.data.toList = na' at *
        generalize countP b.data.toList = nb' at *
        have hcat : (⟨Qa.toArray⟩ ++ ⟨Qb.toArray⟩ : ByteArray) = ⟨(Qa ++ Qb).toArray⟩ := by
          apply ByteArray.ext
          simp
        have za : (⟨Qa.toArray⟩ : ByteArray).size ≤ 5500 := by show Qa.length ≤ _; omega
        have zb : (⟨Qb.toArray⟩ : ByteArray).size ≤ 5500 := by show Qb.length ≤ _; omega
        obtain ⟨X, hX⟩ : ∃ X : ByteArray, X = ⟨Qa.toArray⟩ := ⟨_, rfl⟩
        obtain ⟨Y, hY⟩ : ∃ Y : ByteArray, Y = ⟨Qb.toArray⟩ := ⟨_, rfl⟩
        obtain ⟨Z, hZ⟩ : ∃ Z : ByteArray, Z = ⟨(Qa ++ Qb).toArray⟩ := ⟨_, rfl⟩
        rw [← hX] at qa za hcat
        rw [← hY] at qb zb hcat
        rw [← hZ] at qab hcat
        have HC := Lib.hid (And.intro qab (And.intro qa (And.intro qb (And.intro cab (And.intro ca cb))))); clear qab qa qb cab ca cb hX hY hZ la lb sa sb hj2 hk2
        have hcast : ((na' + nb' : Nat) : Int) = (na' : Int) + nb' := by omega
        obtain ⟨c1, hc1⟩ : ∃ z : Int, z = na' := ⟨_, rfl⟩
        obtain ⟨c2, hc2⟩ : ∃ z : Int, z = nb' := ⟨_, rfl⟩
        have k1 : 0 ≤ c1 := by omega
        have k2 : 0 ≤ c2 := by omega
        have k3 : c1 ≤ 500 := by omega
        have k4 : c2 ≤ 500 := by omega
        rw [hcast, ← hc1, ← hc2] at HC
        clear hcast hc1 hc2 na nb
        go_enter Tryd.func8, Tryd.ntmps8
        go_wp2_with fail
        go_at_call 10
        refine (awake_any _ hT).mono ?_
        rintro e w1 ⟨rfl, hb1⟩
        have B1 := Lib.hid hb1; clear hb1
        go_wp2_with fail
        go_at_call 16
        refine (HV.out.1 _).mono ?_
        rintro e w2 ⟨rfl, hb2⟩
        have B2 := Lib.hid (B1.out.trans (hb2.mono B1.out.size)); clear hb2
        go_wp2_with fail
        go_at_call 16
        refine (HV.out.2 _).mono ?_
        rintro e w3 ⟨rfl, hb3⟩
        have B3 := Lib.hid (B2.out.trans (hb3.mono B2.out.size)); clear hb3
        go_wp2_with fail
        go_at_call 21
        refine (HC.out.1 _ (hT.below B3.out)).mono ?_
        rintro e w4 ⟨rfl, hb4⟩
        have B4 := Lib.hid (B3.out.trans (hb4.mono B3.out.size)); clear hb4
        go_wp2_with fail
        go_at_call 21
        refine (HC.out.2.1 _ (hT.below B4.out)).mono ?_
        rintro e w5 ⟨rfl, hb5⟩
        have B5 := Lib.hid (B4.out.trans (hb5.mono B4.out.size)); clear hb5
        go_wp2_with fail
        go_at_call 21
        refine (HC.out.2.2.1 _ (hT.below B5.out)).mono ?_
        rintro e w6 ⟨rfl, hb6⟩
        have B6 := Lib.hid (B5.out.trans (hb6.mono B5.out.size)); clear hb6
        go_wp2_with fail
        go_at_call 13
        refine (HC.out.2.2.2.1 _).mono ?_
        rintro e w7 ⟨rfl, hb7⟩
        have B7 := Lib.hid (B6.out.trans (hb7.mono B6.out.size)); clear hb7
        go_wp2_with fail
        go_at_call 13
        refine (HC.out.2.2.2.2.1 _).mono ?_
        rintro e w8 ⟨rfl, hb8⟩
        have B8 := Lib.hid (B7.out.trans (hb8.mono B7.out.size)); clear hb8
        go_wp2_with fail
        go_at_call 13
        refine (HC.out.2.2.2.2.2 _).mono ?_
        rintro e w9 ⟨rfl, hb9⟩
        have B9 := Lib.hid (B8.out.trans (hb9.mono B8.out.size)); clear hb9
        go_wp2_with fail
        go_ret
        exact ⟨rfl, B9.out⟩

end Go.Proofs.YtlnafmibopkilaaDoor
