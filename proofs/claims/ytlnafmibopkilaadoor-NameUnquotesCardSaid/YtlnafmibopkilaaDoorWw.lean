/- Names: the document's own unquoting, by a walk. -/
import Derived.Test.YtlnafmibopkilaaDoorWv
import Derived.IntWalk
namespace Go.Proofs.YtlnafmibopkilaaDoor
open Go Go.Lib Go.RowKit

def RUpost (s : ByteArray) (w : World) (e : Ending) (w' : World) : Prop :=
  ((∃ l, quoteP l = s.data.toList ∧ e = .returned (.tuple #[.string ⟨l.toArray⟩, .bool true])) ∨ (NoQ s ∧ e = .returned (.tuple #[.string ⟨#[]⟩, .bool false]))) ∧ Below w.heap.size w w'
theorem RUno {s : ByteArray} {w w' : World} (h : NoQ s) (hb : Below w.heap.size w w') : RUpost s w (.returned (.tuple #[.string ⟨#[]⟩, .bool false])) w' := ⟨.inr ⟨h, rfl⟩, hb⟩

theorem int_eq {a b : Int} (h : a = b) : Value.int .i64 a = .int .i64 b := by rw [h]
theorem cvd1 (W : World) (t : TypeId) (a0 : Int) : (convert 51 9 (.slice (some ⟨W.heap.size, 0, none⟩) 1 1)).run Tryd.prog (W.alloc (.cells #[.int .u8 a0] t)).drew = .ok (.string (strOfNums [a0])) (W.alloc (.cells #[.int .u8 a0] t)).drew := cvb1 W.drew t a0
set_option maxRecDepth 1000000 in
set_option maxHeartbeats 8000000 in
theorem runquote_any (s : ByteArray) (w : World) (hs : s.size ≤ 100000) : Calls Tryd.prog 24 #[.string s] w (RUpost s w) := by
  have H0 := Lib.hid (condA_start s)
  go_enter Tryd.func24, Tryd.ntmps24
  go_wp2_with fail
  go_loopw [4, 5] (fun v4 v5 wr => ∃ (x : ByteArray) (p : Nat), v4 = .string x ∧ v5 = .int .i64 (p : Int) ∧ p ≤ s.size ∧ x.size ≤ 4 * p ∧ Below w.heap.size w wr ∧ Hid (CondA s p x)) (fun _ v5 _ => s.size - (Lib.intOf v5).toNat)
  case atStart => exact ⟨⟨#[]⟩, 0, rfl, rfl, by omega, by show 0 ≤ _; omega, Below.refl _ _, H0⟩
  case round =>
    obtain ⟨x, p, rfl, rfl, hp, hx, hbw, HC⟩ := hrel
    clear H0
    by_cases hlt : p < s.size
    · have hp0 : (0 : Int) ≤ (p : Int) := Int.natCast_nonneg p
      by_cases hc : s[p].toNat = 92
      · have hcc : ((s[p].toNat : Int) == 92) = true := by simp; omega
        by_cases h1 : p + 1 < s.size
        · have hg0 : (0 : Int) ≤ (s[p + 1].toNat : Int) := Int.natCast_nonneg _
          have hg1 : (s[p + 1].toNat : Int) ≤ 255 := by have := s[p + 1].toNat_lt; omega
          by_cases c1 : s[p + 1].toNat = 92
          · have c1c : ((s[p + 1].toNat : Int) == 92) = true := by simp; omega
            have hn := Lib.hid (condA_slash HC.out h1 hc c1)
            clear HC hc c1
            go_wp2_with fail
            go_roundw
            case rel =>
              refine ⟨_, p + 2, rfl, by go_num, by omega, ?_, hbw, hn⟩
              simp only [ByteArray.size_append]
              show x.size + 1 ≤ _
              omega
            case measure => simp [Lib.intOf]; omega
          · have c1c : ((s[p + 1].toNat : Int) == 92) = false := by simp; omega
            by_cases c2 : s[p + 1].toNat = 120
            · have c2c : ((s[p + 1].toNat : Int) == 120) = true := by simp; omega
              by_cases h3 : p + 3 < s.size
              · have hA0 : (0 : Int) ≤ (s[p + 2].toNat : Int) := Int.natCast_nonneg _
                have hA1 : (s[p + 2].toNat : Int) ≤ 255 := by have := s[p + 2].toNat_lt; omega
                have hB0 : (0 : Int) ≤ (s[p + 3].toNat : Int) := Int.natCast_nonneg _
                have hB1 : (s[p + 3].toNat : Int) ≤ 255 := by have := s[p + 3].toNat_lt; omega
                have dA := fun W => rdigit_any (s[p + 2].toNat : Int) W hA0 hA1
                have dB := fun W => rdigit_any (s[p + 3].toNat : Int) W hB0 hB1
                have bA := digZ_bd (s[p + 2].toNat : Int)
                have bB := digZ_bd (s[p + 3].toNat : Int)
                by_cases n1 : digZ (s[p + 2].toNat : Int) < 0
                · have hn := Lib.hid (no_x HC.out h1 hc c2 (.inr (.inl ⟨by omega, n1⟩)))
                  generalize digZ (s[p + 2].toNat : Int) = za at *
                  have D := Lib.hid dA
                  clear HC hc c1 c2 dA dB
                  go_wp2_with fail
                  go_at_call 40
                  refine (D.out _).mono ?_
                  rintro e w1 ⟨rfl, rfl⟩
                  go_wp2_with fail
                  go_ret2
                  exact RUno hn.out hbw
                · by_cases n2 : digZ (s[p + 3].toNat : Int) < 0
                  · have hn := Lib.hid (no_x HC.out h1 hc c2 (.inr (.inr ⟨by omega, n2⟩)))
                    generalize digZ (s[p + 2].toNat : Int) = za at *
                    generalize digZ (s[p + 3].toNat : Int) = zb at *
                    have D := Lib.hid (And.intro dA dB)
                    clear HC hc c1 c2 dA dB
                    go_wp2_with fail
                    go_at_call 40
                    refine (D.out.1 _).mono ?_
                    rintro e w1 ⟨rfl, rfl⟩
                    go_wp2_with fail
                    go_at_call 40
                    refine (D.out.2 _).mono ?_
                    rintro e w1 ⟨rfl, rfl⟩
                    go_wp2_with fail
                    go_ret2
                    exact RUno hn.out hbw
                  · have hn := Lib.hid (condA_x HC.out h3 hc c2)
                    have hst : (strOfNums [16 * digZ (s[p + 2].toNat : Int) + digZ (s[p + 3].toNat : Int)]).size = 1 := rfl
                    generalize digZ (s[p + 2].toNat : Int) = za at *
                    generalize digZ (s[p + 3].toNat : Int) = zb at *
                    have D := Lib.hid (And.intro dA dB)
                    clear HC hc c1 c2 dA dB
                    have hcv := cvd1
                    go_wp2_with fail
                    go_at_call 40
                    refine (D.out.1 _).mono ?_
                    rintro e w1 ⟨rfl, rfl⟩
                    go_wp2_with fail
                    go_at_call 40
                    refine (D.out.2 _).mono ?_
                    rintro e w1 ⟨rfl, rfl⟩
                    go_wp2_with fail
                    have v1 : IntKind.i64.wrap ((p : Int) + 2) = (p : Int) + 2 := IntWalk.i64_in _ (by omega)
                    have v2 : IntKind.i64.wrap ((p : Int) + 3) = (p : Int) + 3 := IntWalk.i64_in _ (by omega)
                    have v3 : (0 : Int) ≤ (p : Int) + 2 := by omega
                    have v4 : (0 : Int) ≤ (p : Int) + 3 := by omega
                    have v5 : ((p : Int) + 2).toNat = p + 2 := by omega
                    have v6 : ((p : Int) + 3).toNat = p + 3 := by omega
                    have v7 : (p : Int) + 2 < (s.size : Int) := by omega
                    have v8 : (p : Int) + 3 < (s.size : Int) := by omega
                    have v9 : IntKind.i64.wrap (16 * za) = 16 * za := IntWalk.i64_in _ (by omega)
                    have va : IntKind.i64.wrap (16 * za + zb) = 16 * za + zb := IntWalk.i64_in _ (by omega)
                    have vb : IntKind.u8.wrap (16 * za + zb) = 16 * za + zb := IntWalk.u8_in _ (by omega)
                    go_region_with (first | (go_at_call 40; ((with_reducible refine (D.out.1 _).mono ?_); rintro e w1 ⟨rfl, rfl⟩)) | (go_at_call 40; ((with_reducible refine (D.out.2 _).mono ?_); rintro e w1 ⟨rfl, rfl⟩)))
                    all_goals
                      go_wp2_with fail
                      go_roundw
                      case rel =>
                        refine ⟨_, p + 4, rfl, by go_num, by omega, ?_, ((hbw.alloc hbw.size _).drew), hn⟩
                        rw [ByteArray.size_append, hst]
                        omega
                      case measure => simp [Lib.intOf]; omega
              · have hn := Lib.hid (no_x HC.out h1 hc c2 (.inl (by omega)))
                clear HC hc c1 c2
                go_wp2_with fail
                go_ret2
                exact RUno hn.out hbw
            · have c2c : ((s[p + 1].toNat : Int) == 120) = false := by simp; omega
              by_cases c3 : s[p + 1].toNat = 117
              · have c3c : ((s[p + 1].toNat : Int) == 117) = true := by simp; omega
                have hn := Lib.hid (condU_start HC.out h1 hc c3)
                clear HC hc c1 c2 c3
                go_wp2_with fail
                go_loop [6, 7] (fun v6 v7 => ∃ (v j : Nat), v6 = .int .i64 (v : Int) ∧ v7 = .int .i64 (j : Int) ∧ p + 2 ≤ j ∧ j ≤ p + 9 ∧ j ≤ s.size ∧ Hid (v < 16 ^ (j - (p + 2))) ∧ Hid (CondU s p j v x)) (fun _ v7 => s.size - (Lib.intOf v7).toNat)
                case atStart => exact ⟨0, p + 2, rfl, by go_num, by omega, by omega, by omega, Lib.hid (by rw [Nat.sub_self]; exact Nat.zero_lt_one), hn⟩
                case round =>
                  obtain ⟨v, j, rfl, rfl, hj2, hj9, hjs, HV, HU⟩ := hrel
                  clear hn
                  have hv : v ≤ 268435455 := by
                    have h1 := HV.out
                    have h2 := Nat.pow_le_pow_right (n := 16) (by omega) (show j - (p + 2) ≤ 7 by omega)
                    have h3 : 16 ^ 7 = 268435456 := rfl
                    omega
                  have hv0 : (0 : Int) ≤ (v : Int) := Int.natCast_nonneg v
                  have hj0 : (0 : Int) ≤ (j : Int) := Int.natCast_nonneg j
                  by_cases hjl : j < s.size
                  · have hJ0 : (0 : Int) ≤ (s[j].toNat : Int) := Int.natCast_nonneg _
                    have hJ1 : (s[j].toNat : Int) ≤ 255 := by have := s[j].toNat_lt; omega
                    have dJ := fun W => rdigit_any (s[j].toNat : Int) W hJ0 hJ1
                    have bJ := digZ_bd (s[j].toNat : Int)
                    by_cases n1 : digZ (s[j].toNat : Int) < 0
                    · have hst : ∀ hj : j < s.size, j < p + 9 → digZ (s[j].toNat : Int) < 0 := fun _ _ => n1
                      by_cases c46 : s[j].toNat = 46
                      · have c46c : (46 : Int) ≤ (s[j].toNat : Int) := by omega
                        have c46d : (s[j].toNat : Int) ≤ (46 : Int) := by omega
                        by_cases cj : j = p + 2
                        · have hno := Lib.hid (no_u HU.out hj2 hst (.inr (.inr (.inl cj))))
                          have cjc : (j : Int) ≤ (p : Int) + 2 := by omega
                          have cjd : (p : Int) + 2 ≤ (j : Int) := by omega
                          clear cj
                          generalize digZ (s[j].toNat : Int) = zd at *
                          have D := Lib.hid dJ
                          clear dJ hst HU HV c46
                          go_wp2_with fail
                          go_at_call 40
                          refine (D.out _).mono ?_
                          rintro e w1 ⟨rfl, rfl⟩
                          go_wp2_with fail
                          go_ret2
                          exact RUno hno.out hbw
                        · have cjc : ¬ (j : Int) = (p : Int) + 2 := by omega
                          have cjd : ((j : Int) == (p : Int) + 2) = false := by simp; omega
                          by_cases cv : 1114111 < v
                          · have hno := Lib.hid (no_u HU.out hj2 hst (.inr (.inr (.inr cv))))
                            generalize digZ (s[j].toNat : Int) = zd at *
                            have D := Lib.hid dJ
                            clear dJ hst HU HV c46
                            go_wp2_with fail
                            go_at_call 40
                            refine (D.out _).mono ?_
                            rintro e w1 ⟨rfl, rfl⟩
                            go_wp2_with fail
                            go_ret2
                            exact RUno hno.out hbw
                          · have hno := Lib.hid (condA_u HU.out hj2 hst)
                            have cvc : (v : Int) ≤ 1114111 := by omega
                            have hez := EncZ_size (v : Int)
                            have hE := fun W => rencode_any (v : Int) W hv0 (by omega)
                            generalize digZ (s[j].toNat : Int) = zd at *
                            generalize EncZ (v : Int) = ez at *
                            have D := Lib.hid (And.intro dJ hE)
                            clear dJ hE hst HU HV c46
                            go_wp2_with fail
                            go_at_call 40
                            refine (D.out.1 _).mono ?_
                            rintro e w1 ⟨rfl, rfl⟩
                            go_wp2_with fail
                            go_at_call 41
                            refine (D.out.2 _).mono ?_
                            rintro e w2 ⟨rfl, hb⟩
                            go_wp2_with fail
                            go_roundw
                            case rel =>
                              refine ⟨_, j + 1, rfl, by go_num, by omega, ?_, hbw.trans (hb.mono hbw.size), hno⟩
                              rw [ByteArray.size_append]
                              omega
                            case measure => simp [Lib.intOf]; omega
                      · have c46c : ¬ (s[j].toNat : Int) = 46 := by omega
                        have hno := Lib.hid (no_u HU.out hj2 hst (.inr (.inl ⟨hjl, c46⟩)))
                        generalize digZ (s[j].toNat : Int) = zd at *
                        have D := Lib.hid dJ
                        clear dJ hst HU HV c46
                        go_wp2_with fail
                        go_at_call 40
                        refine (D.out _).mono ?_
                        rintro e w1 ⟨rfl, rfl⟩
                        go_wp2_with fail
                        go_ret2
                        exact RUno hno.out hbw
                    · by_cases h9 : j < p + 9
                      · have hno := Lib.hid (condU_dig HU.out hjl hj2 (by omega))
                        have hpw : 16 * v + (digZ (s[j].toNat : Int)).toNat < 16 ^ (j + 1 - (p + 2)) := by
                          have h1 := HV.out
                          rw [show j + 1 - (p + 2) = (j - (p + 2)) + 1 by omega, Nat.pow_succ]
                          omega
                        have HW := Lib.hid hpw
                        generalize digZ (s[j].toNat : Int) = zd at *
                        have D := Lib.hid dJ
                        clear dJ HU HV hpw
                        go_wp2_with fail
                        go_at_call 40
                        refine (D.out _).mono ?_
                        rintro e w1 ⟨rfl, rfl⟩
                        go_wp2_with fail
                        go_at_call 40
                        refine (D.out _).mono ?_
                        rintro e w1 ⟨rfl, rfl⟩
                        go_wp2_with fail
                        go_round
                        case rel => exact ⟨16 * v + zd.toNat, j + 1, int_eq (by omega), by go_num, by omega, by omega, by omega, HW, hno⟩
                        case measure => simp [Lib.intOf]; omega
                      · have hne46 : s[j].toNat ≠ 46 := by
                          intro e
                          rw [e] at n1
                          exact n1 (by decide)
                        have c46c : ¬ (s[j].toNat : Int) = 46 := by omega
                        have hno := Lib.hid (no_u HU.out hj2 (fun _ h => absurd h h9) (.inr (.inl ⟨hjl, hne46⟩)))
                        generalize digZ (s[j].toNat : Int) = zd at *
                        have D := Lib.hid dJ
                        clear dJ HU HV hne46
                        go_wp2_with fail
                        go_at_call 40
                        refine (D.out _).mono ?_
                        rintro e w1 ⟨rfl, rfl⟩
                        go_wp2_with fail
                        go_ret2
                        exact RUno hno.out hbw
                  · have hno := Lib.hid (no_u HU.out hj2 (fun hj _ => absurd hj hjl) (.inl (by omega)))
                    clear HU HV
                    go_wp2_with fail
                    go_ret2
                    exact RUno hno.out hbw
              · have c3c : ((s[p + 1].toNat : Int) == 117) = false := by simp; omega
                have hn := Lib.hid (no_other HC.out h1 hc c1 c2 c3)
                clear HC hc c1 c2 c3
                go_wp2_with fail
                go_ret2
                exact RUno hn.out hbw
        · have hn := Lib.hid (no_end HC.out hlt hc (by omega))
          clear HC hc
          go_wp2_with fail
          go_ret2
          exact RUno hn.out hbw
      · have hcc : ((s[p].toNat : Int) == 92) = false := by simp; omega
        have hn := Lib.hid (condA_char HC.out hlt hc)
        clear HC hc
        go_wp2_with fail
        go_roundw
        case rel =>
          refine ⟨_, p + 1, rfl, by go_num, by omega, ?_, hbw, hn⟩
          simp only [ByteArray.size_append, ByteArray.size_extract]
          omega
        case measure => simp [Lib.intOf]; omega
    · have hd := condA_done HC.out (by omega)
      have hpl : decide ((p : Int) < (s.size : Int)) = false := decide_eq_false (by omega)
      have hQ := fun W => rquote_any x W (by omega)
      by_cases hq : quoteP x.data.toList = s.data.toList
      · have hqq : ((⟨(quoteP x.data.toList).toArray⟩ : ByteArray).toList == s.toList) = true := by rw [str_list, str_list]; simp [hq]
        have hqr : (quoteP x.data.toList == s.toList) = true := by rw [str_list]; simp [hq]
        have H := Lib.hid (And.intro hQ hq)
        clear hQ hq hd HC
        go_wp2_with fail
        go_at_call 23
        refine (H.out.1 _).mono ?_
        rintro e w1 ⟨rfl, hb⟩
        go_wp2_with fail
        go_ret2
        refine ⟨.inl ⟨x.data.toList, H.out.2, ?_⟩, hbw.trans (hb.mono hbw.size)⟩
        have ex : (⟨x.data.toList.toArray⟩ : ByteArray) = x := by cases x; simp
        rw [ex]
        rfl
      · have hqq : ((⟨(quoteP x.data.toList).toArray⟩ : ByteArray).toList == s.toList) = false := by rw [str_list, str_list]; simp [hq]
        have hqr : (quoteP x.data.toList == s.toList) = false := by rw [str_list]; simp [hq]
        have hno : NoQ s := fun l hl => hq (by rw [hd l hl]; exact hl)
        have H := Lib.hid (And.intro hQ hno)
        clear hQ hq hd HC hno
        go_wp2_with fail
        go_at_call 23
        refine (H.out.1 _).mono ?_
        rintro e w1 ⟨rfl, hb⟩
        go_wp2_with fail
        go_ret2
        exact RUno H.out.2 (hbw.trans (hb.mono hbw.size))
end Go.Proofs.YtlnafmibopkilaaDoor
