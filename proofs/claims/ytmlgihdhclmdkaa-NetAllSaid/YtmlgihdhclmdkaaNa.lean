/- NetAll, by a walk. -/
import Derived.Test.YtmlgihdhclmdkaaMc
namespace Go.Proofs.Ytmlgihdhclmdkaa
open Go.RowKit Go.Proofs.YtmlgihdhclmdkaaW.PrintWords

theorem cnt_up (L : List Lt) (t : Int) (y : ByteArray) : cnt L y + 1 = cnt (L ++ [⟨t, y⟩]) y ∧ ∀ s, s ≠ y → cnt (L ++ [⟨t, y⟩]) s = cnt L s :=
  ⟨by rw [cnt_snoc]; simp, fun s hs => by rw [cnt_snoc, if_neg (fun e => hs (Eq.symm e))]; omega⟩
theorem cnt_down (L : List Lt) (i : Nat) (hi : i < L.length) (y : ByteArray) (hy : (L.getD i default).s = y) : cnt L y - 1 = cnt (L.eraseIdx i) y ∧ ∀ s, s ≠ y → cnt (L.eraseIdx i) s = cnt L s :=
  ⟨by rw [cnt_erase L i hi, if_pos hy], fun s hs => by rw [cnt_erase L i hi, if_neg (fun e => hs (by rw [← e, hy]))]; omega⟩
theorem cnt_pos (L : List Lt) (i : Nat) (hi : i < L.length) : 1 ≤ cnt L (L.getD i default).s := by
  have := (cnt_down L i hi _ rfl).1
  have := cnt_bd (L.eraseIdx i) (L.getD i default).s
  omega

set_option maxRecDepth 100000 in
set_option maxHeartbeats 2000000 in
theorem all_out (a1 : Option Addr) (n1 c1 : Nat) (a2 : Option Addr) (n2 c2 : Nat) (w : World) (hm1 : n1 ≤ 9223372036854775807) (hm2 : n2 ≤ 9223372036854775807) (h : 150 < n1 ∨ n2 < n1) :
    Calls Try.prog 5 #[.slice a1 n1 c1, .slice a2 n2 c2] w fun e w' => e = .returned (.bool true) ∧ Fr (fun _ => False) w w' := by
  by_cases h1 : 150 < n1
  · have h2 : decide (n2 < n1) = decide (n2 < n1) := rfl
    go_enter Try.func5, Try.ntmps5
    go_wp2_with fail
    go_at_call 6
    refine (awake_any _).mono ?_
    rintro e w1 ⟨rfl, hf1⟩
    go_wp2_with fail
    go_at_call 6
    refine (awake_any _).mono ?_
    rintro e w2 ⟨rfl, hf2⟩
    go_wp2_with fail
    go_ret
    exact ⟨rfl, hf1.trans hf2⟩
  · have h2 : n2 < n1 := by omega
    clear h
    go_enter Try.func5, Try.ntmps5
    go_wp2_with fail
    go_at_call 6
    refine (awake_any _).mono ?_
    rintro e w1 ⟨rfl, hf1⟩
    go_wp2_with fail
    go_at_call 6
    refine (awake_any _).mono ?_
    rintro e w2 ⟨rfl, hf2⟩
    go_wp2_with fail
    go_ret
    exact ⟨rfl, hf1.trans hf2⟩

set_option maxRecDepth 100000 in
set_option maxHeartbeats 8000000 in
theorem all_any (a1 : Option Addr) (n1 c1 : Nat) (xs : List ByteArray) (a2 : Option Addr) (n2 c2 : Nat) (ys : List Int) (w : World) (hx : RdS w a1 n1 xs) (hy : RdI w a2 n2 ys) :
    Calls Try.prog 5 #[.slice a1 n1 c1, .slice a2 n2 c2] w fun e w' => e = .returned (.bool true) ∧ Fr (fun _ => False) w w' := by
  have hm1 : n1 ≤ 9223372036854775807 := by have := hx.2.1; unfold maxLen at this; exact this
  have hm2 : n2 ≤ 9223372036854775807 := by have := hy.2.1; unfold maxLen at this; exact this
  by_cases hout : 150 < n1 ∨ n2 < n1
  · exact all_out a1 n1 c1 a2 n2 c2 w hm1 hm2 hout
  · have hn1 : n1 ≤ 150 := by omega
    have hn2 : n1 ≤ n2 := by omega
    have HX := Lib.hid hx
    have HY := Lib.hid hy
    clear hx hy hout
    have hmm := @run_makeMap Try.prog
    go_enter Try.func5, Try.ntmps5
    go_wp2_with fail
    go_at_call 6
    refine (awake_any _).mono ?_
    rintro e w1 ⟨rfl, hf1⟩
    have H1 := Lib.hid hf1; clear hf1
    go_wp2_with fail
    go_at_call 7
    refine (nnew_any _).mono ?_
    rintro e w2 ⟨rfl, hd, hz, hf⟩
    have HS : Hid (w.heap.size ≤ w1.heap.size ∧ w.heap.size ≤ w2.heap.size) := Lib.hid ⟨H1.out.size, Nat.le_trans H1.out.size hf.size⟩
    have H2 := Lib.hid (And.intro hd (H1.out.trans hf)); clear hd hf hz
    go_wp2_with fail
    go_loopw [39] (fun i wr => ∃ (k : Nat) (L : List Lt), k ≤ n1 ∧ i = .int .i64 k ∧ IsN wr w1.heap.size w1.heap.size L ∧ L.length = k ∧ Mp wr w2.heap.size k L ∧ (∀ x ∈ L, x.s.size ≤ maxLen) ∧ Fr (fun _ => False) w wr) (fun i _ => n1 - (intOf i).toNat)
    case atStart => exact ⟨0, [], by omega, rfl, H2.out.1.fr ((Fr.refl (fun _ => False) _).alloc _) (by simp), rfl, Mp.made _, by simp, H2.out.2.alloc _⟩
    case round =>
      obtain ⟨k, L, hk, rfl, hn, hl, hmp, hsz, hf⟩ := hrel
      have HR := Lib.hid (And.intro hn (And.intro hl (And.intro hmp (And.intro hsz hf)))); clear hn hl hmp hsz hf
      by_cases hlt : k < n1
      · obtain ⟨ad, ea, hc⟩ := HX.out.at HR.out.2.2.2.2 hlt
        subst ea
        have hs := HX.out.size k
        generalize xs.getD k ByteArray.empty = s at *
        have HSZ := Lib.hid hs
        by_cases h300 : 300 < s.size
        · unfold maxLen at hs
          go_wp2_with fail
          go_ret
          exact ⟨rfl, HR.out.2.2.2.2⟩
        · clear hs
          go_wp2_with fail
          go_at_call 9
          refine (send_any _ _ _ _ _ _ HR.out.1 (by rw [HR.out.2.1]; omega)).mono ?_
          rintro e w4 ⟨rfl, hd, hf⟩
          generalize (k : Int) % 6 = t at *
          obtain ⟨es, ck, hmb⟩ := HR.out.2.2.1.blk
          have H4 := Lib.hid (And.intro hd (And.intro (HR.out.2.2.1.fr hf (tn_map HR.out.1 hmb)) (HR.out.2.2.2.2.own hf (fun _ q => Nat.le_trans HS.out.1 q.1)))); clear hd hf hmb
          have hcu := Lib.hid (cnt_up L t s)
          obtain ⟨hb0, hb1⟩ := cnt_bd L s
          have hb2 : (L.length : Int) ≤ 150 := by rw [HR.out.2.1]; omega
          have HLL : Hid ((L ++ [(⟨t, s⟩ : Lt)]).length ≤ 1000) := Lib.hid (by simp; omega)
          have HK : Hid (k ≤ 1000) := Lib.hid (by omega)
          go_wp2_with (first | (at_lookup; refine look_cnt rfl (.tmp 53) (.tmp 54) rfl w2.heap.size k L rfl s rfl HSZ.out H4.out.2.1 ?_) | (at_mapUpdate; refine put_cnt rfl (.tmp 53) (.tmp 54) (.tmp 56) rfl w2.heap.size k L (L ++ [⟨t, s⟩]) rfl s rfl HSZ.out (cnt L s + 1) rfl hcu.out.1 hcu.out.2 HLL.out HK.out H4.out.2.1 ?_; intro w5 hmp5 hgr5; have H5 := Lib.hid (And.intro hmp5 hgr5); clear hmp5 hgr5))
          go_roundw
          case rel =>
            have hf5 := Fr.of_grown H5.out.2
            obtain ⟨es, ck, hmb⟩ := H4.out.2.1.blk
            refine ⟨k + 1, L ++ [⟨t, s⟩], by omega, by go_num, H4.out.1.frM hmb (hf5.mono fun i _ e => Option.some.inj e), by simp [HR.out.2.1], H5.out.1, ?_, H4.out.2.2.own hf5 (fun i e => by rw [Option.some.inj e]; exact HS.out.2)⟩
            intro z hz
            rcases List.mem_append.1 hz with hz | hz
            · exact HR.out.2.2.2.1 z hz
            · rw [List.mem_singleton.1 hz]; exact HSZ.out
          case measure => simp [intOf]; omega
      · obtain rfl : k = n1 := by omega
        go_wp2_with fail
        go_loopw [60] (fun i wr => ∃ (r : Nat) (L : List Lt), r ≤ k ∧ i = .int .i64 r ∧ IsN wr w1.heap.size w1.heap.size L ∧ L.length = k - r ∧ Mp wr w2.heap.size (k + r) L ∧ (∀ x ∈ L, x.s.size ≤ maxLen) ∧ Fr (fun _ => False) w wr) (fun i _ => k - (intOf i).toNat)
        case atStart => exact ⟨0, L, by omega, rfl, HR.out.1, by rw [HR.out.2.1]; rfl, HR.out.2.2.1, HR.out.2.2.2.1, HR.out.2.2.2.2⟩
        case round =>
          clear HR
          clear L
          obtain ⟨r, L, hr, rfl, hn, hl, hmp, hsz, hf⟩ := hrel
          have HR := Lib.hid (And.intro hn (And.intro hl (And.intro hmp (And.intro hsz hf)))); clear hn hl hmp hsz hf
          by_cases hlt : r < k
          · obtain ⟨ad, ea, hc⟩ := HY.out.at HR.out.2.2.2.2 (by omega : r < n2)
            subst ea
            generalize ys.getD r 0 = o at *
            have HL : Hid (L ≠ []) := Lib.hid (by intro e; have := HR.out.2.1; rw [e] at this; simp at this; omega)
            go_wp2_with fail
            go_at_call 11
            refine (look_any _ _ _ _ _ HR.out.1 HL.out).mono ?_
            rintro e w5 ⟨rfl, m5, rfl⟩
            have hpl := plN_lt o L.length (List.length_pos_iff.2 HL.out)
            generalize hpn : plN o L.length = i at *
            have HI := Lib.hid (And.intro hpl hpn); clear hpl hpn
            generalize hgx : L.getD i default = x at *
            obtain ⟨t, y⟩ := x
            have hcd := cnt_down L i HI.out.1 y (by rw [hgx])
            have hcp := cnt_pos L i HI.out.1
            rw [hgx] at hcp
            have hys : y.size ≤ maxLen := HR.out.2.2.2.1 ⟨t, y⟩ (by rw [← hgx, List.getD_eq_getElem?_getD, List.getElem?_eq_getElem HI.out.1]; exact List.getElem_mem HI.out.1)
            have HY2 := Lib.hid hys; clear hys
            have HG := Lib.hid hgx; clear hgx
            have HC := Lib.hid (And.intro hcd hcp); clear hcd hcp
            go_wp2_with fail
            go_at_call 15
            refine (len_any _ _ L _ (HR.out.1.fr ((Fr.refl (fun _ => False) _).drewN _) (by simp))).mono ?_
            rintro e w6 ⟨rfl, rfl⟩
            rw [HR.out.2.1, (by omega : ((k - r : Nat) : Int) = (k : Int) - r)]
            have hc2 : (wr.drewN m5).cell? (ad.add r) = some (.int .i64 o) := hc
            go_wp2_with fail
            go_at_call 12
            refine (bring_any _ _ L _ _ (HR.out.1.fr ((Fr.refl (fun _ => False) _).drewN _) (by simp)) HL.out).mono ?_
            rw [HI.out.2, HG.out]
            rintro e w7 ⟨rfl, hd, hf⟩
            have HLE : Hid ((L.eraseIdx i).length = k - r - 1) := Lib.hid (by rw [List.length_eraseIdx, if_pos HI.out.1, HR.out.2.1])
            obtain ⟨es, ck, hmb⟩ := HR.out.2.2.1.blk
            have H7 := Lib.hid (And.intro hd (And.intro (HR.out.2.2.1.fr hf.und (tn_map HR.out.1 hmb)) (HR.out.2.2.2.2.own hf.und (fun _ q => Nat.le_trans HS.out.1 q.1)))); clear hd hf hmb
            go_wp2_with fail
            go_at_call 15
            refine (len_any _ _ _ _ H7.out.1).mono ?_
            rintro e w8 ⟨rfl, rfl⟩
            rw [HLE.out, (by omega : ((k - r - 1 : Nat) : Int) = (k : Int) - r - 1)]
            obtain ⟨hb0, hb1⟩ := cnt_bd L y
            have hb2 : (L.length : Int) ≤ 150 := by rw [HR.out.2.1]; omega
            have hcp := HC.out.2
            have hb3 := (cnt_bd (L.eraseIdx i) y).1
            have HLL : Hid ((L.eraseIdx i).length ≤ 1000) := Lib.hid (by rw [HLE.out]; omega)
            have HK : Hid (k + r ≤ 1000) := Lib.hid (by omega)
            go_wp2_with (first | (at_lookup; first | refine look_cnt rfl (.tmp 116) (.tmp 117) rfl w2.heap.size (k + r) L rfl y rfl HY2.out H7.out.2.1 ?_ | refine look_cnt rfl (.tmp 120) (.tmp 121) rfl w2.heap.size (k + r + 1) (L.eraseIdx i) rfl y rfl HY2.out H9.out.1 ?_) | (at_mapUpdate; refine put_cnt rfl (.tmp 116) (.tmp 117) (.tmp 119) rfl w2.heap.size (k + r) L (L.eraseIdx i) rfl y rfl HY2.out (cnt L y - 1) rfl HC.out.1.1 HC.out.1.2 HLL.out HK.out H7.out.2.1 ?_; intro w9 hmp9 hgr9; have H9 := Lib.hid (And.intro hmp9 hgr9); clear hmp9 hgr9))
            go_roundw
            case rel =>
              have hf9 := Fr.of_grown H9.out.2
              obtain ⟨es, ck, hmb⟩ := H7.out.2.1.blk
              exact ⟨r + 1, L.eraseIdx i, by omega, by go_num, H7.out.1.frM hmb (hf9.mono fun i _ e => Option.some.inj e), by rw [HLE.out]; omega, H9.out.1, fun z hz => HR.out.2.2.2.1 z (List.mem_of_mem_eraseIdx hz), H7.out.2.2.own hf9 (fun i e => by rw [Option.some.inj e]; exact HS.out.2)⟩
            case measure => simp [intOf]; omega
          · obtain rfl : r = k := by omega
            have e0 : L = [] := List.eq_nil_of_length_eq_zero (by rw [HR.out.2.1]; omega)
            subst e0
            go_wp2_with fail
            go_at_call 12
            refine (bring_none _ _ _ _ HR.out.1).mono ?_
            rintro e w7 ⟨rfl, rfl⟩
            go_wp2_with fail
            go_at_call 15
            refine (len_any _ _ _ _ HR.out.1).mono ?_
            rintro e w8 ⟨rfl, rfl⟩
            go_wp2_with fail
            go_ret
            exact ⟨rfl, HR.out.2.2.2.2⟩

end Go.Proofs.Ytmlgihdhclmdkaa
