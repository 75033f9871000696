/- NetFull, by a walk. -/
import Derived.Test.YtmlgihdhclmdkaaNb
namespace Go.Proofs.Ytmlgihdhclmdkaa
open Go.RowKit Go.Proofs.YtmlgihdhclmdkaaW.PrintWords

theorem umod_bd (x k : Int) (hk : 0 < k) (hk2 : k ≤ 4611686018427387904) : 0 ≤ wrap64 ((IntKind.u64.wrap x).tmod k) ∧ wrap64 ((IntKind.u64.wrap x).tmod k) < k := by
  have h0 : 0 ≤ IntKind.u64.wrap x := by simp [IntKind.wrap, IntKind.signed, IntKind.bits]; omega
  rw [Int.tmod_eq_emod_of_nonneg h0]
  have h1 := Int.emod_nonneg (IntKind.u64.wrap x) (by omega : k ≠ 0)
  have h2 := Int.emod_lt_of_pos (IntKind.u64.wrap x) hk
  unfold wrap64
  omega

set_option maxRecDepth 100000 in
set_option maxHeartbeats 2000000 in
theorem full_any (n : Int) (s : ByteArray) (w : World) (hs : s.size ≤ 140737488351232) :
    Calls Try.prog 4 #[.int .i64 n, .string s] w fun e w' => e = .returned (.bool true) ∧ Fr (fun _ => False) w w' := by
  by_cases hb : 100 < s.size
  · go_enter Try.func4, Try.ntmps4
    go_wp2_with fail
    go_at_call 6
    refine (awake_any _).mono ?_
    rintro e w1 ⟨rfl, hf1⟩
    go_wp2_with fail
    go_at_call 6
    refine (awake_any _).mono ?_
    rintro e w2 ⟨rfl, hf2⟩
    go_wp2_with fail
    go_ret
    exact ⟨rfl, hf1.trans hf2⟩
  · go_enter Try.func4, Try.ntmps4
    go_wp2_with fail
    have n1 := umod_bd n 300 (by omega) (by omega)
    generalize wrap64 ((IntKind.u64.wrap n).tmod 300) = N at *
    obtain ⟨n2, n3⟩ := n1
    go_at_call 6
    refine (awake_any _).mono ?_
    rintro e w1 ⟨rfl, hf1⟩
    have H1 := Lib.hid hf1; clear hf1
    go_wp2_with fail
    go_at_call 7
    refine (nnew_any _).mono ?_
    rintro e w2 ⟨rfl, hd, hz, hf⟩
    have HS : Hid (w.heap.size ≤ w1.heap.size) := Lib.hid H1.out.size
    have H2 := Lib.hid (And.intro hd (H1.out.trans hf)); clear hd hf hz
    go_wp2_with fail
    go_loopw [28] (fun i wr => ∃ (k : Int) (L : List Lt), 0 ≤ k ∧ k ≤ N ∧ i = .int .i64 k ∧ IsN wr w1.heap.size w1.heap.size L ∧ ((L.length : Int) = k ∧ k ≤ 200 ∨ L.length = 200 ∧ 200 ≤ k) ∧ Fr (fun _ => False) w wr) (fun i _ => (N - (intOf i)).toNat)
    case atStart => exact ⟨0, [], by omega, by omega, rfl, H2.out.1, by simp, H2.out.2⟩
    case round =>
      obtain ⟨k, L, hk0, hk, rfl, hn, hl, hf⟩ := hrel
      have HR := Lib.hid (And.intro hn (And.intro hl hf)); clear hn hl hf
      by_cases hlt : k < N
      · by_cases h200 : k < 200
        · go_wp2_with fail
          go_at_call 9
          refine (send_any _ _ _ _ _ _ HR.out.1 (by have := HR.out.2.1; omega)).mono ?_
          rintro e w4 ⟨rfl, hd, hf⟩
          have H4 := Lib.hid (And.intro hd hf); clear hd hf
          go_wp2_with fail
          go_roundw
          case rel => exact ⟨k + 1, _, by omega, by omega, by go_num, H4.out.1, by have := HR.out.2.1; simp; omega, HR.out.2.2.own H4.out.2 (fun _ q => Nat.le_trans HS.out q.1)⟩
          case measure => simp [intOf]; omega
        · go_wp2_with fail
          go_at_call 9
          refine (send_full _ _ _ _ _ _ HR.out.1 (by have := HR.out.2.1; omega)).mono ?_
          rintro e w4 ⟨rfl, rfl⟩
          go_wp2_with fail
          go_roundw
          case rel => exact ⟨k + 1, L, by omega, by omega, by go_num, HR.out.1, by have := HR.out.2.1; omega, HR.out.2.2⟩
          case measure => simp [intOf]; omega
      · obtain rfl : k = N := by omega
        go_wp2_with fail
        go_at_call 12
        refine (bring_nil _ _).mono ?_
        rintro e w4 ⟨rfl, rfl⟩
        go_wp2_with fail
        go_at_call 11
        refine (look_nil _ _).mono ?_
        rintro e w4 ⟨rfl, rfl⟩
        go_wp2_with fail
        go_at_call 15
        refine (len_any _ _ _ _ HR.out.1).mono ?_
        rintro e w4 ⟨rfl, rfl⟩
        by_cases h200 : 200 < k
        · have e4 : (L.length : Int) = 200 := by have := HR.out.2.1; omega
          rw [e4]
          clear e4
          go_wp2_with fail
          go_at_call 9
          refine (send_nil _ _ _).mono ?_
          rintro e w5 ⟨rfl, rfl⟩
          go_wp2_with fail
          go_at_call 14
          refine (drop_nil _ _).mono ?_
          rintro e w5 ⟨rfl, rfl⟩
          go_wp2_with fail
          go_at_call 15
          refine (len_nil _).mono ?_
          rintro e w5 ⟨rfl, rfl⟩
          go_wp2_with fail
          go_ret
          exact ⟨rfl, HR.out.2.2⟩
        · have e4 : (L.length : Int) = k := by have := HR.out.2.1; omega
          rw [e4]
          clear e4
          go_wp2_with fail
          go_at_call 9
          refine (send_nil _ _ _).mono ?_
          rintro e w5 ⟨rfl, rfl⟩
          go_wp2_with fail
          go_at_call 14
          refine (drop_nil _ _).mono ?_
          rintro e w5 ⟨rfl, rfl⟩
          go_wp2_with fail
          go_at_call 15
          refine (len_nil _).mono ?_
          rintro e w5 ⟨rfl, rfl⟩
          go_wp2_with fail
          go_ret
          exact ⟨rfl, HR.out.2.2⟩

end Go.Proofs.Ytmlgihdhclmdkaa
