/- Names: the bytes behind a backslash, by a walk. -/
import Derived.Test.YtlnafmibopkilaaDoorUe
namespace Go.Proofs.YtlnafmibopkilaaDoor
open Go Go.Lib Go.RowKit

def digL (l : List UInt8) : List UInt8 := if 0 ≤ cutI l then l.take (cutI l).toNat else l
theorem dig_list (s : ByteArray) : (dig s).data.toList = digL s.data.toList := by
  unfold dig digL
  by_cases h : 0 ≤ cutI s.data.toList
  · rw [if_pos h, if_pos h, extract_data, List.drop_zero, Nat.sub_zero]
  · rw [if_neg h, if_neg h]
def escP (l : List UInt8) : List UInt8 × Nat :=
  if hasPrefix l [92, 92] = true then ([92], 2)
  else if hasPrefix l [92, 120] = true ∧ 4 ≤ l.length then
    (match parseU 255 ((l.drop 2).take 2) with
    | some n => ([UInt8.ofNat n], 4)
    | none => ([], 0))
  else if hasPrefix l [92, 117] = true then
    (match parseU 4294967295 (digL (l.drop 2)) with
    | some n => if 0 ≤ cutI (l.drop 2) ∧ n ≤ 1114111 then ((Utf8.encode n).data.toList, (digL (l.drop 2)).length + 3) else ([], 0)
    | none => ([], 0))
  else ([], 0)

theorem cvb (W : World) (g : Nat) (x : Nat) (hx : x < 256) (h : W.cell? ⟨g, 0, none⟩ = some (.int .u8 x)) : (convert 51 9 (.slice (some ⟨g, 0, none⟩) 1 1)).run Tryd.prog W = .ok (.string ⟨#[UInt8.ofNat x]⟩) W := by
  have h1 := run_convert_bytes_arg (P := Tryd.prog) W 51 5 Tryd.underlying51 Tryd.underlying5 g 0 1 1 [(x : Int)] rfl (fun i hi => by
    have e : i = 0 := by omega
    subst e
    exact h) 9 Tryd.underlying9
  rw [h1]
  simp [strOfNums]

def Esc (R : List UInt8 × Nat) : Ending := .returned (.tuple #[.string ⟨R.1.toArray⟩, .int .i64 (R.2 : Int)])

set_option maxRecDepth 100000 in
set_option maxHeartbeats 2000000 in
theorem escape_any (s : ByteArray) (w : World) (hT : Tabs w) (hs : s.size ≤ 140737488351232) (h2 : 1 ≤ s.size) :
    Calls Tryd.prog 38 #[.string s] w fun e w' => e = Esc (escP s.data.toList) ∧ Below w.heap.size w w' := by
  have hp1 : ∀ W, Calls Tryd.prog 43 #[.string s, .string ⟨#[92, 92]⟩] W fun e w' => e = .returned (.bool (hasPrefix s.data.toList [92, 92])) ∧ w' = W := fun W => Tryd.strings_HasPrefix s ⟨#[92, 92]⟩ W
  have hp2 : ∀ W, Calls Tryd.prog 43 #[.string s, .string ⟨#[92, 120]⟩] W fun e w' => e = .returned (.bool (hasPrefix s.data.toList [92, 120])) ∧ w' = W := fun W => Tryd.strings_HasPrefix s ⟨#[92, 120]⟩ W
  have hp3 : ∀ W, Calls Tryd.prog 43 #[.string s, .string ⟨#[92, 117]⟩] W fun e w' => e = .returned (.bool (hasPrefix s.data.toList [92, 117])) ∧ w' = W := fun W => Tryd.strings_HasPrefix s ⟨#[92, 117]⟩ W
  have hpl : hasPrefix s.data.toList [92, 117] = true → 2 ≤ s.size := by
    intro h
    rw [prefix_bool, decide_eq_true_eq] at h
    obtain ⟨t, ht⟩ := h
    have h3 := congrArg List.length ht
    simp at h3
    omega
  obtain ⟨R, hRe⟩ : ∃ R, R = escP s.data.toList := ⟨_, rfl⟩
  have hsz : s.data.toList.length = s.size := by simp
  have hdr : s.data.toList.drop 2 = (s.extract 2 s.size).data.toList := (extract_tl s 2).symm
  rw [← hRe]
  unfold escP at hRe
  rw [hsz] at hRe
  generalize hasPrefix s.data.toList [92, 92] = b1 at *
  generalize hasPrefix s.data.toList [92, 120] = b2 at *
  generalize hasPrefix s.data.toList [92, 117] = b3 at *
  have HP := Lib.hid (And.intro hp1 (And.intro hp2 hp3)); clear hp1 hp2 hp3 hsz
  cases b1
  · rw [if_neg (by simp)] at hRe
    by_cases hb2 : b2 = true ∧ 4 ≤ s.size
    · rw [if_pos hb2] at hRe
      obtain ⟨rfl, h4⟩ := hb2
      have hx : (s.data.toList.drop 2).take 2 = (s.extract 2 4).data.toList := by rw [extract_data]
      rw [hx] at hRe
      have hsz2 : (s.extract 2 4).size ≤ 140737488351232 := by simp; omega
      have hpp := fun W hT => parse_pub 255 8 (s.extract 2 4) W hT hsz2 (parse8_in (s.extract 2 4) W hsz2)
      generalize parseU 255 (s.extract 2 4).data.toList = q at *
      have HPP := Lib.hid (And.intro hpp hRe); clear hpp hRe hx hdr hsz2
      go_enter Tryd.func38, Tryd.ntmps38
      go_wp2_with fail
      go_at_call 43
      refine (HP.out.1 _).mono ?_
      rintro e w1 ⟨rfl, rfl⟩
      go_wp2_with fail
      go_at_call 43
      refine (HP.out.2.1 _).mono ?_
      rintro e w1 ⟨rfl, rfl⟩
      go_wp2_with fail
      go_at_call 51
      refine (HPP.out.1 _ hT).mono ?_
      rintro e w1 ⟨⟨x, err, rfl, ⟨n, rfl, hn, rfl, rfl⟩ | ⟨rfl, ⟨y, rfl⟩, N, rfl⟩⟩, hb⟩
      · have hcv := fun g W => cvb W g n (by omega)
        go_wp2_with fail
        go_ret2
        refine ⟨?_, hb.alloc hb.size _⟩
        rw [HPP.out.2]
        rfl
      · go_wp2_with fail
        go_ret2
        refine ⟨?_, hb⟩
        rw [HPP.out.2]
        rfl
    · rw [if_neg hb2] at hRe
      have hb2c : b2 = false ∨ (b2 = true ∧ s.size < 4) := by
        cases b2
        · exact .inl rfl
        · refine .inr ⟨rfl, ?_⟩
          rcases Nat.lt_or_ge s.size 4 with h | h
          · exact h
          · exact absurd ⟨rfl, h⟩ hb2
      clear hb2
      cases b3
      · rw [if_neg (by simp)] at hRe
        subst hRe
        clear hpl hdr
        rcases hb2c with rfl | ⟨rfl, h4⟩
        all_goals
          go_enter Tryd.func38, Tryd.ntmps38
          go_wp2_with fail
          go_at_call 43
          refine (HP.out.1 _).mono ?_
          rintro e w1 ⟨rfl, rfl⟩
          go_wp2_with fail
          go_at_call 43
          refine (HP.out.2.1 _).mono ?_
          rintro e w1 ⟨rfl, rfl⟩
          go_wp2_with fail
          go_at_call 43
          refine (HP.out.2.2 _).mono ?_
          rintro e w1 ⟨rfl, rfl⟩
          go_wp2_with fail
          go_ret2
          exact ⟨rfl, Below.refl _ _⟩
      · rw [if_pos rfl, hdr] at hRe
        have h2s := hpl rfl
        clear hpl hdr
        have hS : (s.extract 2 s.size).size ≤ 140737488351232 := by simp; omega
        have hcut := fun W => cut_dot (s.extract 2 s.size) W hS
        have hdl := dig_list (s.extract 2 s.size)
        have hds : (dig (s.extract 2 s.size)).size ≤ 140737488351232 := by
          have h : (dig (s.extract 2 s.size)).data.toList.length ≤ (s.extract 2 s.size).data.toList.length := by
            rw [hdl]
            unfold digL
            split
            · rw [List.length_take]; exact Nat.min_le_right _ _
            · exact Nat.le_refl _
          simp at h
          simp at hS
          omega
        have hpp := fun W hT => parse_pub 4294967295 32 (dig (s.extract 2 s.size)) W hT hds (parse32_in (dig (s.extract 2 s.size)) W hds)
        rw [← hdl] at hRe
        have hdn : (dig (s.extract 2 s.size)).data.toList.length = (dig (s.extract 2 s.size)).size := by simp
        rw [hdn] at hRe
        clear hdl hdn
        generalize parseU 4294967295 (dig (s.extract 2 s.size)).data.toList = q at *
        generalize dig (s.extract 2 s.size) = D at *
        generalize cutI (s.extract 2 s.size).data.toList = ix at *
        have HPP := Lib.hid (And.intro hpp (And.intro hcut hRe)); clear hpp hcut hRe hS
        rcases hb2c with rfl | ⟨rfl, h4⟩
        all_goals
          go_enter Tryd.func38, Tryd.ntmps38
          go_wp2_with fail
          go_at_call 43
          refine (HP.out.1 _).mono ?_
          rintro e w1 ⟨rfl, rfl⟩
          go_wp2_with fail
          go_at_call 43
          refine (HP.out.2.1 _).mono ?_
          rintro e w1 ⟨rfl, rfl⟩
          go_wp2_with fail
          go_at_call 43
          refine (HP.out.2.2 _).mono ?_
          rintro e w1 ⟨rfl, rfl⟩
          go_wp2_with fail
          go_at_call 52
          refine (HPP.out.2.1 _).mono ?_
          rintro e w2 ⟨⟨bb, rfl⟩, hb⟩
          by_cases hix : 0 ≤ ix
          · have hd : decide (0 ≤ ix) = true := by simpa using hix
            rw [hd]
            go_wp2_with fail
            go_at_call 51
            refine (HPP.out.1 _ (hT.below hb)).mono ?_
            rintro e w3 ⟨⟨x, err, rfl, ⟨n, rfl, hn, rfl, rfl⟩ | ⟨rfl, ⟨y, rfl⟩, N, rfl⟩⟩, hb3⟩
            · by_cases hmax : n ≤ 1114111
              · go_wp2_with fail
                go_ret2
                refine ⟨?_, hb.trans (hb3.mono hb.size)⟩
                rw [HPP.out.2.2]
                show Ending.returned _ = Esc (if 0 ≤ ix ∧ n ≤ 1114111 then ((Utf8.encode n).data.toList, D.size + 3) else ([], 0))
                rw [if_pos ⟨hix, hmax⟩]
                unfold Esc
                simp
              · go_wp2_with fail
                go_ret2
                refine ⟨?_, hb.trans (hb3.mono hb.size)⟩
                rw [HPP.out.2.2]
                show Esc ([], 0) = Esc (if 0 ≤ ix ∧ n ≤ 1114111 then ((Utf8.encode n).data.toList, D.size + 3) else ([], 0))
                rw [if_neg (by omega)]
            · go_wp2_with fail
              go_ret2
              refine ⟨?_, hb.trans (hb3.mono hb.size)⟩
              rw [HPP.out.2.2]
              rfl
          · have hd : decide (0 ≤ ix) = false := by simpa using hix
            rw [hd]
            go_wp2_with fail
            go_at_call 51
            refine (HPP.out.1 _ (hT.below hb)).mono ?_
            rintro e w3 ⟨⟨x, err, rfl, ⟨n, rfl, hn, rfl, rfl⟩ | ⟨rfl, ⟨y, rfl⟩, N, rfl⟩⟩, hb3⟩
            · go_wp2_with fail
              go_ret2
              refine ⟨?_, hb.trans (hb3.mono hb.size)⟩
              rw [HPP.out.2.2]
              show Esc ([], 0) = Esc (if 0 ≤ ix ∧ n ≤ 1114111 then ((Utf8.encode n).data.toList, D.size + 3) else ([], 0))
              rw [if_neg (by omega)]
            · go_wp2_with fail
              go_ret2
              refine ⟨?_, hb.trans (hb3.mono hb.size)⟩
              rw [HPP.out.2.2]
              rfl
  · rw [if_pos rfl] at hRe
    subst hRe
    go_enter Tryd.func38, Tryd.ntmps38
    go_wp2_with fail
    go_at_call 43
    refine (HP.out.1 _).mono ?_
    rintro e w1 ⟨rfl, rfl⟩
    go_wp2_with fail
    go_ret2
    exact ⟨rfl, Below.refl _ _⟩

end Go.Proofs.YtlnafmibopkilaaDoor
