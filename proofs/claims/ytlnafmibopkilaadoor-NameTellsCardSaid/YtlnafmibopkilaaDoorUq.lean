/- Names: Quote, by a walk. -/
import Derived.Test.YtlnafmibopkilaaDoorUf
import Derived.Test.YtlnafmibopkilaaDoorUw
import Derived.Test.YtlnafmibopkilaaDoorUb
namespace Go.Proofs.YtlnafmibopkilaaDoor
open Go Go.Lib Go.RowKit

def quoteStep (l : List UInt8) : List UInt8 :=
  if badP l = true then [92, 120, hd ((l.headD 0).toNat / 16), hd ((l.headD 0).toNat % 16)]
  else if (decodeL l).1 = 92 then [92, 92]
  else if (32 ≤ (decodeL l).1 ∧ (decodeL l).1 ≤ 126) ∨ (161 ≤ (decodeL l).1 ∧ (decodeL l).1 ≤ 591) then encodeRune (decodeL l).1
  else [92, 117] ++ hexs (decodeL l).1 ++ [46]
def quoteF : Nat → List UInt8 → List UInt8
  | 0, _ => []
  | n + 1, l => if l = [] then [] else quoteStep l ++ quoteF n (l.drop (decodeL l).2)
theorem quoteF_nil : ∀ n, quoteF n [] = []
  | 0 => rfl
  | _ + 1 => by simp [quoteF]
theorem quoteF_fuel : ∀ (n m : Nat) (l : List UInt8), l.length ≤ n → l.length ≤ m → quoteF n l = quoteF m l
  | 0, m, l, hn, _ => by
    have : l = [] := List.eq_nil_of_length_eq_zero (by omega)
    subst this
    rw [quoteF_nil, quoteF_nil]
  | n + 1, 0, l, _, hm => by
    have : l = [] := List.eq_nil_of_length_eq_zero (by omega)
    subst this
    rw [quoteF_nil, quoteF_nil]
  | n + 1, m + 1, l, hn, hm => by
    by_cases hne : l = []
    · subst hne
      rw [quoteF_nil, quoteF_nil]
    · have hw := dw_pos l hne
      have hl : 0 < l.length := List.length_pos_iff.2 hne
      simp only [quoteF, if_neg hne]
      rw [quoteF_fuel n m _ (by rw [List.length_drop]; omega) (by rw [List.length_drop]; omega)]
/-- A text, quoted. -/
def quoteP (l : List UInt8) : List UInt8 := quoteF l.length l
theorem quoteP_nil : quoteP [] = [] := rfl
theorem quoteP_cons (l : List UInt8) (hne : l ≠ []) : quoteP l = quoteStep l ++ quoteP (l.drop (decodeL l).2) := by
  have hw := dw_pos l hne
  have hl : 0 < l.length := List.length_pos_iff.2 hne
  unfold quoteP
  obtain ⟨n, hn⟩ : ∃ n, l.length = n + 1 := ⟨l.length - 1, by omega⟩
  rw [hn]
  simp only [quoteF, if_neg hne]
  rw [quoteF_fuel n _ _ (by rw [List.length_drop]; omega) (Nat.le_refl _)]
theorem quoteP_at (s : ByteArray) (p : Nat) (h : p < s.size) : quoteP (tl s p) = quoteStep (tl s p) ++ quoteP (tl s (p + (Utf8.decode s p).2)) := by
  rw [quoteP_cons _ (tl_ne s p h), tl_dec, tl_add]
theorem dec_le (l : List UInt8) : (decodeL l).1 ≤ 1114111 := by
  rw [decodeL_N]
  have k0 := (l.getD 0 0).toNat_lt
  have k1 := (l.getD 1 0).toNat_lt
  have k2 := (l.getD 2 0).toNat_lt
  have k3 := (l.getD 3 0).toNat_lt
  rcases decodeN_shape l.length (l.getD 0 0).toNat (l.getD 1 0).toNat (l.getD 2 0).toNat (l.getD 3 0).toNat with ⟨c, e⟩ | ⟨c1, c2, c3, cv, e⟩ | ⟨c1, c2, c3, c4, cv, cs, e⟩ | ⟨c1, c2, c3, c4, c5, cv, cw, e⟩ | e
  all_goals (rw [e]; dsimp only; omega)
theorem hexA_len : ∀ (f n : Nat) (acc : List UInt8), n < 16 ^ (8 - acc.length) → acc.length ≤ 7 → (hexA f n acc).length ≤ 8
  | 0, n, acc, _, h => by simp [hexA]; omega
  | f + 1, n, acc, hn, h => by
    unfold hexA
    by_cases h16 : n < 16
    · rw [if_pos h16]; simp; omega
    · rw [if_neg h16]
      have h7 : acc.length ≤ 6 := by
        rcases Nat.lt_or_ge acc.length 7 with h2 | h2
        · omega
        · rw [show 8 - acc.length = 1 by omega] at hn; omega
      refine hexA_len f _ _ ?_ (by simp; omega)
      rw [List.length_cons]
      rw [show 8 - acc.length = (8 - (acc.length + 1)) + 1 by omega, Nat.pow_succ] at hn
      exact Nat.div_lt_of_lt_mul (by omega)
theorem hexs_len (n : Nat) (hn : n < 4294967296) : (hexs n).length ≤ 8 := hexA_len 15 n [] (by simpa using hn) (by simp)

theorem tl_head (s : ByteArray) (p : Nat) (h : p < s.size) : (tl s p).headD 0 = s[p]'h := by
  unfold tl
  have h2 : p < s.data.toList.length := by simpa using h
  rw [List.drop_eq_getElem_cons h2]
  rfl

theorem quoteStep_at (s : ByteArray) (p : Nat) (h : p < s.size) : quoteStep (tl s p) = if badP (tl s p) = true then [92, 120, hd ((s[p]'h).toNat / 16), hd ((s[p]'h).toNat % 16)]
    else if (Utf8.decode s p).1 = 92 then [92, 92]
    else if (32 ≤ (Utf8.decode s p).1 ∧ (Utf8.decode s p).1 ≤ 126) ∨ (161 ≤ (Utf8.decode s p).1 ∧ (Utf8.decode s p).1 ≤ 591) then encodeRune (Utf8.decode s p).1
    else [92, 117] ++ hexs (Utf8.decode s p).1 ++ [46] := by
  unfold quoteStep
  rw [tl_dec, tl_head s p h]
theorem enc_len (r : Nat) : (encodeRune r).length ≤ 4 := by
  have := Lib.runeCells_le r
  rw [Lib.runeCells_length] at this
  exact this.2

theorem kept_at {T e : TypeId} {B b : Nat} {p : Value} {bs : List Value} {u v : World} (h : BuilderAtF T e B b p bs u) (hb : Below u.heap.size u v) : BuilderAtF T e B b p bs v := by
  have hlt := h.lt
  obtain ⟨hB, x, hx, hown, hne⟩ := h
  refine ⟨hB, x, (hb.block b hlt).trans hx, ?_, hne⟩
  exact hown.kept (row := none) ⟨hb.os, hb.tape, hb.output, hb.size, fun k hk _ => hb.block k hk⟩ (Classical.em _)
theorem kept {T e : TypeId} {B b : Nat} {bs : List Value} {u v : World} (h : IsBuilderF T e B b bs u) (hb : Below u.heap.size u v) : IsBuilderF T e B b bs v := by
  rcases h with h | h
  · exact .inl (kept_at h hb)
  · exact .inr (kept_at h hb)
theorem cat3 (a b c : List UInt8) : ((⟨a.toArray⟩ ++ ⟨b.toArray⟩ ++ ⟨c.toArray⟩ : ByteArray)) = ⟨(a ++ b ++ c).toArray⟩ := by
  apply ByteArray.ext
  simp

def HEXES : ByteArray := ⟨#[48, 49, 50, 51, 52, 53, 54, 55, 56, 57, 97, 98, 99, 100, 101, 102]⟩
theorem hexes_at (d : Nat) (h16 : d < 16) : ∀ h, (⟨#[48, 49, 50, 51, 52, 53, 54, 55, 56, 57, 97, 98, 99, 100, 101, 102]⟩ : ByteArray)[d]'h = hd d := by
  intro h
  exact (by decide : ∀ d : Fin 16, (⟨#[48, 49, 50, 51, 52, 53, 54, 55, 56, 57, 97, 98, 99, 100, 101, 102]⟩ : ByteArray)[d.1]'(Nat.lt_of_lt_of_le d.2 (by decide)) = hd d.1) ⟨d, h16⟩

theorem lit_cells (l : List UInt8) : strCells ⟨l.toArray⟩ = byteCells l := rfl

set_option maxRecDepth 1000000 in
set_option maxHeartbeats 4000000 in
theorem quote_any (s : ByteArray) (w : World) (hs : s.size ≤ 8796093022208) (hT : Tabs w) :
    Calls Tryd.prog 21 #[.string s] w fun e w' => e = .returned (.string ⟨(quoteP s.data.toList).toArray⟩) ∧ Below w.heap.size w w' := by
  go_enter Tryd.func21, Tryd.ntmps21
  go_wp2_with fail
  go_loopw [] (fun wr => ∃ (pos : Nat) (acc : List UInt8), Lib.IsBuilderF 53 5 w.heap.size w.heap.size (Lib.byteCells acc) wr ∧ wr.heap[w.heap.size + 1]? = some (.stringIter s pos) ∧ Below w.heap.size w wr ∧ acc ++ quoteP (tl s pos) = quoteP s.data.toList ∧ acc.length ≤ 11 * pos) (fun wr => s.size - wr.iterPos (w.heap.size + 1))
  case atStart =>
    refine ⟨0, [], (Lib.IsBuilderF.of (Lib.fresh_isBuilder 53 5 w)).alloc _, ?_, ((Below.refl _ w).alloc (Nat.le_refl _) _).alloc (by simp) _, rfl, by simp⟩
    have := World.iter_heap (w.alloc (.cells #[.pointer none, .slice none 0 0] 53)) s 0
    simpa using this
  case round =>
    obtain ⟨pos, acc, hI, hit, hbw, hacc, hal⟩ := hrel
    have hsz : w.heap.size + 1 < wr.heap.size := (Array.getElem?_eq_some_iff.1 hit).1
    have HA := Lib.hid hacc; clear hacc
    by_cases hp : pos < s.size
    · have hnx : ∀ ty, (Instr.next (.pointer (some ⟨w.heap.size + 1, 0, none⟩)) true ty).run Tryd.prog wr = _ := fun ty => Lib.run_next_any_at wr (w.heap.size + 1) s pos ty hit hp
      have hwd := decode_width_pos s pos hp
      have hI2 := hI.iterAt hit (pos + (Utf8.decode s pos).2)
      have hit2 := Lib.iterAt_heap wr (w.heap.size + 1) s pos (pos + (Utf8.decode s pos).2) hit
      have hbw2 := Lib.below_iterAt hbw (k := w.heap.size + 1) (by omega) s (pos + (Utf8.decode s pos).2)
      have hsz2 : w.heap.size ≤ (wr.iterAt (w.heap.size + 1) s (pos + (Utf8.decode s pos).2)).heap.size := by rw [Lib.iterAt_size]; omega
      have hbr := broken_bad (tl s pos) (tl_ne s pos hp)
      have hq := quoteP_at s pos hp
      have hdl := dec_le (tl s pos)
      have hst := quoteStep_at s pos hp
      rw [tl_dec] at hbr hdl
      have HQ := Lib.hid (And.intro hq hst); clear hq hst
      generalize wr.iterAt (w.heap.size + 1) s (pos + (Utf8.decode s pos).2) = W at *
      generalize (Utf8.decode s pos).1 = r at *
      generalize (Utf8.decode s pos).2 = wd at *
      have HIT := Lib.hid hit; clear hit
      have HI2 := Lib.hid hI2; clear hI2 hI
      go_wp2_with fail
      go_at_call 27
      refine (broken_any s pos r _ (by omega) (by omega)).mono ?_
      rw [hbr]
      rintro e w1 ⟨rfl, rfl⟩
      by_cases hb : badP (tl s pos) = true
      · rw [hb]
        have hst := HQ.out.2
        rw [if_pos hb] at hst
        have HST := Lib.hid hst; clear hst
        go_wp2_with fail
        go_at_call 33
        refine (writeString_any w.heap.size w.heap.size _ ⟨#[92, 120]⟩ _ HI2.out (by rw [Lib.byteCells_length]; show acc.length + 2 ≤ _; omega) hsz2).mono ?_
        rintro e W1 ⟨rfl, h1, b1, k1⟩
        have hlt := (s[pos]'hp).toNat_lt
        have hq1 : (((s[pos]'hp).toNat : Int) / 16 % 256) < 16 := by omega
        have hq2 : (s[pos]'hp).toNat / 16 % 256 = (s[pos]'hp).toNat / 16 := by omega
        have hdig1 := hexes_at ((s[pos]'hp).toNat / 16) (by omega)
        have hdig2 := hexes_at ((s[pos]'hp).toNat % 16) (by omega)
        go_wp2_with fail
        go_at_call 34
        refine (writeByte_any w.heap.size w.heap.size _ _ _ h1 (by rw [List.length_append, Lib.byteCells_length]; show acc.length + 2 + 1 ≤ _; omega) (by have := b1.size; omega)).mono ?_
        rintro e W2 ⟨rfl, h2, b2, k2⟩
        go_wp2_with fail
        go_at_call 34
        refine (writeByte_any w.heap.size w.heap.size _ _ _ h2 (by rw [List.length_append, List.length_append, Lib.byteCells_length]; show acc.length + 2 + 1 + 1 ≤ _; omega) (by have := b1.size; have := b2.size; omega)).mono ?_
        rintro e W3 ⟨rfl, h3, b3, k3⟩
        go_wp2_with fail
        go_roundw
        case rel =>
          refine ⟨pos + wd, acc ++ [92, 120, hd ((s[pos]'hp).toNat / 16), hd ((s[pos]'hp).toNat % 16)], by simpa [byteCells, strCells] using h3, ((k1.trans k2).trans k3).iter hit2 (by omega), ((hbw2.trans b1).trans b2).trans b3, ?_, by simp; omega⟩
          rw [← HA.out, HQ.out.1, HST.out, List.append_assoc]
        case measure =>
          simp only [World.iterPos, ((k1.trans k2).trans k3).iter hit2 (by omega), HIT.out]
          omega
      · have hbf : badP (tl s pos) = false := by simpa using hb
        have hst := HQ.out.2
        rw [if_neg hb] at hst
        rw [hbf]
        by_cases h92 : r = 92
        · subst h92
          rw [if_pos rfl] at hst
          have HST := Lib.hid hst; clear hst
          go_wp2_with fail
          go_at_call 33
          refine (writeString_any w.heap.size w.heap.size _ ⟨#[92, 92]⟩ _ HI2.out (by rw [Lib.byteCells_length]; show acc.length + 2 ≤ _; omega) hsz2).mono ?_
          rintro e W1 ⟨rfl, h1, b1, k1⟩
          go_wp2_with fail
          go_roundw
          case rel =>
            refine ⟨pos + wd, acc ++ [92, 92], by rw [Lib.byteCells_append]; exact h1, k1.iter hit2 (by omega), hbw2.trans b1, ?_, by simp; omega⟩
            rw [← HA.out, HQ.out.1, HST.out, List.append_assoc]
          case measure =>
            simp only [World.iterPos, k1.iter hit2 (by omega), HIT.out]
            omega
        · have h92f : ((r : Int) == 92) = false := by simp; omega
          rw [if_neg h92] at hst
          rcases (by omega : (r : Int) < 32 ∨ ((32 : Int) ≤ r ∧ (r : Int) ≤ 126) ∨ ((126 : Int) < r ∧ (r : Int) < 161) ∨ ((161 : Int) ≤ r ∧ (r : Int) ≤ 591) ∨ (591 : Int) < r) with g1 | ⟨g1, g2⟩ | ⟨g1, g2⟩ | ⟨g1, g2⟩ | g1
          · have g3 : (r : Int) < 161 := by omega
            rw [if_neg (by omega)] at hst
            have HST := Lib.hid hst; clear hst
            go_wp2_with fail
            go_at_call 36
            refine (formatInt_any r (by omega) _ (hT.below hbw2)).mono ?_
            rintro e W0 ⟨rfl, hb0⟩
            have hlen := hexs_len r (by omega)
            have HL := Lib.hid hlen
            obtain ⟨X, hX⟩ : ∃ X, X = hexs r := ⟨_, rfl⟩
            rw [← hX] at hlen HST ⊢
            clear hX
            obtain ⟨Y, hY⟩ : ∃ Y, Y = [92, 117] ++ X ++ [46] := ⟨_, rfl⟩
            have hcat : (⟨#[92, 117]⟩ ++ ⟨X.toArray⟩ ++ ⟨#[46]⟩ : ByteArray) = ⟨Y.toArray⟩ := by rw [hY]; exact cat3 [92, 117] X [46]
            have hyl : Y.length ≤ 11 := by rw [hY]; simp; omega
            have hst3 := HST.out
            rw [← hY] at hst3
            have HST := Lib.hid hst3; clear hst3 hY
            have hI3 := kept HI2.out hb0
            have hit3 := (hb0.block _ (Array.getElem?_eq_some_iff.1 hit2).1).trans hit2
            have HI3 := Lib.hid (And.intro hI3 (And.intro hit3 (Nat.le_trans hsz2 hb0.size))); clear hI3 hit3
            have hbb := hbw2.trans (hb0.mono hsz2)
            have HBB := Lib.hid hbb; clear hbb
            go_wp2_with fail
            go_at_call 33
            refine (writeString_any w.heap.size w.heap.size _ ⟨Y.toArray⟩ _ HI3.out.1 (by rw [Lib.byteCells_length]; show acc.length + Y.length ≤ _; omega) HI3.out.2.2).mono ?_
            rintro e W1 ⟨rfl, h1, b1, k1⟩
            go_wp2_with fail
            go_roundw
            case rel =>
              refine ⟨pos + wd, acc ++ Y, by rw [Lib.byteCells_append]; exact h1, k1.iter HI3.out.2.1 (by omega), HBB.out.trans b1, ?_, by simp; omega⟩
              rw [← HA.out, HQ.out.1, HST.out, List.append_assoc]
            case measure =>
              simp only [World.iterPos, k1.iter HI3.out.2.1 (by omega), HIT.out]
              omega
          · rw [if_pos (by omega)] at hst
            have HST := Lib.hid hst; clear hst
            go_wp2_with fail
            go_at_call 35
            refine (writeRune_any w.heap.size w.heap.size _ _ (by omega) (by omega) _ HI2.out (by rw [Lib.byteCells_length]; omega) hsz2).mono ?_
            rintro e W1 ⟨rfl, h1, b1, k1⟩
            go_wp2_with fail
            go_roundw
            case rel =>
              refine ⟨pos + wd, acc ++ encodeRune r, by rw [Lib.byteCells_append]; rw [Lib.byteCells_encodeRune]; exact h1, k1.iter hit2 (by omega), hbw2.trans b1, ?_, by have := enc_len r; simp; omega⟩
              rw [← HA.out, HQ.out.1, HST.out, List.append_assoc]
            case measure =>
              simp only [World.iterPos, k1.iter hit2 (by omega), HIT.out]
              omega
          · have g3 : (32 : Int) ≤ r := by omega
            rw [if_neg (by omega)] at hst
            have HST := Lib.hid hst; clear hst
            go_wp2_with fail
            go_at_call 36
            refine (formatInt_any r (by omega) _ (hT.below hbw2)).mono ?_
            rintro e W0 ⟨rfl, hb0⟩
            have hlen := hexs_len r (by omega)
            have HL := Lib.hid hlen
            obtain ⟨X, hX⟩ : ∃ X, X = hexs r := ⟨_, rfl⟩
            rw [← hX] at hlen HST ⊢
            clear hX
            obtain ⟨Y, hY⟩ : ∃ Y, Y = [92, 117] ++ X ++ [46] := ⟨_, rfl⟩
            have hcat : (⟨#[92, 117]⟩ ++ ⟨X.toArray⟩ ++ ⟨#[46]⟩ : ByteArray) = ⟨Y.toArray⟩ := by rw [hY]; exact cat3 [92, 117] X [46]
            have hyl : Y.length ≤ 11 := by rw [hY]; simp; omega
            have hst3 := HST.out
            rw [← hY] at hst3
            have HST := Lib.hid hst3; clear hst3 hY
            have hI3 := kept HI2.out hb0
            have hit3 := (hb0.block _ (Array.getElem?_eq_some_iff.1 hit2).1).trans hit2
            have HI3 := Lib.hid (And.intro hI3 (And.intro hit3 (Nat.le_trans hsz2 hb0.size))); clear hI3 hit3
            have hbb := hbw2.trans (hb0.mono hsz2)
            have HBB := Lib.hid hbb; clear hbb
            go_wp2_with fail
            go_at_call 33
            refine (writeString_any w.heap.size w.heap.size _ ⟨Y.toArray⟩ _ HI3.out.1 (by rw [Lib.byteCells_length]; show acc.length + Y.length ≤ _; omega) HI3.out.2.2).mono ?_
            rintro e W1 ⟨rfl, h1, b1, k1⟩
            go_wp2_with fail
            go_roundw
            case rel =>
              refine ⟨pos + wd, acc ++ Y, by rw [Lib.byteCells_append]; exact h1, k1.iter HI3.out.2.1 (by omega), HBB.out.trans b1, ?_, by simp; omega⟩
              rw [← HA.out, HQ.out.1, HST.out, List.append_assoc]
            case measure =>
              simp only [World.iterPos, k1.iter HI3.out.2.1 (by omega), HIT.out]
              omega
          · have g3 : (32 : Int) ≤ r := by omega
            have g4 : (126 : Int) < r := by omega
            rw [if_pos (by omega)] at hst
            have HST := Lib.hid hst; clear hst
            go_wp2_with fail
            go_at_call 35
            refine (writeRune_any w.heap.size w.heap.size _ _ (by omega) (by omega) _ HI2.out (by rw [Lib.byteCells_length]; omega) hsz2).mono ?_
            rintro e W1 ⟨rfl, h1, b1, k1⟩
            go_wp2_with fail
            go_roundw
            case rel =>
              refine ⟨pos + wd, acc ++ encodeRune r, by rw [Lib.byteCells_append]; rw [Lib.byteCells_encodeRune]; exact h1, k1.iter hit2 (by omega), hbw2.trans b1, ?_, by have := enc_len r; simp; omega⟩
              rw [← HA.out, HQ.out.1, HST.out, List.append_assoc]
            case measure =>
              simp only [World.iterPos, k1.iter hit2 (by omega), HIT.out]
              omega
          · have g3 : (32 : Int) ≤ r := by omega
            have g4 : (126 : Int) < r := by omega
            have g5 : (161 : Int) ≤ r := by omega
            rw [if_neg (by omega)] at hst
            have HST := Lib.hid hst; clear hst
            go_wp2_with fail
            go_at_call 36
            refine (formatInt_any r (by omega) _ (hT.below hbw2)).mono ?_
            rintro e W0 ⟨rfl, hb0⟩
            have hlen := hexs_len r (by omega)
            have HL := Lib.hid hlen
            obtain ⟨X, hX⟩ : ∃ X, X = hexs r := ⟨_, rfl⟩
            rw [← hX] at hlen HST ⊢
            clear hX
            obtain ⟨Y, hY⟩ : ∃ Y, Y = [92, 117] ++ X ++ [46] := ⟨_, rfl⟩
            have hcat : (⟨#[92, 117]⟩ ++ ⟨X.toArray⟩ ++ ⟨#[46]⟩ : ByteArray) = ⟨Y.toArray⟩ := by rw [hY]; exact cat3 [92, 117] X [46]
            have hyl : Y.length ≤ 11 := by rw [hY]; simp; omega
            have hst3 := HST.out
            rw [← hY] at hst3
            have HST := Lib.hid hst3; clear hst3 hY
            have hI3 := kept HI2.out hb0
            have hit3 := (hb0.block _ (Array.getElem?_eq_some_iff.1 hit2).1).trans hit2
            have HI3 := Lib.hid (And.intro hI3 (And.intro hit3 (Nat.le_trans hsz2 hb0.size))); clear hI3 hit3
            have hbb := hbw2.trans (hb0.mono hsz2)
            have HBB := Lib.hid hbb; clear hbb
            go_wp2_with fail
            go_at_call 33
            refine (writeString_any w.heap.size w.heap.size _ ⟨Y.toArray⟩ _ HI3.out.1 (by rw [Lib.byteCells_length]; show acc.length + Y.length ≤ _; omega) HI3.out.2.2).mono ?_
            rintro e W1 ⟨rfl, h1, b1, k1⟩
            go_wp2_with fail
            go_roundw
            case rel =>
              refine ⟨pos + wd, acc ++ Y, by rw [Lib.byteCells_append]; exact h1, k1.iter HI3.out.2.1 (by omega), HBB.out.trans b1, ?_, by simp; omega⟩
              rw [← HA.out, HQ.out.1, HST.out, List.append_assoc]
            case measure =>
              simp only [World.iterPos, k1.iter HI3.out.2.1 (by omega), HIT.out]
              omega
    · have hnx : ∀ ty, (Instr.next (.pointer (some ⟨w.heap.size + 1, 0, none⟩)) true ty).run Tryd.prog wr = _ := fun ty => Lib.run_next_end_at wr (w.heap.size + 1) s pos ty hit hp
      have hq : quoteP s.data.toList = acc := by
        have h := HA.out
        rw [tl_end s pos hp, quoteP_nil, List.append_nil] at h
        exact h.symm
      have HQ := Lib.hid hq; clear hq
      go_wp2_with fail
      go_at_call 37
      refine (Tryd.Builder_String_any_k w.heap.size w.heap.size acc _ hI (by omega)).mono ?_
      rintro e w1 ⟨rfl, _, b1, _⟩
      go_wp2_with fail
      go_ret
      exact ⟨congrArg (fun l : List UInt8 => Ending.returned (Value.string ⟨l.toArray⟩)) HQ.out.symm, hbw.trans b1⟩

end Go.Proofs.YtlnafmibopkilaaDoor
