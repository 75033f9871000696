/- Names: the document's own unquoting: digits, a rune's bytes, and what each step reads back. -/
import Derived.Test.YtlnafmibopkilaaDoorWq
import Derived.Test.YtlnafmibopkilaaDoorUs
namespace Go.Proofs.YtlnafmibopkilaaDoor
open Go Go.Lib Go.RowKit

def digZ (b : Int) : Int := if 48 ≤ b ∧ b ≤ 57 then b - 48 else if 97 ≤ b ∧ b ≤ 102 then b - 87 else -1
theorem digZ_bd (b : Int) : -1 ≤ digZ b ∧ digZ b ≤ 15 := by unfold digZ; repeat' split
                                                            all_goals omega
set_option maxHeartbeats 1000000 in
theorem rdigit_any (b : Int) (w : World) (h0 : 0 ≤ b) (h1 : b ≤ 255) :
    Calls Tryd.prog 40 #[.int .u8 b] w fun e w' => e = .returned (.int .i64 (digZ b)) ∧ w' = w := by
  rcases (by omega : b < 48 ∨ (48 ≤ b ∧ b ≤ 57) ∨ (57 < b ∧ b < 97) ∨ (97 ≤ b ∧ b ≤ 102) ∨ 102 < b) with h | ⟨h, h'⟩ | ⟨h, h'⟩ | ⟨h, h'⟩ | h
  · have e : digZ b = -1 := by unfold digZ; rw [if_neg (by omega), if_neg (by omega)]
    rw [e]; clear e
    go_enter Tryd.func40, Tryd.ntmps40
    go_wp2
    go_ret
    exact ⟨rfl, rfl⟩
  · have e : digZ b = b - 48 := by unfold digZ; rw [if_pos (by omega)]
    rw [e]; clear e
    go_enter Tryd.func40, Tryd.ntmps40
    go_wp2
    go_ret
    exact ⟨rfl, rfl⟩
  · have e : digZ b = -1 := by unfold digZ; rw [if_neg (by omega), if_neg (by omega)]
    rw [e]; clear e
    go_enter Tryd.func40, Tryd.ntmps40
    go_wp2
    go_ret
    exact ⟨rfl, rfl⟩
  · have e : digZ b = b - 97 + 10 := by unfold digZ; rw [if_neg (by omega), if_pos (by omega)]; omega
    rw [e]; clear e
    go_enter Tryd.func40, Tryd.ntmps40
    go_wp2
    go_ret
    exact ⟨rfl, rfl⟩
  · have e : digZ b = -1 := by unfold digZ; rw [if_neg (by omega), if_neg (by omega)]
    rw [e]; clear e
    go_enter Tryd.func40, Tryd.ntmps40
    go_wp2
    go_ret
    exact ⟨rfl, rfl⟩

theorem cvbs (W : World) (t : TypeId) (xs : List Int) (vs : Array Value) (hv : vs.toList = xs.map fun x => .int .u8 x) (n : Nat) (hn : xs.length = n) :
    (convert 51 9 (.slice (some ⟨W.heap.size, 0, none⟩) n n)).run Tryd.prog (W.alloc (.cells vs t)) = .ok (.string (strOfNums xs)) (W.alloc (.cells vs t)) := by
  refine run_convert_bytes_arg (P := Tryd.prog) _ 51 5 Tryd.underlying51 Tryd.underlying5 W.heap.size 0 n n xs hn (fun i hi => ?_) 9 Tryd.underlying9
  rw [blk_cell (blk_new W _), ← Array.getElem?_toList, hv]
  have hi2 : i < xs.length := by omega
  simp [List.getElem?_eq_getElem hi2]

def EncL (z : Int) : List Int :=
  if z < 128 then [z] else if z < 2048 then [192 + z / 64, 128 + z % 64] else if z < 65536 then [224 + z / 4096, 128 + z / 64 % 64, 128 + z % 64]
  else [240 + z / 262144, 128 + z / 4096 % 64, 128 + z / 64 % 64, 128 + z % 64]
def EncZ (z : Int) : ByteArray := strOfNums (EncL z)
theorem EncZ_size (z : Int) : (EncZ z).size ≤ 4 := by
  unfold EncZ EncL strOfNums
  repeat' split
  all_goals simp [ByteArray.size]
theorem EncZ_ok (z : Int) (h0 : 0 ≤ z) (h : z < 55296 ∨ (57344 ≤ z ∧ z ≤ 1114111)) : EncZ z = ⟨(encodeRune z).toArray⟩ := by
  unfold EncZ EncL
  have key : ∀ xs : List Int, xs = encodeRuneZ z → strOfNums xs = ⟨(encodeRune z).toArray⟩ := by
    intro xs hx
    rw [hx]
    rfl
  rcases (by omega : z < 128 ∨ (128 ≤ z ∧ z < 2048) ∨ (2048 ≤ z ∧ z < 65536) ∨ (65536 ≤ z ∧ z ≤ 1114111)) with c | c | c | c
  · rw [if_pos (by omega)]
    exact key _ (by rw [encodeRuneZ_one (by omega) (by omega)])
  · rw [if_neg (by omega), if_pos (by omega)]
    exact key _ (by rw [encodeRuneZ_two (by omega) (by omega)])
  · rw [if_neg (by omega), if_neg (by omega), if_pos (by omega)]
    exact key _ (by rw [encodeRuneZ_three (by omega)])
  · rw [if_neg (by omega), if_neg (by omega), if_neg (by omega)]
    exact key _ (by rw [encodeRuneZ_four (by omega) (by omega)])
theorem cvb1 (W : World) (t : TypeId) (a0 : Int) : (convert 51 9 (.slice (some ⟨W.heap.size, 0, none⟩) 1 1)).run Tryd.prog (W.alloc (.cells #[.int .u8 a0] t)) = .ok (.string (strOfNums [a0])) (W.alloc (.cells #[.int .u8 a0] t)) :=
  cvbs W t [a0] #[.int .u8 a0] rfl 1 rfl
theorem cvb2 (W : World) (t : TypeId) (a0 a1 : Int) : (convert 51 9 (.slice (some ⟨W.heap.size, 0, none⟩) 2 2)).run Tryd.prog (W.alloc (.cells #[.int .u8 a0, .int .u8 a1] t)) = .ok (.string (strOfNums [a0, a1])) (W.alloc (.cells #[.int .u8 a0, .int .u8 a1] t)) :=
  cvbs W t [a0, a1] #[.int .u8 a0, .int .u8 a1] rfl 2 rfl
theorem cvb3 (W : World) (t : TypeId) (a0 a1 a2 : Int) : (convert 51 9 (.slice (some ⟨W.heap.size, 0, none⟩) 3 3)).run Tryd.prog (W.alloc (.cells #[.int .u8 a0, .int .u8 a1, .int .u8 a2] t)) = .ok (.string (strOfNums [a0, a1, a2])) (W.alloc (.cells #[.int .u8 a0, .int .u8 a1, .int .u8 a2] t)) :=
  cvbs W t [a0, a1, a2] #[.int .u8 a0, .int .u8 a1, .int .u8 a2] rfl 3 rfl
theorem cvb4 (W : World) (t : TypeId) (a0 a1 a2 a3 : Int) : (convert 51 9 (.slice (some ⟨W.heap.size, 0, none⟩) 4 4)).run Tryd.prog (W.alloc (.cells #[.int .u8 a0, .int .u8 a1, .int .u8 a2, .int .u8 a3] t)) = .ok (.string (strOfNums [a0, a1, a2, a3])) (W.alloc (.cells #[.int .u8 a0, .int .u8 a1, .int .u8 a2, .int .u8 a3] t)) :=
  cvbs W t [a0, a1, a2, a3] #[.int .u8 a0, .int .u8 a1, .int .u8 a2, .int .u8 a3] rfl 4 rfl
set_option maxRecDepth 100000 in
set_option maxHeartbeats 2000000 in
theorem rencode_any (z : Int) (w : World) (h0 : 0 ≤ z) (h1 : z ≤ 1114111) :
    Calls Tryd.prog 41 #[.int .i64 z] w fun e w' => e = .returned (.string (EncZ z)) ∧ Below w.heap.size w w' := by
  rcases (by omega : z < 128 ∨ (128 ≤ z ∧ z < 2048) ∨ (2048 ≤ z ∧ z < 65536) ∨ (65536 ≤ z ∧ z ≤ 1114111)) with c | ⟨c, c'⟩ | ⟨c, c'⟩ | ⟨c, c'⟩
  · have e : EncZ z = strOfNums [z] := by unfold EncZ EncL; rw [if_pos (by omega)]
    rw [e]; clear e
    have hcv := cvb1
    go_enter Tryd.func41, Tryd.ntmps41
    go_wp2
    go_ret
    exact ⟨rfl, (Below.refl _ _).alloc (Nat.le_refl _) _⟩
  · have e : EncZ z = strOfNums [192 + z / 64, 128 + z % 64] := by unfold EncZ EncL; rw [if_neg (by omega), if_pos (by omega)]
    rw [e]; clear e
    have hcv := cvb2
    go_enter Tryd.func41, Tryd.ntmps41
    go_wp2
    go_ret
    exact ⟨rfl, (Below.refl _ _).alloc (Nat.le_refl _) _⟩
  · have e : EncZ z = strOfNums [224 + z / 4096, 128 + z / 64 % 64, 128 + z % 64] := by unfold EncZ EncL; rw [if_neg (by omega), if_neg (by omega), if_pos (by omega)]
    rw [e]; clear e
    have hcv := cvb3
    go_enter Tryd.func41, Tryd.ntmps41
    go_wp2
    go_ret
    exact ⟨rfl, (Below.refl _ _).alloc (Nat.le_refl _) _⟩
  · have e : EncZ z = strOfNums [240 + z / 262144, 128 + z / 4096 % 64, 128 + z / 64 % 64, 128 + z % 64] := by unfold EncZ EncL; rw [if_neg (by omega), if_neg (by omega), if_neg (by omega)]
    rw [e]; clear e
    have hcv := cvb4
    go_enter Tryd.func41, Tryd.ntmps41
    go_wp2
    go_ret
    exact ⟨rfl, (Below.refl _ _).alloc (Nat.le_refl _) _⟩
end Go.Proofs.YtlnafmibopkilaaDoor
