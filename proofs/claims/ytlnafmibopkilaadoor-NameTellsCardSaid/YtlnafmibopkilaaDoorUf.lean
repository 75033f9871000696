/- Names: numbers written to the base sixteen. -/
import Derived.Test.YtlnafmibopkilaaDoorFr
import Derived.Test.YtlnafmibopkilaaDoorUm
import Derived.Test.YtlnafmibopkilaaDoorShelf
import Derived.Laws.BytesArg
namespace Go.Proofs.YtlnafmibopkilaaDoor
open Go Go.Lib Go.RowKit

/-- What the library's variables hold, as far as it is read here. -/
structure Tabs (w : World) : Prop where
  u8 : Lib.Utf8Tabs 0 1 w
  syn : ∃ te pe, w.cell? ⟨3, 0, none⟩ = some (.iface te pe)
  rng : ∃ te pe, w.cell? ⟨4, 0, none⟩ = some (.iface te pe)
  bru : w.cell? ⟨7, 15, none⟩ = some (.int .u8 4)
theorem Tabs.below {w w' : World} (h : Tabs w) (hb : Below w.heap.size w w') : Tabs w' := by
  refine ⟨Utf8Tabs_below h.u8 hb, ?_, ?_, ?_⟩
  · obtain ⟨te, pe, hc⟩ := h.syn
    exact ⟨te, pe, (hb.cell (World.block_lt_of_cell? w _ hc)).trans hc⟩
  · obtain ⟨te, pe, hc⟩ := h.rng
    exact ⟨te, pe, (hb.cell (World.block_lt_of_cell? w _ hc)).trans hc⟩
  · exact (hb.cell (World.block_lt_of_cell? w _ h.bru)).trans h.bru

theorem tz_any (w : World) (h : w.cell? ⟨7, 15, none⟩ = some (.int .u8 4)) : Calls Tryd.prog 67 #[.int .u64 16] w fun e w' => e = .returned (.int .i64 4) ∧ w' = w := by
  go_enter Tryd.func67, Tryd.ntmps67
  have hb : IntKind.u64.wrap (bits .and .u64 16 (IntKind.u64.wrap (-16)) * 285870213051353865) / 288230376151711744 = 15 := by kernel_rfl
  go_wp2
  go_ret
  exact ⟨rfl, rfl⟩

def hd (k : Nat) : UInt8 := if k < 10 then UInt8.ofNat (48 + k) else UInt8.ofNat (87 + k)
def hexA : Nat → Nat → List UInt8 → List UInt8
  | 0, n, acc => hd (n % 16) :: acc
  | f + 1, n, acc => if n < 16 then hd n :: acc else hexA f (n / 16) (hd (n % 16) :: acc)
/-- A number's digits to the base sixteen. -/
def hexs (n : Nat) : List UInt8 := hexA 15 n []

theorem pow2_any (w : World) : Calls Tryd.prog 66 #[.int .i64 16] w fun e w' => e = .returned (.bool true) ∧ w' = w := by
  go_enter Tryd.func66, Tryd.ntmps66
  go_wp2
  go_ret
  exact ⟨rfl, rfl⟩

theorem and15 (u : Nat) : bits .and .u64 u 15 = ((u % 16 : Nat) : Int) := by
  have h15 : (BitVec.ofInt 64 15).toNat = 2 ^ 4 - 1 := by decide
  have key : (BitVec.ofInt 64 (u : Int) &&& BitVec.ofInt 64 15).toNat = (u % 2 ^ 64) % 2 ^ 4 := by
    rw [BitVec.toNat_and, BitVec.toNat_ofInt, h15, Nat.and_two_pow_sub_one_eq_mod]
    congr 1
  show IntKind.u64.wrap ((BitVec.ofInt 64 (u : Int) &&& BitVec.ofInt 64 15).toNat : Nat) = _
  rw [key]
  simp [IntKind.wrap, IntKind.signed, IntKind.bits]
  omega
theorem digs (d : Nat) (h16 : d < 16) : ∀ h, (⟨#[48, 49, 50, 51, 52, 53, 54, 55, 56, 57, 97, 98, 99, 100, 101, 102, 103, 104, 105, 106, 107, 108, 109, 110, 111, 112, 113, 114, 115, 116, 117, 118, 119, 120, 121, 122]⟩ : ByteArray)[d]'h = hd d := by
  intro h
  exact (by decide : ∀ d : Fin 16, (⟨#[48, 49, 50, 51, 52, 53, 54, 55, 56, 57, 97, 98, 99, 100, 101, 102, 103, 104, 105, 106, 107, 108, 109, 110, 111, 112, 113, 114, 115, 116, 117, 118, 119, 120, 121, 122]⟩ : ByteArray)[d.1]'(Nat.lt_trans d.2 (by decide)) = hd d.1) ⟨d, h16⟩

theorem slice65 (g k : Nat) (hk : k ≤ 7) (W : World) : (Instr.sliceAt 91 (.pointer (some ⟨g, 0, none⟩)) (some (.int .i64 ((64 - k : Nat) : Int))) none none).run Tryd.prog W = .ok (.slice (some ⟨g, 64 - k, none⟩) (k + 1) (k + 1)) W := by
  have e1 : Tryd.prog.arrayLen 91 = 65 := by kernel_rfl
  have e2 : Tryd.prog.elem 91 = 5 := by kernel_rfl
  have ht : Tryd.prog.underlying 91 = some (.array (Tryd.prog.arrayLen 91) (Tryd.prog.elem 91)) := by rw [e1, e2]; exact Tryd.underlying91
  rw [run_sliceAt_array_l W 91 ⟨g, 0, none⟩ ht .i64 _ (by omega) (by rw [e1]; omega), e1, e2, Tryd.sizeOf5]
  show Result.ok (slicedAt _ _ _ _ _) W = _
  unfold slicedAt
  rw [if_neg (by omega), show 65 - ((64 - k : Nat) : Int).toNat = k + 1 by omega]
  simp [Addr.add]
  omega
theorem strOf (l : List UInt8) : strOfNums (l.map fun b => (b.toNat : Int)) = ⟨l.toArray⟩ := by simp [strOfNums, Function.comp_def]

set_option maxRecDepth 100000 in
set_option maxHeartbeats 2000000 in
theorem formatBits_any (n : Nat) (hn : n < 4294967296) (w : World) (hT : Tabs w) :
    Calls Tryd.prog 59 #[.slice none 0 0, .int .u64 n, .int .i64 16, .bool false, .bool false] w fun e w' => e = .returned (.tuple #[.slice none 0 0, .string ⟨(hexs n).toArray⟩]) ∧ Below w.heap.size w w' := by
  go_enter Tryd.func59, Tryd.ntmps59
  go_wp2_with fail
  go_at_call 66
  refine (pow2_any _).mono ?_
  rintro e w1 ⟨rfl, rfl⟩
  go_wp2_with fail
  go_at_call 67
  refine (tz_any _ (hT.below ((Below.refl _ w).alloc (Nat.le_refl _) _)).bru).mono ?_
  rintro e w1 ⟨rfl, rfl⟩
  go_wp2_with fail
  go_loopw [1, 13] (fun v i wr => ∃ (u k : Nat) (acc : List UInt8) (cs : Array Value), v = .int .u64 u ∧ i = .int .i64 ((65 - k : Nat) : Int) ∧ acc.length = k ∧ k ≤ 7 ∧ u < 16 ^ (8 - k) ∧ hexA (15 - k) u acc = hexs n ∧ wr.heap[w.heap.size]? = some (.cells cs 91 (0, 0)) ∧ cs.size = 65 ∧ (∀ j, j < k → cs[65 - k + j]? = some (.int .u8 (acc.getD j 0).toNat)) ∧ Below w.heap.size w wr) (fun v _ _ => (RowKit.intOf v).toNat)
  case atStart => exact ⟨n, 0, [], Tryd.zeroCells91, rfl, rfl, rfl, by omega, by omega, rfl, blk_new w _, rfl, by intro j hj; omega, (Below.refl _ w).alloc (Nat.le_refl _) _⟩
  case round =>
    obtain ⟨u, k, acc, cs, rfl, rfl, hal, hk, hu, hx, hblk, hcs, hcell, hbw⟩ := hrel
    have H := Lib.hid (And.intro hal (And.intro hu (And.intro hx (And.intro hcell hbw)))); clear hal hu hx hcell hbw
    have hc := blk_cell hblk
    have hf := blk_frozen hblk
    by_cases hge : 16 ≤ u
    · have hk6 : k ≤ 6 := by
        have := H.out.2.1
        rcases Nat.lt_or_ge k 7 with h | h
        · omega
        · have : k = 7 := by omega
          subst this
          omega
      have hand := and15 u
      have hcell2 : ∀ i, i < 65 → ∃ v, wr.cell? ⟨w.heap.size, i, none⟩ = some v := fun i hi => ⟨cs[i], by rw [hc, Array.getElem?_eq_getElem (by omega)]⟩
      obtain ⟨old, hold⟩ := hcell2 (64 - k) (by omega)
      have hidx : ((65 - k : Nat) : Int) - 1 = ((64 - k : Nat) : Int) := by omega
      have hfr := hf (64 - k)
      have hm : u % 16 < 16 := Nat.mod_lt _ (by decide)
      obtain ⟨d, hd1⟩ : ∃ d, d = u % 16 := ⟨_, rfl⟩
      rw [← hd1] at hand hm
      have hdig := digs d hm
      have HD := Lib.hid hd1; clear hd1
      clear hc hf hcell2
      go_wp2_with fail
      go_roundw
      case rel =>
        refine ⟨u / 16, k + 1, hd d :: acc, cs.setIfInBounds (64 - k) (.int .u8 (hd d).toNat), by simp, by rw [show 65 - (k + 1) = 64 - k by omega], by simp [H.out.1], by omega, ?_, ?_, blk_set hblk _ _, by simp [hcs], ?_, H.out.2.2.2.2.setCell (p := ⟨w.heap.size, 64 - k, none⟩) (Nat.le_refl _) _⟩
        · have h := H.out.2.1
          rw [show 8 - k = (8 - (k + 1)) + 1 by omega, Nat.pow_succ] at h
          exact Nat.div_lt_of_lt_mul (by omega)
        · have h := H.out.2.2.1
          rw [show 15 - k = (15 - (k + 1)) + 1 by omega, hexA, if_neg (by omega), ← HD.out] at h
          exact h
        · intro j hj
          rw [show 65 - (k + 1) + j = 64 - k + j by omega]
          rcases j with _ | j
          · rw [Nat.add_zero, Array.getElem?_setIfInBounds_self_of_lt (by omega)]
            simp
          · rw [Array.getElem?_setIfInBounds_ne (by omega), show 64 - k + (j + 1) = 65 - k + j by omega, H.out.2.2.2.1 j (by omega)]
            simp
      case measure => simp [RowKit.intOf]; omega
    · have hcell2 : ∀ i, i < 65 → ∃ v, wr.cell? ⟨w.heap.size, i, none⟩ = some v := fun i hi => ⟨cs[i], by rw [hc, Array.getElem?_eq_getElem (by omega)]⟩
      obtain ⟨old, hold⟩ := hcell2 (64 - k) (by omega)
      have hidx : ((65 - k : Nat) : Int) - 1 = ((64 - k : Nat) : Int) := by omega
      have hfr := hf (64 - k)
      have hm : u < 16 := by omega
      have hdig := digs u hm
      have hsl := slice65 w.heap.size k hk
      have hblk2 := blk_set hblk (64 - k) (.int .u8 (hd u).toNat)
      have hxs : (hd u :: acc).length = k + 1 := by simp [H.out.1]
      have hcv := run_convert_bytes_arg (P := Tryd.prog) (wr.setCell ⟨w.heap.size, 64 - k, none⟩ (.int .u8 (hd u).toNat)) 51 5 Tryd.underlying51 Tryd.underlying5 w.heap.size (64 - k) (k + 1) (k + 1) ((hd u :: acc).map fun b => (b.toNat : Int)) (by rw [List.length_map, hxs]) (by
        intro i hi
        rw [blk_cell hblk2]
        rcases i with _ | i
        · rw [Nat.add_zero, Array.getElem?_setIfInBounds_self_of_lt (by omega)]
          simp
        · rw [Array.getElem?_setIfInBounds_ne (by omega), show 64 - k + (i + 1) = 65 - k + i by omega, H.out.2.2.2.1 i (by omega)]
          have := H.out.1
          simp [List.getD_eq_getElem?_getD, List.getElem?_map]
          rw [List.getElem?_eq_getElem (by omega)]
          simp) 9 Tryd.underlying9
      have hs : strOfNums ((hd u :: acc).map fun b => (b.toNat : Int)) = ⟨(hexs n).toArray⟩ := by
        have h := H.out.2.2.1
        rw [show 15 - k = (15 - (k + 1)) + 1 by omega, hexA, if_pos hm] at h
        rw [← h, strOf]
      rw [hs] at hcv
      have hb2 := H.out.2.2.2.2.setCell (p := ⟨w.heap.size, 64 - k, none⟩) (Nat.le_refl _) (.int .u8 (hd u).toNat)
      have HB := Lib.hid hb2; clear hb2
      clear hblk2 hxs hs
      clear hc hf hcell2
      go_wp2_with fail
      go_ret2
      exact ⟨rfl, HB.out⟩

theorem formatInt_any (n : Nat) (hn : n < 4294967296) (w : World) (hT : Tabs w) :
    Calls Tryd.prog 36 #[.int .i64 n, .int .i64 16] w fun e w' => e = .returned (.string ⟨(hexs n).toArray⟩) ∧ Below w.heap.size w w' := by
  have h0 := formatBits_any n hn w hT
  generalize (hexs n).toArray = X at *
  have h1 : Calls Tryd.prog 50 #[.int .i64 n, .int .i64 16] w fun e w' => e = .returned (.string ⟨X⟩) ∧ Below w.heap.size w w' := by
    go_enter Tryd.func50, Tryd.ntmps50
    go_wp2_with fail
    go_at_call 59
    refine h0.mono ?_
    rintro e w1 ⟨rfl, hb⟩
    go_wp2_with fail
    go_ret
    exact ⟨rfl, hb⟩
  go_enter Tryd.func36, Tryd.ntmps36
  go_wp2_with fail
  go_at_call 50
  refine h1.mono ?_
  rintro e w1 ⟨rfl, hb⟩
  go_wp2_with fail
  go_ret
  exact ⟨rfl, hb⟩

end Go.Proofs.YtlnafmibopkilaaDoor
