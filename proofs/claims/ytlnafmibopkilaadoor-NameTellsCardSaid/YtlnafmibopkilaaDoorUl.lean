/- Names: what the listed variables hold, and a world that holds it. -/
import Derived.Test.YtlnafmibopkilaaDoorRows
import Derived.Test.YtlnafmibopkilaaDoorUf
import Derived.Stop.LaidErr
import Derived.Lib.LaidIn
import Derived.Lib.LaidU8
import Derived.Lib.LaidTab
import Derived.MakeChecks
import Derived.ChangeVars
import Derived.Stop.Joined
import Derived.ProofKit
namespace Go.Proofs.YtlnafmibopkilaaDoor
open Go Go.Lib Go.RowKit

theorem ownK : ownKnob Tryd.prog.godebug = none := by kernel_rfl
theorem starE : "*" ++ "errors.errorString" = "*errors.errorString" := by decide
theorem rowE (u : TypeId) (h : Tryd.prog.typeName? 3 u = some "*errors.errorString") : u = 105 :=
  typeName_ptr_named (nm := "errors.errorString") (by rw [starE]; kernel_rfl) (by kernel_rfl) (by decide) u (by rw [starE]; exact h)
/-- The rows' listed variables. -/
abbrev LD : List (String × DataW Unit) := [("math/bits.deBruijn32tab", Rows.laid_math_bits_deBruijn32tab), ("math/bits.deBruijn64tab", Rows.laid_math_bits_deBruijn64tab), ("internal/strconv.uint64pow10", Rows.laid_internal_strconv_uint64pow10), ("unicode/utf8.acceptRanges", Rows.laid_unicode_utf8_acceptRanges), ("strconv.ErrRange", Rows.laid_strconv_ErrRange), ("strconv.ErrSyntax", Rows.laid_strconv_ErrSyntax), ("unicode/utf8.first", Rows.laid_unicode_utf8_first)]
def br64 : List Int := [0, 1, 56, 2, 57, 49, 28, 3, 61, 58, 42, 50, 38, 29, 17, 4, 62, 47, 59, 36, 45, 43, 51, 22, 53, 39, 33, 30, 24, 18, 12, 5, 63, 55, 48, 27, 60, 41, 37, 16, 46, 35, 44, 21, 52, 32, 23, 11, 54, 26, 40, 15, 34, 20, 31, 10, 25, 14, 19, 9, 13, 8, 7, 6]
theorem br64_eq : (Rows.laid_math_bits_deBruijn64tab : DataW Unit) = tabData .u8 br64 := by kernel_rfl
theorem first_eq : (Rows.laid_unicode_utf8_first : DataW Unit) = firstData := by kernel_rfl
theorem accept_eq : (Rows.laid_unicode_utf8_acceptRanges : DataW Unit) = acceptData := by kernel_rfl

theorem tabs_of {W : World} (h : laidMet Tryd.prog LD W) : Tabs W := by
  have h2 := h.tail
  have h4 := h2.tail.tail.tail
  obtain ⟨a0, t0, hv0, _, _, _⟩ := laid_sentinel (g := 4) h4 (by kernel_rfl) (by kernel_rfl) Tryd.underlying55 rowE Tryd.underlying105 Tryd.underlying107 rfl rfl Tryd.underlying9 (by kernel_rfl) (by kernel_rfl)
  obtain ⟨a1, t1, hv1, _, _, _⟩ := laid_sentinel (g := 3) h4.tail (by kernel_rfl) (by kernel_rfl) Tryd.underlying55 rowE Tryd.underlying105 Tryd.underlying107 rfl rfl Tryd.underlying9 (by kernel_rfl) (by kernel_rfl)
  have hb : TabIs Tryd.prog W "math/bits.deBruijn64tab" .u8 br64 := by
    rw [br64_eq] at h2
    exact tabIs_of_head (g := 7) (t := 104) (e := 5) (n := 64) (by kernel_rfl) (by kernel_rfl) Tryd.underlying104 Tryd.underlying5 (by kernel_rfl) (by kernel_rfl) h2
  refine ⟨?_, ?_, ?_, ?_⟩
  · exact utf8Tabs_of_reads (ρ := Tryd.lays260_ren) Tryd.lays260 ⟨by kernel_rfl, by kernel_rfl, by kernel_rfl, by kernel_rfl, by kernel_rfl, by kernel_rfl, by kernel_rfl⟩ (first_eq ▸ Lib.laidMet.reads h (.tail _ (.tail _ (.tail _ (.tail _ (.tail _ (.tail _ (.head _)))))))) (accept_eq ▸ Lib.laidMet.reads h (.tail _ (.tail _ (.tail _ (.head _)))))
  · exact ⟨_, _, by simpa using World.var?_cell (by kernel_rfl : Tryd.prog.globalNamed "strconv.ErrSyntax" = some 3) hv1 0⟩
  · exact ⟨_, _, by simpa using World.var?_cell (by kernel_rfl : Tryd.prog.globalNamed "strconv.ErrRange" = some 4) hv0 0⟩
  · exact hb.cell (by kernel_rfl) 15 (by decide)

def br32 : List Int := [0, 1, 28, 2, 29, 14, 24, 3, 30, 22, 20, 15, 25, 17, 4, 8, 31, 27, 13, 23, 21, 19, 16, 7, 26, 12, 18, 6, 11, 5, 10, 9]
def pow10s : List Int := (List.range 20).map fun i => (10 : Int) ^ i
def rangeText : List UInt8 := [118, 97, 108, 117, 101, 32, 111, 117, 116, 32, 111, 102, 32, 114, 97, 110, 103, 101]
def syntaxText : List UInt8 := [105, 110, 118, 97, 108, 105, 100, 32, 115, 121, 110, 116, 97, 120]
/-- A settled world with two blocks more, the listed variables holding what their initialisers lay. -/
noncomputable def laidWorld (os : Os) : World :=
  let N := (World.settled Tryd.prog os).heap.size
  let w0 := World.holding Tryd.prog os ⟨#[.cells #[.string ⟨rangeText.toArray⟩] 107, .cells #[.string ⟨syntaxText.toArray⟩] 107], #[], []⟩
  let put (h : Array Obj) (g : Nat) (cs : Array Value) : Array Obj := h.modify g fun
    | .cells _ t frozen => .cells cs t frozen
    | o => o
  let h0 := put (put w0.heap 4 #[.iface 105 (.pointer (some ⟨N, 0, none⟩))]) 3 #[.iface 105 (.pointer (some ⟨N + 1, 0, none⟩))]
  let h1 := put h0 0 (Lib.firstTab.map fun z => Value.int .u8 z).toArray
  let h2 := put h1 1 ((List.range 16).flatMap fun i => [Value.int .u8 (Lib.accLo i), Value.int .u8 (Lib.accHi i)]).toArray
  let h3 := put h2 6 (br32.map fun z => Value.int .u8 z).toArray
  let h4 := put h3 7 (br64.map fun z => Value.int .u8 z).toArray
  let h5 := put h4 2 (pow10s.map fun z => Value.int .u64 z).toArray
  { w0 with heap := h5 }
noncomputable abbrev N0 : Nat := (World.settled Tryd.prog default).heap.size
set_option maxRecDepth 1000000 in
theorem laid_in (os : Os) (args : Array Value) : LaidIn Tryd.prog ((laidWorld os).forCall (fun _ _ => 0) ⟨#[], args, []⟩).memory LD [6, 7, 2, 1, 4, N0, 3, N0 + 1, 0] :=
  LaidIn.of_run [6, 7, 2, 1, 4, N0, 3, N0 + 1, 0] 8 (by kernel_rfl) (by kernel_rfl) (by kernel_rfl) (by kernel_rfl)
theorem laid_met (os : Os) (args : Array Value) : laidMet Tryd.prog LD ((laidWorld os).forCall (fun _ _ => 0) ⟨#[], args, []⟩).memory := (laid_in os args).met
theorem plainH (w : World) : laidMetH Tryd.prog LD w = laidMet Tryd.prog LD w := Go.MakeChecks.laidMetH_plain _ _ _ (by kernel_rfl)

end Go.Proofs.YtlnafmibopkilaaDoor
