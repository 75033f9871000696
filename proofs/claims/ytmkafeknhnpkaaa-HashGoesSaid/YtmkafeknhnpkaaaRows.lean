/-
  No cell of these rows narrows 'for every input' (looked for: loops, veiled, ifaces, maps, wideKeys, modest, calm, conditions, laid).
  DERIVED. THE GIVEN ROWS OF THIS SEAT. 4 by the template 'for every input the law returns true; each argument reads behind the call as it read before'; 0 by the template 'total and deterministic' (their statements: YtmkafeknhnpkaaaTotals.lean).
  GIVEN WITH THE SEED: the statements are not yours to turn. If you find one false, say at which input.
  Laid BY PROGRAM, IN A SANDBOX (cutbox-rows.mjs): the forced cells as the released guide's own fill.sh prints them over the translation 0269e61560bd0d18… (all of the seat's roots in one cut). By AI agents, Wed Nov 11 2026. No macro, syntax, notation, axiom, sorry.
-/
import Derived.Test.YtmkafeknhnpkaaaChecked
import GoSem.Claim
import GoSem.ClaimJoined
import GoSem.ClaimMapViews
import Derived.JoinedTies
import Derived.KernelRfl
namespace Go.Proofs.Ytmkafeknhnpkaaa
/- THE CELL 'sum', in the pinned program and in every row, IS THE sha256 OF THE DUMP (.gsa) THAT YtmkafeknhnpkaaaProg.lean LOADS. Nothing in Lean hashes anything: it is a label: what it is worth is what the hold of that sum in a sandbox is worth. -/
noncomputable def Try.pinned : Pinned := { name := "ytmkafeknhnpkaaa", sum := "0269e61560bd0d1899248cf032893674460b40d22b33a553f8001c02dcfaf605", checked := Try.checked }
namespace Rows
def none {H : Type} : Left H := { results := [], args := [] }

/-- 'spoorlaw03.HashTells': WHATEVER THE INPUT: true; the input reads as it did. -/
def hashTellsSpec : ChangeSpec := { name := "hashTells", fn := fun _ => fun
  | [d1, d2, d3] => { results := [.lit (.bool true)], args := [d1, d2, d3] }
  | _ => none }
def hashTellsRow : OpenClaim := { program := "ytmkafeknhnpkaaa", sum := "0269e61560bd0d1899248cf032893674460b40d22b33a553f8001c02dcfaf605", func := "spoor/spoorlaw03.HashTells", spec := "hashTells", unfollowed := true, recurses := true, apart := false }
def HashTellsSaid : Prop := hashTellsRow.holds Try.pinned (OpenSpec.ofChange hashTellsSpec)

/-- ITS FALSE NEIGHBOUR: 'it returns false'. Refute it at one input. -/
def hashTellsWrong : ChangeSpec := { name := "hashTells", fn := fun _ => fun
  | [d1, d2, d3] => { results := [.lit (.bool false)], args := [d1, d2, d3] }
  | _ => none }
def HashTellsWrongFalsely : Prop := hashTellsRow.holds Try.pinned (OpenSpec.ofChange hashTellsWrong)

/-- 'spoorlaw03.HashOrder': WHATEVER THE INPUT: true; the input reads as it did. -/
def hashOrderSpec : ChangeSpec := { name := "hashOrder", fn := fun _ => fun
  | [d1, d2, d3, d4, d5] => { results := [.lit (.bool true)], args := [d1, d2, d3, d4, d5] }
  | _ => none }
def hashOrderRow : OpenClaim := { program := "ytmkafeknhnpkaaa", sum := "0269e61560bd0d1899248cf032893674460b40d22b33a553f8001c02dcfaf605", func := "spoor/spoorlaw03.HashOrder", spec := "hashOrder", unfollowed := true, recurses := true, apart := false }
def HashOrderSaid : Prop := hashOrderRow.holds Try.pinned (OpenSpec.ofChange hashOrderSpec)

/-- ITS FALSE NEIGHBOUR: 'it returns false'. Refute it at one input. -/
def hashOrderWrong : ChangeSpec := { name := "hashOrder", fn := fun _ => fun
  | [d1, d2, d3, d4, d5] => { results := [.lit (.bool false)], args := [d1, d2, d3, d4, d5] }
  | _ => none }
def HashOrderWrongFalsely : Prop := hashOrderRow.holds Try.pinned (OpenSpec.ofChange hashOrderWrong)

/-- 'spoorlaw03.HashGoes': WHATEVER THE INPUT: true; the input reads as it did. -/
def hashGoesSpec : ChangeSpec := { name := "hashGoes", fn := fun _ => fun
  | [d1, d2, d3] => { results := [.lit (.bool true)], args := [d1, d2, d3] }
  | _ => none }
def hashGoesRow : OpenClaim := { program := "ytmkafeknhnpkaaa", sum := "0269e61560bd0d1899248cf032893674460b40d22b33a553f8001c02dcfaf605", func := "spoor/spoorlaw03.HashGoes", spec := "hashGoes", unfollowed := true, recurses := true, apart := false }
def HashGoesSaid : Prop := hashGoesRow.holds Try.pinned (OpenSpec.ofChange hashGoesSpec)

/-- ITS FALSE NEIGHBOUR: 'it returns false'. Refute it at one input. -/
def hashGoesWrong : ChangeSpec := { name := "hashGoes", fn := fun _ => fun
  | [d1, d2, d3] => { results := [.lit (.bool false)], args := [d1, d2, d3] }
  | _ => none }
def HashGoesWrongFalsely : Prop := hashGoesRow.holds Try.pinned (OpenSpec.ofChange hashGoesWrong)

/-- 'spoorlaw03.HashLeast': WHATEVER THE INPUT: true; the input reads as it did. -/
def hashLeastSpec : ChangeSpec := { name := "hashLeast", fn := fun _ => fun
  | [d1, d2, d3] => { results := [.lit (.bool true)], args := [d1, d2, d3] }
  | _ => none }
def hashLeastRow : OpenClaim := { program := "ytmkafeknhnpkaaa", sum := "0269e61560bd0d1899248cf032893674460b40d22b33a553f8001c02dcfaf605", func := "spoor/spoorlaw03.HashLeast", spec := "hashLeast", unfollowed := true, recurses := true, apart := false }
def HashLeastSaid : Prop := hashLeastRow.holds Try.pinned (OpenSpec.ofChange hashLeastSpec)

/-- ITS FALSE NEIGHBOUR: 'it returns false'. Refute it at one input. -/
def hashLeastWrong : ChangeSpec := { name := "hashLeast", fn := fun _ => fun
  | [d1, d2, d3] => { results := [.lit (.bool false)], args := [d1, d2, d3] }
  | _ => none }
def HashLeastWrongFalsely : Prop := hashLeastRow.holds Try.pinned (OpenSpec.ofChange hashLeastWrong)

/- THE SECOND FORM. 'bulk': how many values and letters a reading holds, each counted each time it is reached (what is shared counts as often as it is met; a slice's spare places count too). A statement '..UptoSaid' is the law's where the arguments, and the package variables that the reading takes, are together of bulk at most 1048576: NARROWER than '..Said'. Prove '..Said' where nothing that the law and all that it calls make is longer than what came in: it says more and counts as full. Else prove '..UptoSaid'. A law counts once. -/
mutual
def uptoBulk {H : Type} : DataW H → Nat
  | .lit (.string bytes) => bytes.length + 1
  | .lit _ => 1
  | .nil => 1
  | .ptr d => uptoBulk d + 1
  | .slice elems spare => uptoBulkAll elems + uptoBulkAll spare + 1
  | .agg parts => uptoBulkAll parts + 1
  | .iface _ d => uptoBulk d + 1
  | .map entries => uptoBulkEntries entries + 1
  | .held _ => 1
def uptoBulkAll {H : Type} : List (DataW H) → Nat
  | [] => 0
  | d :: r => uptoBulk d + uptoBulkAll r
def uptoBulkEntries {H : Type} : List (Lit × DataW H) → Nat
  | [] => 0
  | x :: r => uptoBulkEntry x + uptoBulkEntries r
def uptoBulkEntry {H : Type} : Lit × DataW H → Nat
  | (.string bytes, d) => bytes.length + uptoBulk d + 1
  | (_, d) => uptoBulk d + 1
 end
def uptoSmall : (H : Type) → List (DataW H) → Bool := fun _ ds => decide (uptoBulkAll ds ≤ 1048576)
def OpenSpec.upto (s : _root_.Go.ChangeSpec) : _root_.Go.OpenSpec := { _root_.Go.OpenSpec.ofChange s with cond := some uptoSmall }

/-- 'spoorlaw03.HashTells', WHERE WHAT IT READS IS OF BULK AT MOST 1048576: true; the input reads as it did. -/
def hashTellsUptoRow : OpenClaim := { program := "ytmkafeknhnpkaaa", sum := "0269e61560bd0d1899248cf032893674460b40d22b33a553f8001c02dcfaf605", func := "spoor/spoorlaw03.HashTells", spec := "hashTells", unfollowed := true, recurses := true, apart := false, narrowed := true }
def HashTellsUptoSaid : Prop := hashTellsUptoRow.holds Try.pinned (OpenSpec.upto hashTellsSpec)

/-- 'spoorlaw03.HashOrder', WHERE WHAT IT READS IS OF BULK AT MOST 1048576: true; the input reads as it did. -/
def hashOrderUptoRow : OpenClaim := { program := "ytmkafeknhnpkaaa", sum := "0269e61560bd0d1899248cf032893674460b40d22b33a553f8001c02dcfaf605", func := "spoor/spoorlaw03.HashOrder", spec := "hashOrder", unfollowed := true, recurses := true, apart := false, narrowed := true }
def HashOrderUptoSaid : Prop := hashOrderUptoRow.holds Try.pinned (OpenSpec.upto hashOrderSpec)

/-- 'spoorlaw03.HashGoes', WHERE WHAT IT READS IS OF BULK AT MOST 1048576: true; the input reads as it did. -/
def hashGoesUptoRow : OpenClaim := { program := "ytmkafeknhnpkaaa", sum := "0269e61560bd0d1899248cf032893674460b40d22b33a553f8001c02dcfaf605", func := "spoor/spoorlaw03.HashGoes", spec := "hashGoes", unfollowed := true, recurses := true, apart := false, narrowed := true }
def HashGoesUptoSaid : Prop := hashGoesUptoRow.holds Try.pinned (OpenSpec.upto hashGoesSpec)

/-- 'spoorlaw03.HashLeast', WHERE WHAT IT READS IS OF BULK AT MOST 1048576: true; the input reads as it did. -/
def hashLeastUptoRow : OpenClaim := { program := "ytmkafeknhnpkaaa", sum := "0269e61560bd0d1899248cf032893674460b40d22b33a553f8001c02dcfaf605", func := "spoor/spoorlaw03.HashLeast", spec := "hashLeast", unfollowed := true, recurses := true, apart := false, narrowed := true }
def HashLeastUptoSaid : Prop := hashLeastUptoRow.holds Try.pinned (OpenSpec.upto hashLeastSpec)

end Rows
end Go.Proofs.Ytmkafeknhnpkaaa
