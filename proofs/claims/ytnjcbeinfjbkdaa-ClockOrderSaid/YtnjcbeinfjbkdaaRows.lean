/-
  No cell of these rows narrows 'for every input' (looked for: loops, veiled, ifaces, maps, wideKeys, modest, calm, conditions, laid).
  DERIVED. THE GIVEN ROWS OF THIS SEAT. 6 by the template 'for every input the law returns true; each argument reads behind the call as it read before'; 0 by the template 'total and deterministic' (their statements: YtnjcbeinfjbkdaaTotals.lean).
  GIVEN WITH THE SEED: the statements are not yours to turn. If you find one false, say at which input.
  Laid BY PROGRAM, IN A SANDBOX (cutbox-rows.mjs): the forced cells as the released guide's own fill.sh prints them over the translation e38e0a1af609ef1a… (all of the seat's roots in one cut). By AI agents, Wed Nov 11 2026. No macro, syntax, notation, axiom, sorry.
-/
import Derived.Test.YtnjcbeinfjbkdaaChecked
import GoSem.Claim
import GoSem.ClaimJoined
import GoSem.ClaimMapViews
import Derived.JoinedTies
import Derived.KernelRfl
namespace Go.Proofs.Ytnjcbeinfjbkdaa
/- THE CELL 'sum', in the pinned program and in every row, IS THE sha256 OF THE DUMP (.gsa) THAT YtnjcbeinfjbkdaaProg.lean LOADS. Nothing in Lean hashes anything: it is a label: what it is worth is what the hold of that sum in a sandbox is worth. -/
noncomputable def Try.pinned : Pinned := { name := "ytnjcbeinfjbkdaa", sum := "e38e0a1af609ef1af5698d7ce9156b36e0d42830c8434d840cddffb5ae81f4fd", checked := Try.checked }
namespace Rows
def none {H : Type} : Left H := { results := [], args := [] }

/-- 'strongboxlaw9.ClockRuns': WHATEVER THE INPUT: true; the input reads as it did. -/
def clockRunsSpec : ChangeSpec := { name := "clockRuns", fn := fun _ => fun
  | [d1, d2] => { results := [.lit (.bool true)], args := [d1, d2] }
  | _ => none }
def clockRunsRow : OpenClaim := { program := "ytnjcbeinfjbkdaa", sum := "e38e0a1af609ef1af5698d7ce9156b36e0d42830c8434d840cddffb5ae81f4fd", func := "strongbox/strongboxlaw9.ClockRuns", spec := "clockRuns", apart := false }
def ClockRunsSaid : Prop := clockRunsRow.holds Try.pinned (OpenSpec.ofChange clockRunsSpec)

/-- ITS FALSE NEIGHBOUR: 'it returns false'. Refute it at one input. -/
def clockRunsWrong : ChangeSpec := { name := "clockRuns", fn := fun _ => fun
  | [d1, d2] => { results := [.lit (.bool false)], args := [d1, d2] }
  | _ => none }
def ClockRunsWrongFalsely : Prop := clockRunsRow.holds Try.pinned (OpenSpec.ofChange clockRunsWrong)

/-- 'strongboxlaw9.ClockEnds': WHATEVER THE INPUT: true; the input reads as it did. -/
def clockEndsSpec : ChangeSpec := { name := "clockEnds", fn := fun _ => fun
  | [] => { results := [.lit (.bool true)], args := [] }
  | _ => none }
def clockEndsRow : OpenClaim := { program := "ytnjcbeinfjbkdaa", sum := "e38e0a1af609ef1af5698d7ce9156b36e0d42830c8434d840cddffb5ae81f4fd", func := "strongbox/strongboxlaw9.ClockEnds", spec := "clockEnds", apart := false }
def ClockEndsSaid : Prop := clockEndsRow.holds Try.pinned (OpenSpec.ofChange clockEndsSpec)

/-- ITS FALSE NEIGHBOUR: 'it returns false'. Refute it at one input. -/
def clockEndsWrong : ChangeSpec := { name := "clockEnds", fn := fun _ => fun
  | [] => { results := [.lit (.bool false)], args := [] }
  | _ => none }
def ClockEndsWrongFalsely : Prop := clockEndsRow.holds Try.pinned (OpenSpec.ofChange clockEndsWrong)

/-- 'strongboxlaw9.ClockParts': WHATEVER THE INPUT: true; the input reads as it did. -/
def clockPartsSpec : ChangeSpec := { name := "clockParts", fn := fun _ => fun
  | [d1, d2, d3] => { results := [.lit (.bool true)], args := [d1, d2, d3] }
  | _ => none }
def clockPartsRow : OpenClaim := { program := "ytnjcbeinfjbkdaa", sum := "e38e0a1af609ef1af5698d7ce9156b36e0d42830c8434d840cddffb5ae81f4fd", func := "strongbox/strongboxlaw9.ClockParts", spec := "clockParts", apart := false }
def ClockPartsSaid : Prop := clockPartsRow.holds Try.pinned (OpenSpec.ofChange clockPartsSpec)

/-- ITS FALSE NEIGHBOUR: 'it returns false'. Refute it at one input. -/
def clockPartsWrong : ChangeSpec := { name := "clockParts", fn := fun _ => fun
  | [d1, d2, d3] => { results := [.lit (.bool false)], args := [d1, d2, d3] }
  | _ => none }
def ClockPartsWrongFalsely : Prop := clockPartsRow.holds Try.pinned (OpenSpec.ofChange clockPartsWrong)

/-- 'strongboxlaw9.ClockOrder': WHATEVER THE INPUT: true; the input reads as it did. -/
def clockOrderSpec : ChangeSpec := { name := "clockOrder", fn := fun _ => fun
  | [d1, d2] => { results := [.lit (.bool true)], args := [d1, d2] }
  | _ => none }
def clockOrderRow : OpenClaim := { program := "ytnjcbeinfjbkdaa", sum := "e38e0a1af609ef1af5698d7ce9156b36e0d42830c8434d840cddffb5ae81f4fd", func := "strongbox/strongboxlaw9.ClockOrder", spec := "clockOrder", apart := false }
def ClockOrderSaid : Prop := clockOrderRow.holds Try.pinned (OpenSpec.ofChange clockOrderSpec)

/-- ITS FALSE NEIGHBOUR: 'it returns false'. Refute it at one input. -/
def clockOrderWrong : ChangeSpec := { name := "clockOrder", fn := fun _ => fun
  | [d1, d2] => { results := [.lit (.bool false)], args := [d1, d2] }
  | _ => none }
def ClockOrderWrongFalsely : Prop := clockOrderRow.holds Try.pinned (OpenSpec.ofChange clockOrderWrong)

/-- 'strongboxlaw8.PageSorts': WHATEVER THE INPUT: true; the input reads as it did. -/
def pageSortsSpec : ChangeSpec := { name := "pageSorts", fn := fun _ => fun
  | [d1, d2] => { results := [.lit (.bool true)], args := [d1, d2] }
  | _ => none }
def pageSortsRow : OpenClaim := { program := "ytnjcbeinfjbkdaa", sum := "e38e0a1af609ef1af5698d7ce9156b36e0d42830c8434d840cddffb5ae81f4fd", func := "strongbox/strongboxlaw8.PageSorts", spec := "pageSorts", unfollowed := true, recurses := true, apart := false }
def PageSortsSaid : Prop := pageSortsRow.holds Try.pinned (OpenSpec.ofChange pageSortsSpec)

/-- ITS FALSE NEIGHBOUR: 'it returns false'. Refute it at one input. -/
def pageSortsWrong : ChangeSpec := { name := "pageSorts", fn := fun _ => fun
  | [d1, d2] => { results := [.lit (.bool false)], args := [d1, d2] }
  | _ => none }
def PageSortsWrongFalsely : Prop := pageSortsRow.holds Try.pinned (OpenSpec.ofChange pageSortsWrong)

/-- 'strongboxlaw8.PageCuts': WHATEVER THE INPUT: true; the input reads as it did. -/
def pageCutsSpec : ChangeSpec := { name := "pageCuts", fn := fun _ => fun
  | [d1, d2] => { results := [.lit (.bool true)], args := [d1, d2] }
  | _ => none }
def pageCutsRow : OpenClaim := { program := "ytnjcbeinfjbkdaa", sum := "e38e0a1af609ef1af5698d7ce9156b36e0d42830c8434d840cddffb5ae81f4fd", func := "strongbox/strongboxlaw8.PageCuts", spec := "pageCuts", unfollowed := true, recurses := true, apart := false }
def PageCutsSaid : Prop := pageCutsRow.holds Try.pinned (OpenSpec.ofChange pageCutsSpec)

/-- ITS FALSE NEIGHBOUR: 'it returns false'. Refute it at one input. -/
def pageCutsWrong : ChangeSpec := { name := "pageCuts", fn := fun _ => fun
  | [d1, d2] => { results := [.lit (.bool false)], args := [d1, d2] }
  | _ => none }
def PageCutsWrongFalsely : Prop := pageCutsRow.holds Try.pinned (OpenSpec.ofChange pageCutsWrong)

/- THE SECOND FORM. 'bulk': how many values and letters a reading holds, each counted each time it is reached (what is shared counts as often as it is met; a slice's spare places count too). A statement '..UptoSaid' is the law's where the arguments, and the package variables that the reading takes, are together of bulk at most 1048576: NARROWER than '..Said'. Prove '..Said' where nothing that the law and all that it calls make is longer than what came in: it says more and counts as full. Else prove '..UptoSaid'. A law counts once. -/
mutual
def uptoBulk {H : Type} : DataW H → Nat
  | .lit (.string bytes) => bytes.length + 1
  | .lit _ => 1
  | .nil => 1
  | .ptr d => uptoBulk d + 1
  | .slice elems spare => uptoBulkAll elems + uptoBulkAll spare + 1
  | .agg parts => uptoBulkAll parts + 1
  | .iface _ d => uptoBulk d + 1
  | .map entries => uptoBulkEntries entries + 1
  | .held _ => 1
def uptoBulkAll {H : Type} : List (DataW H) → Nat
  | [] => 0
  | d :: r => uptoBulk d + uptoBulkAll r
def uptoBulkEntries {H : Type} : List (Lit × DataW H) → Nat
  | [] => 0
  | x :: r => uptoBulkEntry x + uptoBulkEntries r
def uptoBulkEntry {H : Type} : Lit × DataW H → Nat
  | (.string bytes, d) => bytes.length + uptoBulk d + 1
  | (_, d) => uptoBulk d + 1
 end
def uptoSmall : (H : Type) → List (DataW H) → Bool := fun _ ds => decide (uptoBulkAll ds ≤ 1048576)
def OpenSpec.upto (s : _root_.Go.ChangeSpec) : _root_.Go.OpenSpec := { _root_.Go.OpenSpec.ofChange s with cond := some uptoSmall }

/-- 'strongboxlaw9.ClockRuns', WHERE WHAT IT READS IS OF BULK AT MOST 1048576: true; the input reads as it did. -/
def clockRunsUptoRow : OpenClaim := { program := "ytnjcbeinfjbkdaa", sum := "e38e0a1af609ef1af5698d7ce9156b36e0d42830c8434d840cddffb5ae81f4fd", func := "strongbox/strongboxlaw9.ClockRuns", spec := "clockRuns", apart := false, narrowed := true }
def ClockRunsUptoSaid : Prop := clockRunsUptoRow.holds Try.pinned (OpenSpec.upto clockRunsSpec)

/-- 'strongboxlaw9.ClockEnds', WHERE WHAT IT READS IS OF BULK AT MOST 1048576: true; the input reads as it did. -/
def clockEndsUptoRow : OpenClaim := { program := "ytnjcbeinfjbkdaa", sum := "e38e0a1af609ef1af5698d7ce9156b36e0d42830c8434d840cddffb5ae81f4fd", func := "strongbox/strongboxlaw9.ClockEnds", spec := "clockEnds", apart := false, narrowed := true }
def ClockEndsUptoSaid : Prop := clockEndsUptoRow.holds Try.pinned (OpenSpec.upto clockEndsSpec)

/-- 'strongboxlaw9.ClockParts', WHERE WHAT IT READS IS OF BULK AT MOST 1048576: true; the input reads as it did. -/
def clockPartsUptoRow : OpenClaim := { program := "ytnjcbeinfjbkdaa", sum := "e38e0a1af609ef1af5698d7ce9156b36e0d42830c8434d840cddffb5ae81f4fd", func := "strongbox/strongboxlaw9.ClockParts", spec := "clockParts", apart := false, narrowed := true }
def ClockPartsUptoSaid : Prop := clockPartsUptoRow.holds Try.pinned (OpenSpec.upto clockPartsSpec)

/-- 'strongboxlaw9.ClockOrder', WHERE WHAT IT READS IS OF BULK AT MOST 1048576: true; the input reads as it did. -/
def clockOrderUptoRow : OpenClaim := { program := "ytnjcbeinfjbkdaa", sum := "e38e0a1af609ef1af5698d7ce9156b36e0d42830c8434d840cddffb5ae81f4fd", func := "strongbox/strongboxlaw9.ClockOrder", spec := "clockOrder", apart := false, narrowed := true }
def ClockOrderUptoSaid : Prop := clockOrderUptoRow.holds Try.pinned (OpenSpec.upto clockOrderSpec)

/-- 'strongboxlaw8.PageSorts', WHERE WHAT IT READS IS OF BULK AT MOST 1048576: true; the input reads as it did. -/
def pageSortsUptoRow : OpenClaim := { program := "ytnjcbeinfjbkdaa", sum := "e38e0a1af609ef1af5698d7ce9156b36e0d42830c8434d840cddffb5ae81f4fd", func := "strongbox/strongboxlaw8.PageSorts", spec := "pageSorts", unfollowed := true, recurses := true, apart := false, narrowed := true }
def PageSortsUptoSaid : Prop := pageSortsUptoRow.holds Try.pinned (OpenSpec.upto pageSortsSpec)

/-- 'strongboxlaw8.PageCuts', WHERE WHAT IT READS IS OF BULK AT MOST 1048576: true; the input reads as it did. -/
def pageCutsUptoRow : OpenClaim := { program := "ytnjcbeinfjbkdaa", sum := "e38e0a1af609ef1af5698d7ce9156b36e0d42830c8434d840cddffb5ae81f4fd", func := "strongbox/strongboxlaw8.PageCuts", spec := "pageCuts", unfollowed := true, recurses := true, apart := false, narrowed := true }
def PageCutsUptoSaid : Prop := pageCutsUptoRow.holds Try.pinned (OpenSpec.upto pageCutsSpec)

end Rows
end Go.Proofs.Ytnjcbeinfjbkdaa
