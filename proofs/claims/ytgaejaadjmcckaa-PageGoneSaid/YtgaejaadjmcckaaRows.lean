/-
  No cell of these rows narrows 'for every input' (looked for: loops, veiled, ifaces, maps, wideKeys, modest, calm, conditions, laid).
  DERIVED. THE GIVEN ROWS OF THIS SEAT. 5 by the template 'for every input the law returns true; each argument reads behind the call as it read before'; 0 by the template 'total and deterministic' (their statements: YtgaejaadjmcckaaTotals.lean).
  GIVEN WITH THE SEED: the statements are not yours to turn. If you find one false, say at which input.
  Laid BY PROGRAM, IN A SANDBOX (cutbox-rows.mjs): the forced cells as the released guide's own fill.sh prints them over the translation 00469e0510a62f0c… (all of the seat's roots in one cut). By AI agents, Wed Nov 11 2026. No macro, syntax, notation, axiom, sorry.
-/
import Derived.Test.YtgaejaadjmcckaaChecked
import GoSem.Claim
import GoSem.ClaimJoined
import GoSem.ClaimMapViews
import Derived.JoinedTies
import Derived.KernelRfl
namespace Go.Proofs.Ytgaejaadjmcckaa
/- THE CELL 'sum', in the pinned program and in every row, IS THE sha256 OF THE DUMP (.gsa) THAT YtgaejaadjmcckaaProg.lean LOADS. Nothing in Lean hashes anything: it is a label: what it is worth is what the hold of that sum in a sandbox is worth. -/
noncomputable def Try.pinned : Pinned := { name := "ytgaejaadjmcckaa", sum := "00469e0510a62f0c881b06db0de63b6e20de00b841858527b8cde3d74acde05e", checked := Try.checked }
namespace Rows
def none {H : Type} : Left H := { results := [], args := [] }

/-- 'strongboxlaw8.PageSorts': WHATEVER THE INPUT: true; the input reads as it did. -/
def pageSortsSpec : ChangeSpec := { name := "pageSorts", fn := fun _ => fun
  | [d1, d2] => { results := [.lit (.bool true)], args := [d1, d2] }
  | _ => none }
def pageSortsRow : OpenClaim := { program := "ytgaejaadjmcckaa", sum := "00469e0510a62f0c881b06db0de63b6e20de00b841858527b8cde3d74acde05e", func := "strongbox/strongboxlaw8.PageSorts", spec := "pageSorts", unfollowed := true, recurses := true, apart := false }
def PageSortsSaid : Prop := pageSortsRow.holds Try.pinned (OpenSpec.ofChange pageSortsSpec)

/-- ITS FALSE NEIGHBOUR: 'it returns false'. Refute it at one input. -/
def pageSortsWrong : ChangeSpec := { name := "pageSorts", fn := fun _ => fun
  | [d1, d2] => { results := [.lit (.bool false)], args := [d1, d2] }
  | _ => none }
def PageSortsWrongFalsely : Prop := pageSortsRow.holds Try.pinned (OpenSpec.ofChange pageSortsWrong)

/-- 'strongboxlaw8.PageCuts': WHATEVER THE INPUT: true; the input reads as it did. -/
def pageCutsSpec : ChangeSpec := { name := "pageCuts", fn := fun _ => fun
  | [d1, d2] => { results := [.lit (.bool true)], args := [d1, d2] }
  | _ => none }
def pageCutsRow : OpenClaim := { program := "ytgaejaadjmcckaa", sum := "00469e0510a62f0c881b06db0de63b6e20de00b841858527b8cde3d74acde05e", func := "strongbox/strongboxlaw8.PageCuts", spec := "pageCuts", unfollowed := true, recurses := true, apart := false }
def PageCutsSaid : Prop := pageCutsRow.holds Try.pinned (OpenSpec.ofChange pageCutsSpec)

/-- ITS FALSE NEIGHBOUR: 'it returns false'. Refute it at one input. -/
def pageCutsWrong : ChangeSpec := { name := "pageCuts", fn := fun _ => fun
  | [d1, d2] => { results := [.lit (.bool false)], args := [d1, d2] }
  | _ => none }
def PageCutsWrongFalsely : Prop := pageCutsRow.holds Try.pinned (OpenSpec.ofChange pageCutsWrong)

/-- 'strongboxlaw8.PageWalks': WHATEVER THE INPUT: true; the input reads as it did. -/
def pageWalksSpec : ChangeSpec := { name := "pageWalks", fn := fun _ => fun
  | [d1, d2, d3] => { results := [.lit (.bool true)], args := [d1, d2, d3] }
  | _ => none }
def pageWalksRow : OpenClaim := { program := "ytgaejaadjmcckaa", sum := "00469e0510a62f0c881b06db0de63b6e20de00b841858527b8cde3d74acde05e", func := "strongbox/strongboxlaw8.PageWalks", spec := "pageWalks", unfollowed := true, recurses := true, apart := false }
def PageWalksSaid : Prop := pageWalksRow.holds Try.pinned (OpenSpec.ofChange pageWalksSpec)

/-- ITS FALSE NEIGHBOUR: 'it returns false'. Refute it at one input. -/
def pageWalksWrong : ChangeSpec := { name := "pageWalks", fn := fun _ => fun
  | [d1, d2, d3] => { results := [.lit (.bool false)], args := [d1, d2, d3] }
  | _ => none }
def PageWalksWrongFalsely : Prop := pageWalksRow.holds Try.pinned (OpenSpec.ofChange pageWalksWrong)

/-- 'strongboxlaw8.PageGone': WHATEVER THE INPUT: true; the input reads as it did. -/
def pageGoneSpec : ChangeSpec := { name := "pageGone", fn := fun _ => fun
  | [d1, d2, d3] => { results := [.lit (.bool true)], args := [d1, d2, d3] }
  | _ => none }
def pageGoneRow : OpenClaim := { program := "ytgaejaadjmcckaa", sum := "00469e0510a62f0c881b06db0de63b6e20de00b841858527b8cde3d74acde05e", func := "strongbox/strongboxlaw8.PageGone", spec := "pageGone", unfollowed := true, recurses := true, apart := false }
def PageGoneSaid : Prop := pageGoneRow.holds Try.pinned (OpenSpec.ofChange pageGoneSpec)

/-- ITS FALSE NEIGHBOUR: 'it returns false'. Refute it at one input. -/
def pageGoneWrong : ChangeSpec := { name := "pageGone", fn := fun _ => fun
  | [d1, d2, d3] => { results := [.lit (.bool false)], args := [d1, d2, d3] }
  | _ => none }
def PageGoneWrongFalsely : Prop := pageGoneRow.holds Try.pinned (OpenSpec.ofChange pageGoneWrong)

/-- 'strongboxlaw8.PageSplits': WHATEVER THE INPUT: true; the input reads as it did. -/
def pageSplitsSpec : ChangeSpec := { name := "pageSplits", fn := fun _ => fun
  | [d1, d2] => { results := [.lit (.bool true)], args := [d1, d2] }
  | _ => none }
def pageSplitsRow : OpenClaim := { program := "ytgaejaadjmcckaa", sum := "00469e0510a62f0c881b06db0de63b6e20de00b841858527b8cde3d74acde05e", func := "strongbox/strongboxlaw8.PageSplits", spec := "pageSplits", unfollowed := true, recurses := true, apart := false }
def PageSplitsSaid : Prop := pageSplitsRow.holds Try.pinned (OpenSpec.ofChange pageSplitsSpec)

/-- ITS FALSE NEIGHBOUR: 'it returns false'. Refute it at one input. -/
def pageSplitsWrong : ChangeSpec := { name := "pageSplits", fn := fun _ => fun
  | [d1, d2] => { results := [.lit (.bool false)], args := [d1, d2] }
  | _ => none }
def PageSplitsWrongFalsely : Prop := pageSplitsRow.holds Try.pinned (OpenSpec.ofChange pageSplitsWrong)

/- THE SECOND FORM. 'bulk': how many values and letters a reading holds, each counted each time it is reached (what is shared counts as often as it is met; a slice's spare places count too). A statement '..UptoSaid' is the law's where the arguments, and the package variables that the reading takes, are together of bulk at most 1048576: NARROWER than '..Said'. Prove '..Said' where nothing that the law and all that it calls make is longer than what came in: it says more and counts as full. Else prove '..UptoSaid'. A law counts once. -/
mutual
def uptoBulk {H : Type} : DataW H → Nat
  | .lit (.string bytes) => bytes.length + 1
  | .lit _ => 1
  | .nil => 1
  | .ptr d => uptoBulk d + 1
  | .slice elems spare => uptoBulkAll elems + uptoBulkAll spare + 1
  | .agg parts => uptoBulkAll parts + 1
  | .iface _ d => uptoBulk d + 1
  | .map entries => uptoBulkEntries entries + 1
  | .held _ => 1
def uptoBulkAll {H : Type} : List (DataW H) → Nat
  | [] => 0
  | d :: r => uptoBulk d + uptoBulkAll r
def uptoBulkEntries {H : Type} : List (Lit × DataW H) → Nat
  | [] => 0
  | x :: r => uptoBulkEntry x + uptoBulkEntries r
def uptoBulkEntry {H : Type} : Lit × DataW H → Nat
  | (.string bytes, d) => bytes.length + uptoBulk d + 1
  | (_, d) => uptoBulk d + 1
 end
def uptoSmall : (H : Type) → List (DataW H) → Bool := fun _ ds => decide (uptoBulkAll ds ≤ 1048576)
def OpenSpec.upto (s : _root_.Go.ChangeSpec) : _root_.Go.OpenSpec := { _root_.Go.OpenSpec.ofChange s with cond := some uptoSmall }

/-- 'strongboxlaw8.PageSorts', WHERE WHAT IT READS IS OF BULK AT MOST 1048576: true; the input reads as it did. -/
def pageSortsUptoRow : OpenClaim := { program := "ytgaejaadjmcckaa", sum := "00469e0510a62f0c881b06db0de63b6e20de00b841858527b8cde3d74acde05e", func := "strongbox/strongboxlaw8.PageSorts", spec := "pageSorts", unfollowed := true, recurses := true, apart := false, narrowed := true }
def PageSortsUptoSaid : Prop := pageSortsUptoRow.holds Try.pinned (OpenSpec.upto pageSortsSpec)

/-- 'strongboxlaw8.PageCuts', WHERE WHAT IT READS IS OF BULK AT MOST 1048576: true; the input reads as it did. -/
def pageCutsUptoRow : OpenClaim := { program := "ytgaejaadjmcckaa", sum := "00469e0510a62f0c881b06db0de63b6e20de00b841858527b8cde3d74acde05e", func := "strongbox/strongboxlaw8.PageCuts", spec := "pageCuts", unfollowed := true, recurses := true, apart := false, narrowed := true }
def PageCutsUptoSaid : Prop := pageCutsUptoRow.holds Try.pinned (OpenSpec.upto pageCutsSpec)

/-- 'strongboxlaw8.PageWalks', WHERE WHAT IT READS IS OF BULK AT MOST 1048576: true; the input reads as it did. -/
def pageWalksUptoRow : OpenClaim := { program := "ytgaejaadjmcckaa", sum := "00469e0510a62f0c881b06db0de63b6e20de00b841858527b8cde3d74acde05e", func := "strongbox/strongboxlaw8.PageWalks", spec := "pageWalks", unfollowed := true, recurses := true, apart := false, narrowed := true }
def PageWalksUptoSaid : Prop := pageWalksUptoRow.holds Try.pinned (OpenSpec.upto pageWalksSpec)

/-- 'strongboxlaw8.PageGone', WHERE WHAT IT READS IS OF BULK AT MOST 1048576: true; the input reads as it did. -/
def pageGoneUptoRow : OpenClaim := { program := "ytgaejaadjmcckaa", sum := "00469e0510a62f0c881b06db0de63b6e20de00b841858527b8cde3d74acde05e", func := "strongbox/strongboxlaw8.PageGone", spec := "pageGone", unfollowed := true, recurses := true, apart := false, narrowed := true }
def PageGoneUptoSaid : Prop := pageGoneUptoRow.holds Try.pinned (OpenSpec.upto pageGoneSpec)

/-- 'strongboxlaw8.PageSplits', WHERE WHAT IT READS IS OF BULK AT MOST 1048576: true; the input reads as it did. -/
def pageSplitsUptoRow : OpenClaim := { program := "ytgaejaadjmcckaa", sum := "00469e0510a62f0c881b06db0de63b6e20de00b841858527b8cde3d74acde05e", func := "strongbox/strongboxlaw8.PageSplits", spec := "pageSplits", unfollowed := true, recurses := true, apart := false, narrowed := true }
def PageSplitsUptoSaid : Prop := pageSplitsUptoRow.holds Try.pinned (OpenSpec.upto pageSplitsSpec)

end Rows
end Go.Proofs.Ytgaejaadjmcckaa
