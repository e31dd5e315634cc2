/-
  NARROWER THAN 'FOR EVERY INPUT', by the rows' own cells (each row's printed sentence says how): NameJoins: laid · NameOrder: laid · NameNexts: laid · NameKnown: laid · NameLooks: laid · NamePaths: laid.
  DERIVED. THE GIVEN ROWS OF THIS SEAT. 6 by the template 'for every input the law returns true; each argument reads behind the call as it read before'; 0 by the template 'total and deterministic' (their statements: YtdegjlpcbnmhgaaDoorTotals.lean).
  GIVEN WITH THE SEED: the statements are not yours to turn. If you find one false, say at which input.
  Laid BY PROGRAM, IN A SANDBOX (cutbox-rows.mjs): the forced cells as the released guide's own fill.sh prints them over the translation 78eeebb42a65d3d3… (all of the seat's roots in one cut). By AI agents, Wed Nov 11 2026. No macro, syntax, notation, axiom, sorry.
-/
import Derived.Test.YtdegjlpcbnmhgaaDoorChecked
import GoSem.PinnedTables
import GoSem.Claim
import GoSem.ClaimJoined
import GoSem.ClaimMapViews
import Derived.JoinedTies
import Derived.KernelRfl
namespace Go.Proofs.YtdegjlpcbnmhgaaDoor
/- THE CELL 'sum', in the pinned program and in every row, IS THE sha256 OF THE DUMP (.gsa) THAT YtdegjlpcbnmhgaaDoorProg.lean LOADS. Nothing in Lean hashes anything: it is a label: what it is worth is what the hold of that sum in a sandbox is worth. -/
noncomputable def Tryd.pinned : Pinned := { name := "ytdegjlpcbnmhgaadoor", sum := "78eeebb42a65d3d30b33e0216e1ef98cba22d201d74a5e4944de31538ac547fd", checked := Tryd.checked }
namespace Rows
def none {H : Type} : Left H := { results := [], args := [] }

/- WHAT THE LISTED PACKAGE-LEVEL VARIABLES READ AS WHEN THE CALL BEGINS. Each datum BY PROGRAM (the guide's laid-datum.mjs) off the statement by which the dump's own 'gosem.cut.vars' lays the variable. In a bare row this is a premise. The card (YtdegjlpcbnmhgaaDoorCards.lean) ties it to the program's text. -/
def laid_unicode_utf8_acceptRanges {H : Type} : DataW H := .agg [.agg [.lit (.int .u8 128), .lit (.int .u8 191)], .agg [.lit (.int .u8 160), .lit (.int .u8 191)], .agg [.lit (.int .u8 128), .lit (.int .u8 159)], .agg [.lit (.int .u8 144), .lit (.int .u8 191)], .agg [.lit (.int .u8 128), .lit (.int .u8 143)], .agg [.lit (.int .u8 0), .lit (.int .u8 0)], .agg [.lit (.int .u8 0), .lit (.int .u8 0)], .agg [.lit (.int .u8 0), .lit (.int .u8 0)], .agg [.lit (.int .u8 0), .lit (.int .u8 0)], .agg [.lit (.int .u8 0), .lit (.int .u8 0)], .agg [.lit (.int .u8 0), .lit (.int .u8 0)], .agg [.lit (.int .u8 0), .lit (.int .u8 0)], .agg [.lit (.int .u8 0), .lit (.int .u8 0)], .agg [.lit (.int .u8 0), .lit (.int .u8 0)], .agg [.lit (.int .u8 0), .lit (.int .u8 0)], .agg [.lit (.int .u8 0), .lit (.int .u8 0)]]
/-- One of Go's own tables, pinned by name: the form's constant. -/
def laid_unicode_utf8_first : DataW Unit := Go.Pinned.utf8First

/-- 'strongboxlaw6.NameJoins': WHATEVER THE INPUT: true; the input reads as it did. -/
def nameJoinsSpec : ChangeSpec := { name := "nameJoins", fn := fun _ => fun
  | [d1, d2] => { results := [.lit (.bool true)], args := [d1, d2] }
  | _ => none }
def nameJoinsRow : OpenClaim := { program := "ytdegjlpcbnmhgaadoor", sum := "78eeebb42a65d3d30b33e0216e1ef98cba22d201d74a5e4944de31538ac547fd", func := "strongbox/strongboxlaw6.NameJoins", spec := "nameJoins", named := ["unicode/utf8.first", "unicode/utf8.acceptRanges"], apart := false, laid := [("unicode/utf8.acceptRanges", laid_unicode_utf8_acceptRanges), ("unicode/utf8.first", laid_unicode_utf8_first)] }
def NameJoinsSaid : Prop := nameJoinsRow.holds Tryd.pinned (OpenSpec.ofChange nameJoinsSpec)

/-- ITS FALSE NEIGHBOUR: 'it returns false'. Refute it at one input. -/
def nameJoinsWrong : ChangeSpec := { name := "nameJoins", fn := fun _ => fun
  | [d1, d2] => { results := [.lit (.bool false)], args := [d1, d2] }
  | _ => none }
def NameJoinsWrongFalsely : Prop := nameJoinsRow.holds Tryd.pinned (OpenSpec.ofChange nameJoinsWrong)

/-- 'strongboxlaw6.NameOrder': WHATEVER THE INPUT: true; the input reads as it did. -/
def nameOrderSpec : ChangeSpec := { name := "nameOrder", fn := fun _ => fun
  | [d] => { results := [.lit (.bool true)], args := [d] }
  | _ => none }
def nameOrderRow : OpenClaim := { program := "ytdegjlpcbnmhgaadoor", sum := "78eeebb42a65d3d30b33e0216e1ef98cba22d201d74a5e4944de31538ac547fd", func := "strongbox/strongboxlaw6.NameOrder", spec := "nameOrder", named := ["unicode/utf8.first", "unicode/utf8.acceptRanges"], apart := false, laid := [("unicode/utf8.acceptRanges", laid_unicode_utf8_acceptRanges), ("unicode/utf8.first", laid_unicode_utf8_first)] }
def NameOrderSaid : Prop := nameOrderRow.holds Tryd.pinned (OpenSpec.ofChange nameOrderSpec)

/-- ITS FALSE NEIGHBOUR: 'it returns false'. Refute it at one input. -/
def nameOrderWrong : ChangeSpec := { name := "nameOrder", fn := fun _ => fun
  | [d] => { results := [.lit (.bool false)], args := [d] }
  | _ => none }
def NameOrderWrongFalsely : Prop := nameOrderRow.holds Tryd.pinned (OpenSpec.ofChange nameOrderWrong)

/-- 'strongboxlaw6.NameNexts': WHATEVER THE INPUT: true; the input reads as it did. -/
def nameNextsSpec : ChangeSpec := { name := "nameNexts", fn := fun _ => fun
  | [d1, d2] => { results := [.lit (.bool true)], args := [d1, d2] }
  | _ => none }
def nameNextsRow : OpenClaim := { program := "ytdegjlpcbnmhgaadoor", sum := "78eeebb42a65d3d30b33e0216e1ef98cba22d201d74a5e4944de31538ac547fd", func := "strongbox/strongboxlaw6.NameNexts", spec := "nameNexts", named := ["unicode/utf8.first", "unicode/utf8.acceptRanges"], apart := false, laid := [("unicode/utf8.acceptRanges", laid_unicode_utf8_acceptRanges), ("unicode/utf8.first", laid_unicode_utf8_first)] }
def NameNextsSaid : Prop := nameNextsRow.holds Tryd.pinned (OpenSpec.ofChange nameNextsSpec)

/-- ITS FALSE NEIGHBOUR: 'it returns false'. Refute it at one input. -/
def nameNextsWrong : ChangeSpec := { name := "nameNexts", fn := fun _ => fun
  | [d1, d2] => { results := [.lit (.bool false)], args := [d1, d2] }
  | _ => none }
def NameNextsWrongFalsely : Prop := nameNextsRow.holds Tryd.pinned (OpenSpec.ofChange nameNextsWrong)

/-- 'strongboxlaw6.NameKnown': WHATEVER THE INPUT: true; the input reads as it did. -/
def nameKnownSpec : ChangeSpec := { name := "nameKnown", fn := fun _ => fun
  | [] => { results := [.lit (.bool true)], args := [] }
  | _ => none }
def nameKnownRow : OpenClaim := { program := "ytdegjlpcbnmhgaadoor", sum := "78eeebb42a65d3d30b33e0216e1ef98cba22d201d74a5e4944de31538ac547fd", func := "strongbox/strongboxlaw6.NameKnown", spec := "nameKnown", inPlace := ["internal/bytealg.IndexByteString"], named := ["unicode/utf8.first", "unicode/utf8.acceptRanges"], apart := false, laid := [("unicode/utf8.acceptRanges", laid_unicode_utf8_acceptRanges), ("unicode/utf8.first", laid_unicode_utf8_first)] }
def NameKnownSaid : Prop := nameKnownRow.holds Tryd.pinned (OpenSpec.ofChange nameKnownSpec)

/-- ITS FALSE NEIGHBOUR: 'it returns false'. Refute it at one input. -/
def nameKnownWrong : ChangeSpec := { name := "nameKnown", fn := fun _ => fun
  | [] => { results := [.lit (.bool false)], args := [] }
  | _ => none }
def NameKnownWrongFalsely : Prop := nameKnownRow.holds Tryd.pinned (OpenSpec.ofChange nameKnownWrong)

/-- 'strongboxlaw6.NameLooks': WHATEVER THE INPUT: true; the input reads as it did. -/
def nameLooksSpec : ChangeSpec := { name := "nameLooks", fn := fun _ => fun
  | [d1, d2] => { results := [.lit (.bool true)], args := [d1, d2] }
  | _ => none }
def nameLooksRow : OpenClaim := { program := "ytdegjlpcbnmhgaadoor", sum := "78eeebb42a65d3d30b33e0216e1ef98cba22d201d74a5e4944de31538ac547fd", func := "strongbox/strongboxlaw6.NameLooks", spec := "nameLooks", inPlace := ["internal/bytealg.IndexByteString"], named := ["unicode/utf8.first", "unicode/utf8.acceptRanges"], apart := false, laid := [("unicode/utf8.acceptRanges", laid_unicode_utf8_acceptRanges), ("unicode/utf8.first", laid_unicode_utf8_first)] }
def NameLooksSaid : Prop := nameLooksRow.holds Tryd.pinned (OpenSpec.ofChange nameLooksSpec)

/-- ITS FALSE NEIGHBOUR: 'it returns false'. Refute it at one input. -/
def nameLooksWrong : ChangeSpec := { name := "nameLooks", fn := fun _ => fun
  | [d1, d2] => { results := [.lit (.bool false)], args := [d1, d2] }
  | _ => none }
def NameLooksWrongFalsely : Prop := nameLooksRow.holds Tryd.pinned (OpenSpec.ofChange nameLooksWrong)

/-- 'strongboxlaw6.NamePaths': WHATEVER THE INPUT: true; the input reads as it did. -/
def namePathsSpec : ChangeSpec := { name := "namePaths", fn := fun _ => fun
  | [d1, d2] => { results := [.lit (.bool true)], args := [d1, d2] }
  | _ => none }
def namePathsRow : OpenClaim := { program := "ytdegjlpcbnmhgaadoor", sum := "78eeebb42a65d3d30b33e0216e1ef98cba22d201d74a5e4944de31538ac547fd", func := "strongbox/strongboxlaw6.NamePaths", spec := "namePaths", inPlace := ["internal/bytealg.IndexByteString"], named := ["unicode/utf8.first", "unicode/utf8.acceptRanges"], apart := false, laid := [("unicode/utf8.acceptRanges", laid_unicode_utf8_acceptRanges), ("unicode/utf8.first", laid_unicode_utf8_first)] }
def NamePathsSaid : Prop := namePathsRow.holds Tryd.pinned (OpenSpec.ofChange namePathsSpec)

/-- ITS FALSE NEIGHBOUR: 'it returns false'. Refute it at one input. -/
def namePathsWrong : ChangeSpec := { name := "namePaths", fn := fun _ => fun
  | [d1, d2] => { results := [.lit (.bool false)], args := [d1, d2] }
  | _ => none }
def NamePathsWrongFalsely : Prop := namePathsRow.holds Tryd.pinned (OpenSpec.ofChange namePathsWrong)

/- THE SECOND FORM. 'bulk': how many values and letters a reading holds, each counted each time it is reached (what is shared counts as often as it is met; a slice's spare places count too). A statement '..UptoSaid' is the law's where the arguments, and the package variables that the reading takes, are together of bulk at most 1048576: NARROWER than '..Said'. Prove '..Said' where nothing that the law and all that it calls make is longer than what came in: it says more and counts as full. Else prove '..UptoSaid'. A law counts once. -/
mutual
def uptoBulk {H : Type} : DataW H → Nat
  | .lit (.string bytes) => bytes.length + 1
  | .lit _ => 1
  | .nil => 1
  | .ptr d => uptoBulk d + 1
  | .slice elems spare => uptoBulkAll elems + uptoBulkAll spare + 1
  | .agg parts => uptoBulkAll parts + 1
  | .iface _ d => uptoBulk d + 1
  | .map entries => uptoBulkEntries entries + 1
  | .held _ => 1
def uptoBulkAll {H : Type} : List (DataW H) → Nat
  | [] => 0
  | d :: r => uptoBulk d + uptoBulkAll r
def uptoBulkEntries {H : Type} : List (Lit × DataW H) → Nat
  | [] => 0
  | x :: r => uptoBulkEntry x + uptoBulkEntries r
def uptoBulkEntry {H : Type} : Lit × DataW H → Nat
  | (.string bytes, d) => bytes.length + uptoBulk d + 1
  | (_, d) => uptoBulk d + 1
 end
def uptoSmall : (H : Type) → List (DataW H) → Bool := fun _ ds => decide (uptoBulkAll ds ≤ 1048576)
def OpenSpec.upto (s : _root_.Go.ChangeSpec) : _root_.Go.OpenSpec := { _root_.Go.OpenSpec.ofChange s with cond := some uptoSmall }

/-- 'strongboxlaw6.NameJoins', WHERE WHAT IT READS IS OF BULK AT MOST 1048576: true; the input reads as it did. -/
def nameJoinsUptoRow : OpenClaim := { program := "ytdegjlpcbnmhgaadoor", sum := "78eeebb42a65d3d30b33e0216e1ef98cba22d201d74a5e4944de31538ac547fd", func := "strongbox/strongboxlaw6.NameJoins", spec := "nameJoins", named := ["unicode/utf8.first", "unicode/utf8.acceptRanges"], apart := false, laid := [("unicode/utf8.acceptRanges", laid_unicode_utf8_acceptRanges), ("unicode/utf8.first", laid_unicode_utf8_first)], narrowed := true }
def NameJoinsUptoSaid : Prop := nameJoinsUptoRow.holds Tryd.pinned (OpenSpec.upto nameJoinsSpec)

/-- 'strongboxlaw6.NameOrder', WHERE WHAT IT READS IS OF BULK AT MOST 1048576: true; the input reads as it did. -/
def nameOrderUptoRow : OpenClaim := { program := "ytdegjlpcbnmhgaadoor", sum := "78eeebb42a65d3d30b33e0216e1ef98cba22d201d74a5e4944de31538ac547fd", func := "strongbox/strongboxlaw6.NameOrder", spec := "nameOrder", named := ["unicode/utf8.first", "unicode/utf8.acceptRanges"], apart := false, laid := [("unicode/utf8.acceptRanges", laid_unicode_utf8_acceptRanges), ("unicode/utf8.first", laid_unicode_utf8_first)], narrowed := true }
def NameOrderUptoSaid : Prop := nameOrderUptoRow.holds Tryd.pinned (OpenSpec.upto nameOrderSpec)

/-- 'strongboxlaw6.NameNexts', WHERE WHAT IT READS IS OF BULK AT MOST 1048576: true; the input reads as it did. -/
def nameNextsUptoRow : OpenClaim := { program := "ytdegjlpcbnmhgaadoor", sum := "78eeebb42a65d3d30b33e0216e1ef98cba22d201d74a5e4944de31538ac547fd", func := "strongbox/strongboxlaw6.NameNexts", spec := "nameNexts", named := ["unicode/utf8.first", "unicode/utf8.acceptRanges"], apart := false, laid := [("unicode/utf8.acceptRanges", laid_unicode_utf8_acceptRanges), ("unicode/utf8.first", laid_unicode_utf8_first)], narrowed := true }
def NameNextsUptoSaid : Prop := nameNextsUptoRow.holds Tryd.pinned (OpenSpec.upto nameNextsSpec)

/-- 'strongboxlaw6.NameKnown', WHERE WHAT IT READS IS OF BULK AT MOST 1048576: true; the input reads as it did. -/
def nameKnownUptoRow : OpenClaim := { program := "ytdegjlpcbnmhgaadoor", sum := "78eeebb42a65d3d30b33e0216e1ef98cba22d201d74a5e4944de31538ac547fd", func := "strongbox/strongboxlaw6.NameKnown", spec := "nameKnown", inPlace := ["internal/bytealg.IndexByteString"], named := ["unicode/utf8.first", "unicode/utf8.acceptRanges"], apart := false, laid := [("unicode/utf8.acceptRanges", laid_unicode_utf8_acceptRanges), ("unicode/utf8.first", laid_unicode_utf8_first)], narrowed := true }
def NameKnownUptoSaid : Prop := nameKnownUptoRow.holds Tryd.pinned (OpenSpec.upto nameKnownSpec)

/-- 'strongboxlaw6.NameLooks', WHERE WHAT IT READS IS OF BULK AT MOST 1048576: true; the input reads as it did. -/
def nameLooksUptoRow : OpenClaim := { program := "ytdegjlpcbnmhgaadoor", sum := "78eeebb42a65d3d30b33e0216e1ef98cba22d201d74a5e4944de31538ac547fd", func := "strongbox/strongboxlaw6.NameLooks", spec := "nameLooks", inPlace := ["internal/bytealg.IndexByteString"], named := ["unicode/utf8.first", "unicode/utf8.acceptRanges"], apart := false, laid := [("unicode/utf8.acceptRanges", laid_unicode_utf8_acceptRanges), ("unicode/utf8.first", laid_unicode_utf8_first)], narrowed := true }
def NameLooksUptoSaid : Prop := nameLooksUptoRow.holds Tryd.pinned (OpenSpec.upto nameLooksSpec)

/-- 'strongboxlaw6.NamePaths', WHERE WHAT IT READS IS OF BULK AT MOST 1048576: true; the input reads as it did. -/
def namePathsUptoRow : OpenClaim := { program := "ytdegjlpcbnmhgaadoor", sum := "78eeebb42a65d3d30b33e0216e1ef98cba22d201d74a5e4944de31538ac547fd", func := "strongbox/strongboxlaw6.NamePaths", spec := "namePaths", inPlace := ["internal/bytealg.IndexByteString"], named := ["unicode/utf8.first", "unicode/utf8.acceptRanges"], apart := false, laid := [("unicode/utf8.acceptRanges", laid_unicode_utf8_acceptRanges), ("unicode/utf8.first", laid_unicode_utf8_first)], narrowed := true }
def NamePathsUptoSaid : Prop := namePathsUptoRow.holds Tryd.pinned (OpenSpec.upto namePathsSpec)

end Rows
end Go.Proofs.YtdegjlpcbnmhgaaDoor
