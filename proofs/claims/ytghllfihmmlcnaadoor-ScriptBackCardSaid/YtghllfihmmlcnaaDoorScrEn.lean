/- What the rows lay is what the walks read; a world that meets it. -/
import Derived.Test.YtghllfihmmlcnaaDoorScrC
import Derived.Test.YtghllfihmmlcnaaDoorLaw
import Derived.Stop.LaidErr
import Derived.Lib.LaidTab
import Derived.LaidLaws
namespace Go.Proofs.YtghllfihmmlcnaaDoor
open Go.ChangeShapes Go.WideShapes Go.ChangeAt Go.RowKit

def laid5 : List (String × DataW Unit) := [("math/bits.deBruijn32tab", Rows.laid_math_bits_deBruijn32tab), ("math/bits.deBruijn64tab", Rows.laid_math_bits_deBruijn64tab), ("internal/strconv.uint64pow10", Rows.laid_internal_strconv_uint64pow10), ("strconv.ErrRange", Rows.laid_strconv_ErrRange), ("strconv.ErrSyntax", Rows.laid_strconv_ErrSyntax)]
theorem gTab : Tryd.prog.globalNamed "internal/strconv.uint64pow10" = some 2 := by kernel_rfl
theorem gSyn : Tryd.prog.globalNamed "strconv.ErrSyntax" = some 0 := by kernel_rfl
theorem gRng : Tryd.prog.globalNamed "strconv.ErrRange" = some 1 := by kernel_rfl
theorem gSynType : (Tryd.prog.globals[0]?).map (·.type) = some 79 := by kernel_rfl
theorem gRngType : (Tryd.prog.globals[1]?).map (·.type) = some 79 := by kernel_rfl
theorem gTabType : (Tryd.prog.globals[2]?).map (·.type) = some 120 := by kernel_rfl
theorem cellsES : Tryd.prog.cellsOf 128 = 1 := by kernel_rfl
theorem cellsStr : Tryd.prog.cellsOf 9 = 1 := by kernel_rfl
theorem starES : "*" ++ "errors.errorString" = "*errors.errorString" := by decide
theorem rowES (u : TypeId) (h : Tryd.prog.typeName? 3 u = some "*errors.errorString") : u = 126 :=
  typeName_ptr_named (nm := "errors.errorString") (by rw [starES]; kernel_rfl) (by kernel_rfl) (by decide) u (by rw [starES]; exact h)
theorem tabIs5 : (Rows.laid_internal_strconv_uint64pow10 : DataW Unit) = Lib.tabData .u64 Lib.pow10Tab := by kernel_rfl
theorem env_of5 {W : World} (h : laidMet Tryd.prog laid5 W) : Env W := by
  unfold laid5 at h
  have h3 := h.tail.tail
  rw [tabIs5] at h3
  have hs := laid_sentinel h.tail.tail.tail.tail gSyn gSynType Tryd.underlying79 rowES Tryd.underlying126 Tryd.underlying128 rfl rfl Tryd.underlying9 cellsES cellsStr
  have hr := laid_sentinel h.tail.tail.tail gRng gRngType Tryd.underlying79 rowES Tryd.underlying126 Tryd.underlying128 rfl rfl Tryd.underlying9 cellsES cellsStr
  obtain ⟨a0, s0, hv0, -, -, -⟩ := hs
  obtain ⟨a1, s1, hv1, -, -, -⟩ := hr
  exact ⟨Lib.tabIs_of_head gTab gTabType Tryd.underlying120 Tryd.underlying89 (by kernel_rfl) (by kernel_rfl) h3, ⟨_, _, hv0⟩, ⟨_, _, hv1⟩⟩

theorem own : ownKnob Tryd.prog.godebug = none := by kernel_rfl
theorem laidOut : laidOutB Tryd.prog = true := by kernel_rfl
/-- The cells of a table as it is laid. -/
def tabCells : DataW Unit → Array Value
  | .agg l => (l.map fun x => match x with
    | .lit (.int k n) => Value.int k n
    | _ => .nilIface).toArray
  | _ => #[]
abbrev synS : ByteArray := { data := #[105, 110, 118, 97, 108, 105, 100, 32, 115, 121, 110, 116, 97, 120] }
abbrev rngS : ByteArray := { data := #[118, 97, 108, 117, 101, 32, 111, 117, 116, 32, 111, 102, 32, 114, 97, 110, 103, 101] }
noncomputable def low : Nat := (World.holding Tryd.prog default ⟨#[], #[], []⟩).heap.size
/-- A world for the witness: the variables holding what their initialisers lay. -/
noncomputable def laidWorld (os : Os) : World :=
  let w0 := World.holding Tryd.prog os ⟨#[.cells #[.string synS] 128, .cells #[.string rngS] 128], #[], []⟩
  let put (h : Array Obj) (g : Nat) (cs : Array Value) : Array Obj := h.modify g fun
    | .cells _ t frozen => .cells cs t frozen
    | o => o
  let h1 := put w0.heap 4 (tabCells Rows.laid_math_bits_deBruijn32tab)
  let h2 := put h1 5 (tabCells Rows.laid_math_bits_deBruijn64tab)
  let h3 := put h2 2 (tabCells Rows.laid_internal_strconv_uint64pow10)
  let h4 := put h3 0 #[.iface 126 (.pointer (some ⟨low, 0, none⟩))]
  let h5 := put h4 1 #[.iface 126 (.pointer (some ⟨low + 1, 0, none⟩))]
  { w0 with heap := h5 }
end Go.Proofs.YtghllfihmmlcnaaDoor
