/- Entries as six cells; their order (keys, then the greater id first); what the comparing function of page.Sort answers. -/
import Derived.Test.YtjbjcfnbgcloiaaDoorCb4
import Derived.StillTailTactics
import Derived.Test.YtjbjcfnbgcloiaaDoorLaysS
import Derived.Shelf.SlicesE.Clone
import Derived.Laws.StructEq
import Derived.Deep.AppendLies
import Derived.Laws.ResultCell
set_option linter.unusedSimpArgs false
set_option linter.unusedVariables false

namespace Go.Proofs.YtjbjcfnbgcloiaaDoor
open Go.Shelf Go.RowKit Go.Lib Go.Sort Srt

/-- An entry. -/
structure Ent where
  key : ByteArray
  id : Int
  mark : Bool
  size : Int
  sum : Int
  latest : Bool
deriving Inhabited, DecidableEq

def encE (e : Ent) : List Value := [.string e.key, .int .i64 e.id, .bool e.mark, .int .i64 e.size, .int .u32 e.sum, .bool e.latest]

theorem encE_length (e : Ent) : (encE e).length = 6 := rfl
theorem encE_one (e : Ent) : ∀ v ∈ encE e, v.oneCell' = true := by
  intro v hv
  simp only [encE, List.mem_cons, List.not_mem_nil, or_false] at hv
  rcases hv with rfl | rfl | rfl | rfl | rfl | rfl <;> rfl

theorem less_swap (a b : List UInt8) : (!Op.bytesLess a b && !(a == b)) = Op.bytesLess b a := by
  cases h : Op.bytesLess a b
  · by_cases e : a = b
    · subst e; simp [h]
    · cases h2 : Op.bytesLess b a
      · exact absurd (Nam.less_total a b h h2) e
      · simp [e]
  · rw [Nam.less_asymm a b h]; rfl

def cmpS (a b : ByteArray) : Int := if Op.bytesLess a.toList b.toList then -1 else if Op.bytesLess b.toList a.toList then 1 else 0
def cmpI (a b : Int) : Int := if a < b then -1 else if b < a then 1 else 0
def cfE (x y : Ent) : Int := if cmpS x.key y.key ≠ 0 then cmpS x.key y.key else cmpI y.id x.id

set_option maxHeartbeats 1000000 in
theorem nanS_is (a : ByteArray) (w : World) : Calls Tryd.prog 91 #[.string a] w fun e w' => e = .returned (.bool false) ∧ w = w' := by
  go_enter Tryd.func91, Tryd.ntmps91
  go_wp2
  go_ret
  exact ⟨congrArg (fun x => Ending.returned (Value.bool x)) (by simp), rfl⟩
set_option maxHeartbeats 1000000 in
theorem nanI_is (a : Int) (w : World) : Calls Tryd.prog 92 #[.int .i64 a] w fun e w' => e = .returned (.bool false) ∧ w = w' := by
  go_enter Tryd.func92, Tryd.ntmps92
  go_wp2
  go_ret
  exact ⟨congrArg (fun x => Ending.returned (Value.bool x)) (by simp), rfl⟩

set_option maxHeartbeats 1000000 in
theorem cmpS_is (a b : ByteArray) (w : World) : Calls Tryd.prog 75 #[.string a, .string b] w fun e w' => e = .returned (.int .i64 (cmpS a b)) ∧ w = w' := by
  unfold cmpS
  have hgt : ∀ (t : TypeId) (W : World), (binOp .gtr t (.string a) (.string b)).run Tryd.prog W = .ok (.bool (Op.bytesLess b.toList a.toList)) W := fun t W => by
    rw [← less_swap]
    simp [binOp, Op.stringOp]
  cases h1 : Op.bytesLess a.toList b.toList <;> cases h2 : Op.bytesLess b.toList a.toList
  all_goals
    go_enter Tryd.func75, Tryd.ntmps75
    go_wp2_with (first | (go_at_call_of 91 (Value.string a); refine (nanS_is _ _).mono ?_; rintro e w' ⟨rfl, rfl⟩) | (go_at_call 91; refine (nanS_is _ _).mono ?_; rintro e w' ⟨rfl, rfl⟩))
    go_ret
    exact ⟨rfl, rfl⟩

set_option maxHeartbeats 1000000 in
theorem cmpI_is (a b : Int) (w : World) : Calls Tryd.prog 76 #[.int .i64 a, .int .i64 b] w fun e w' => e = .returned (.int .i64 (cmpI a b)) ∧ w = w' := by
  unfold cmpI
  by_cases h1 : a < b <;> by_cases h2 : b < a
  all_goals (try (exfalso; omega))
  all_goals
    simp only [h1, h2, if_true, if_false]
    go_enter Tryd.func76, Tryd.ntmps76
    go_wp2_with (first | (go_at_call 92; refine (nanI_is _ _).mono ?_; rintro e w' ⟨rfl, rfl⟩))
    go_ret
    exact ⟨rfl, rfl⟩

set_option maxHeartbeats 1000000 in
theorem or_is (g c : Nat) (x y : Int) (w : World) (h0 : w.cell? ⟨g, 0, none⟩ = some (.int .i64 x)) (h1 : w.cell? ⟨g, 1, none⟩ = some (.int .i64 y)) :
    Calls Tryd.prog 74 #[.slice (some ⟨g, 0, none⟩) 2 c] w fun e w' => e = .returned (.int .i64 (if x ≠ 0 then x else y)) ∧ w = w' := by
  by_cases hx : x = 0
  · have bx : (x != 0) = false := by simp [hx]
    rw [if_neg (by simp [hx])]
    by_cases hy : y = 0
    · have by' : (y != 0) = false := by simp [hy]
      have HX := Lib.hid hx; clear hx
      have HY := Lib.hid hy; clear hy
      go_enter Tryd.func74, Tryd.ntmps74
      go_wp2_with fail
      refine wp_loop_rounds 3 ?_
      rw [rounds_succ]
      go_wp2_with fail
      rw [rounds_succ]
      go_wp2_with fail
      rw [rounds_succ]
      go_wp2
      go_ret
      exact ⟨congrArg (fun x => Ending.returned (Value.int .i64 x)) HY.out.symm, rfl⟩
    · have by' : (y != 0) = true := by simp [hy]
      have HX := Lib.hid hx; clear hx
      go_enter Tryd.func74, Tryd.ntmps74
      go_wp2_with fail
      refine wp_loop_rounds 2 ?_
      rw [rounds_succ]
      go_wp2_with fail
      rw [rounds_succ]
      go_wp2
      go_ret
      exact ⟨rfl, rfl⟩
  · have bx : (x != 0) = true := by simp [hx]
    rw [if_pos hx]
    go_enter Tryd.func74, Tryd.ntmps74
    go_wp2_with fail
    refine wp_loop_rounds 1 ?_
    rw [rounds_succ]
    go_wp2
    go_ret
    exact ⟨rfl, rfl⟩

theorem three_grown (w : World) (A B C : Obj) : ((w.alloc A).alloc B).drew.alloc C = grow (w.drewN 1) #[A, B, C] := by
  rw [alloc_eq_grow, alloc_eq_grow, alloc_eq_grow, drew_grow, drew_grow, grow_grow, grow_grow]
  rfl

set_option maxRecDepth 100000 in
set_option maxHeartbeats 2000000 in
theorem cmpE_is (x y : Ent) (w : World) : Calls Tryd.prog 73 #[.agg (encE x).toArray, .agg (encE y).toArray] w fun e w' => e = .returned (.int .i64 (cfE x y)) ∧ ∃ q os, w' = grow (w.drewN q) os := by
  obtain ⟨k1, i1, m1, s1, u1, l1⟩ := x
  obtain ⟨k2, i2, m2, s2, u2, l2⟩ := y
  unfold encE cfE
  obtain ⟨cs, hcs⟩ : ∃ c, cmpS k1 k2 = c := ⟨_, rfl⟩
  obtain ⟨ci, hci⟩ : ∃ c, cmpI i2 i1 = c := ⟨_, rfl⟩
  have c1 : ∀ W : World, Calls Tryd.prog 75 #[.string k1, .string k2] W fun e w' => e = .returned (.int .i64 cs) ∧ W = w' := fun W => by rw [← hcs]; exact cmpS_is k1 k2 W
  have c2 : ∀ W : World, Calls Tryd.prog 76 #[.int .i64 i2, .int .i64 i1] W fun e w' => e = .returned (.int .i64 ci) ∧ W = w' := fun W => by rw [← hci]; exact cmpI_is i2 i1 W
  simp only [hcs, hci]
  have C1 := Lib.hid c1; clear c1
  have C2 := Lib.hid c2; clear c2
  clear hcs hci
  obtain ⟨r, hr⟩ : ∃ r, (if cs ≠ 0 then cs else ci) = r := ⟨_, rfl⟩
  have CO : Hid (∀ W2 : World, Calls Tryd.prog 74 #[.slice (some ⟨W2.heap.size, 0, none⟩) 2 2] (W2.alloc (.cells #[.int .i64 cs, .int .i64 ci] 3)) fun e w' => e = .returned (.int .i64 r) ∧ W2.alloc (.cells #[.int .i64 cs, .int .i64 ci] 3) = w') := by
    intro W2
    rw [← hr]
    exact or_is _ 2 cs ci _ (by simp) (by simp)
  rw [hr]
  clear hr
  go_enter Tryd.func73, Tryd.ntmps73
  go_wp2_with fail
  refine wp_region_still_tail 12 (by kernel_rfl) (by kernel_rfl) ?_
  change wpStill _ _ (World.drew _) (fun a' => wpList _ _ _ _ a' (World.drew _)) _ _
  generalize hW : World.drew _ = W2
  have c00 : W2.cell? ⟨w.heap.size, 0, none⟩ = some (.string k1) := by rw [← hW]; simp
  have c01 : W2.cell? ⟨w.heap.size, 1, none⟩ = some (.int .i64 i1) := by rw [← hW]; simp
  have c10 : W2.cell? ⟨w.heap.size + 1, 0, none⟩ = some (.string k2) := by rw [← hW]; simp
  have c11 : W2.cell? ⟨w.heap.size + 1, 1, none⟩ = some (.int .i64 i2) := by rw [← hW]; simp
  have HW := Lib.hid hW; clear hW
  simp only [List.take_succ_cons, List.take_zero, List.drop_succ_cons, List.drop_zero]
  iterate 4 still_step
  still_call ((C1.out _).mono (fun e w' ⟨h1, h2⟩ => ⟨h1, h2.symm⟩))
  iterate 6 still_step
  still_call ((C2.out _).mono (fun e w' ⟨h1, h2⟩ => ⟨h1, h2.symm⟩))
  refine wpStill_nil ?_
  go_wp2_with (go_at_call 74; refine (CO.out _).mono ?_; rintro e w' ⟨rfl, rfl⟩)
  go_ret
  obtain ⟨A, B, hA⟩ : ∃ A B, W2 = ((w.alloc A).alloc B).drew := ⟨_, _, HW.out.symm⟩
  have e := three_grown w A B (.cells #[.int .i64 cs, .int .i64 ci] 3)
  rw [← hA] at e
  exact ⟨rfl, 1, _, e⟩

/-- .. so page.Sort's comparing function does what the sort asks of it. -/
theorem cmpE_lays (blk off size : Nat) (w : World) : CmpLays Tryd.prog 73 #[] encE 6 cfE blk off size w := fun _ _ _ _ x y => cmpE_is x y _

/-! ### the order -/
theorem cmpS_neg (a b : ByteArray) : cmpS a b < 0 ↔ Op.bytesLess a.toList b.toList = true := by
  unfold cmpS
  cases Op.bytesLess a.toList b.toList <;> cases Op.bytesLess b.toList a.toList <;> simp
theorem cmpS_zero (a b : ByteArray) : cmpS a b = 0 ↔ a = b := by
  unfold cmpS
  constructor
  · intro h
    cases h1 : Op.bytesLess a.toList b.toList
    · cases h2 : Op.bytesLess b.toList a.toList
      · have := Nam.less_total _ _ h1 h2
        apply ByteArray.ext
        apply Array.toList_inj.1
        rw [← ByteArray.toList_eq, ← ByteArray.toList_eq, this]
      · rw [h1, h2] at h; simp at h
    · rw [h1] at h; simp at h
  · rintro rfl
    rw [Nam.less_irrefl]; rfl

theorem ltE_iff (x y : Ent) : ltOf cfE x y = true ↔ Op.bytesLess x.key.toList y.key.toList = true ∨ (x.key = y.key ∧ y.id < x.id) := by
  unfold ltOf cfE
  rw [decide_eq_true_eq]
  by_cases h : cmpS x.key y.key = 0
  · have e := (cmpS_zero _ _).1 h
    rw [if_neg (by simpa using h), e, Nam.less_irrefl]
    unfold cmpI
    constructor
    · intro h1
      refine .inr ⟨rfl, ?_⟩
      by_cases c : y.id < x.id
      · exact c
      · rw [if_neg c] at h1
        split at h1 <;> simp at h1
    · rintro (h1 | ⟨_, h1⟩)
      · cases h1
      · rw [if_pos h1]; decide
  · rw [if_pos h, cmpS_neg]
    constructor
    · exact .inl
    · rintro (h1 | ⟨h1, _⟩)
      · exact h1
      · exact absurd ((cmpS_zero _ _).2 h1) h
theorem ltE_not (x y : Ent) : ltOf cfE x y = false ↔ Op.bytesLess y.key.toList x.key.toList = true ∨ (x.key = y.key ∧ x.id ≤ y.id) := by
  rw [← Bool.not_eq_true, ltE_iff]
  constructor
  · intro h
    cases h2 : Op.bytesLess y.key.toList x.key.toList
    · right
      cases h1 : Op.bytesLess x.key.toList y.key.toList
      · have e : x.key = y.key := (cmpS_zero _ _).1 (by unfold cmpS; rw [h1, h2]; rfl)
        exact ⟨e, Int.not_lt.1 (fun c => h (.inr ⟨e, c⟩))⟩
      · exact absurd (.inl h1) h
    · exact .inl rfl
  · rintro (h | ⟨h1, h2⟩) (h3 | ⟨h3, h4⟩)
    · rw [Nam.less_asymm _ _ h] at h3; cases h3
    · rw [h3, Nam.less_irrefl] at h; cases h
    · rw [h1, Nam.less_irrefl] at h3; cases h3
    · omega

theorem swoE : SWO (ltOf cfE) where
  irrefl x := (ltE_not x x).2 (.inr ⟨rfl, Int.le_refl _⟩)
  trans x y z h1 h2 := by
    rw [ltE_iff] at h1 h2 ⊢
    rcases h1 with h1 | ⟨e1, h1⟩ <;> rcases h2 with h2 | ⟨e2, h2⟩
    · exact .inl (Nam.less_trans _ _ _ h1 h2)
    · exact .inl (by rw [← e2]; exact h1)
    · exact .inl (by rw [e1]; exact h2)
    · exact .inr ⟨e1.trans e2, by omega⟩
  ntrans x y z h1 h2 := by
    rw [ltE_not] at h1 h2 ⊢
    rcases h1 with h1 | ⟨e1, h1⟩ <;> rcases h2 with h2 | ⟨e2, h2⟩
    · exact .inl (Nam.less_trans _ _ _ h2 h1)
    · exact .inl (by rw [← e2]; exact h1)
    · exact .inl (by rw [e1]; exact h2)
    · exact .inr ⟨e1.trans e2, by omega⟩
end Go.Proofs.YtjbjcfnbgcloiaaDoor

/- Entries sorted, asks: the page texts merged (pgm.py). -/
namespace Go.Proofs.YtjbjcfnbgcloiaaDoor
open Go.Shelf Go.RowKit Go.Lib Go.Sort Srt

/-- A slice that holds these entries (nil: none). -/
def RowE (W : World) (v : Value) (l : List Ent) : Prop :=
  (v = .slice none 0 0 ∧ l = []) ∨ ∃ b o cap, v = .slice (some ⟨b, o, none⟩) l.length cap ∧ b < W.heap.size ∧ ∀ j u, (l.flatMap encE)[j]? = some u → W.cell? ⟨b, o + j, none⟩ = some u
theorem RowE.below {W W' : World} {v : Value} {l : List Ent} (h : RowE W v l) (hb : Below W.heap.size W W') : RowE W' v l := by
  rcases h with h | ⟨b, o, cap, hv, hlt, hc⟩
  · exact .inl h
  · refine .inr ⟨b, o, cap, hv, Nat.lt_of_lt_of_le hlt hb.size, fun j u hj => ?_⟩
    rw [hb.cell (p := ⟨b, o + j, none⟩) hlt]
    exact hc j u hj
theorem flat_length (l : List Ent) : (l.flatMap encE).length = l.length * 6 := by
  induction l with
  | nil => rfl
  | cons x t ih => rw [List.flatMap_cons, List.length_append, ih, encE_length, List.length_cons]; omega
theorem flat_get : ∀ (l : List Ent) (i c : Nat), i < l.length → c < 6 → (l.flatMap encE)[i * 6 + c]? = (encE (l.getD i default))[c]?
  | [], i, c, h, _ => by simp at h
  | x :: t, 0, c, _, hc => by
    rw [List.flatMap_cons, Nat.zero_mul, Nat.zero_add, List.getElem?_append_left (by rw [encE_length]; exact hc)]
    rfl
  | x :: t, i + 1, c, h, hc => by
    rw [List.flatMap_cons, List.getElem?_append_right (by rw [encE_length]; omega), encE_length, show (i + 1) * 6 + c - 6 = i * 6 + c by omega, flat_get t i c (by simpa using h) hc]
    rfl
theorem flat_flatK (l : List Ent) (j : Nat) (hj : j < l.length * 6) : (l.flatMap encE)[j]? = some ((flatK encE 6 l.toArray)[j]!) := by
  rw [get_flatK _ _ _ _ (by simpa using hj)]
  have h1 : j / 6 < l.length := by omega
  have e : j = j / 6 * 6 + j % 6 := by omega
  conv => lhs; rw [e]
  rw [flat_get l (j / 6) (j % 6) h1 (Nat.mod_lt _ (by omega))]
  have e2 : l.toArray[j / 6]! = l.getD (j / 6) default := by simp [h1]
  rw [e2]
  have h6 : j % 6 < (encE (l.getD (j / 6) default)).length := by rw [encE_length]; exact Nat.mod_lt _ (by omega)
  rw [List.getElem?_eq_getElem h6, getElem!_pos (encE (l.getD (j / 6) default)) (j % 6) h6]
/-- A world of the sort's, seen from below. -/
theorem below_swk {k : Nat} {α : Type} [Inhabited α] {enc : α → List Value} {B : Nat} {a w w' : World} {g off : Nat} {d : Array α} (h : Below B a w) (hB : B ≤ w.heap.size) (hg : B ≤ g) (hs : SWK enc k w g off d w') : Below B a w' := by
  obtain ⟨n, os, rfl⟩ := hs
  refine ⟨h.os, h.tape, h.output, ?_, fun j hj => ?_⟩
  · unfold sortWorldK
    rw [size_grow, size_putRowK]
    exact Nat.le_trans h.size (Nat.le_add_right _ _)
  · unfold sortWorldK
    have e1 : j < (putRowK enc k (Sort.ahead w n) g off d).heap.size := by rw [size_putRowK]; exact Nat.lt_of_lt_of_le hj hB
    rw [heap_grow_old _ _ e1]
    unfold putRowK putRow mapBlock
    simp only [Array.getElem?_modify]
    rw [if_neg (by omega)]
    exact h.block j hj
/-- The entries in the page's order. -/
def SortedE (l : List Ent) : Prop := l.Pairwise (fun x y => ltOf cfE y x = false)
theorem sortedE_of {d : Array Ent} (h : SortedIn (ltOf cfE) 0 d.size d) : SortedE d.toList := by
  unfold SortedE
  rw [List.pairwise_iff_getElem]
  intro i j hi hj hij
  have := h i j (Nat.zero_le _) hij (by simpa using hj)
  rw [getElem!_pos d j (by simpa using hj), getElem!_pos d i (by simpa using hi)] at this
  simpa using this
theorem perm_of {d d' : Array Ent} (h : PermIn 0 d.size d d') : d'.toList.Perm d.toList := by
  have := h.2.2
  rw [Array.extract_size, show d.size = d'.size from h.1.symm, Array.extract_size] at this
  exact this
/-- One order alone is sorted, if no two are of one key and one id. -/
theorem sortedE_unique {l m : List Ent} (h : ∀ x ∈ l, ∀ y ∈ l, x.key = y.key → x.id = y.id → x = y) (hp : l.Perm m) (h1 : SortedE l) (h2 : SortedE m) : l = m := by
  refine List.Perm.eq_of_pairwise (le := fun x y => ltOf cfE y x = false) ?_ h1 h2 hp
  intro x y hx hy hxy hyx
  have hy' := hp.symm.subset hy
  rw [ltE_not] at hxy hyx
  rcases hxy with c | ⟨c1, c2⟩
  · rcases hyx with e | ⟨e1, _⟩
    · rw [Nam.less_asymm _ _ c] at e; cases e
    · rw [e1, Nam.less_irrefl] at c; cases c
  · rcases hyx with e | ⟨e1, e2⟩
    · rw [c1, Nam.less_irrefl] at e; cases e
    · exact h x hx y hy' e1 (by omega)
/-- The library's insertion sort, at the entries. -/
theorem insE_is {w0 : World} {blk off : Nat} {d0 : Array Ent} (hH : HoldsK encE 6 w0 blk off d0) (hblk : blk < w0.heap.size) (hsz : d0.size < 1152921504606846976) (cap : Nat) (a b : Nat) (d : Array Ent) (W : World)
    (h : SWK encE 6 w0 blk off d W) (hs : d.size = d0.size) (hab : a ≤ b) (hb : b ≤ d0.size) :
    Calls Tryd.prog 99 #[.slice (some ⟨blk, off, none⟩) d0.size cap, .int .i64 a, .int .i64 b, .func (.func 73) #[] #[]] W fun e w' => e = .returned (.tuple #[]) ∧
      ∃ d' : Array Ent, SWK encE 6 w0 blk off d' w' ∧ d'.size = d0.size ∧ PermIn a b d d' ∧ SortedIn (ltOf cfE) a b d' := by
  have hHd := h.holds hblk hH hs
  have key := AnyQ.insertionSortCmpFunc Tryd.insE 6 Tryd.isAgg49 Tryd.sizeOf49 encE encE_length encE_one cfE 73 #[] blk off cap a b d W (enters_of Tryd.func73 (by kernel_rfl) rfl) (cmpE_lays _ _ _ _) hHd (h.lt hblk) hab (by omega) (by omega)
  rw [hs] at key
  refine Calls.mono key ?_
  rintro e w' ⟨rfl, n, os, rfl⟩
  obtain ⟨p1, p2⟩ := insertionSort_holds swoE d a b hab (by omega)
  exact ⟨rfl, _, h.on hblk n _ os p1.1, p1.1.trans hs, p1, p2⟩
set_option maxHeartbeats 1000000 in
/-- .. at no element. -/
theorem insE_none (v : Value) (g : Nat) (w : World) : Calls Tryd.prog 99 #[v, .int .i64 0, .int .i64 0, .func (.func g) #[] #[]] w fun e w' => e = .returned (.tuple #[]) ∧ w = w' := by
  go_enter Tryd.func99, Tryd.ntmps99
  go_wp2_with fail
  refine wp_loop_rounds 1 ?_
  rw [rounds_succ]
  go_wp2
  go_end0
  exact ⟨rfl, rfl⟩
set_option maxHeartbeats 1000000 in
theorem stableE_none (v : Value) (g : Nat) (w : World) : Calls Tryd.prog 90 #[v, .int .i64 0, .func (.func g) #[] #[]] w fun e w' => e = .returned (.tuple #[]) ∧ w = w' := by
  go_enter Tryd.func90, Tryd.ntmps90
  go_wp2_with fail
  refine wp_loop_rounds 1 ?_
  rw [rounds_succ]
  go_wp2_with (go_at_call 99; refine (insE_none _ _ _).mono ?_; rintro e w' ⟨rfl, rfl⟩)
  refine wp_loop_rounds 1 ?_
  rw [rounds_succ]
  go_wp2
  go_end0
  exact ⟨rfl, rfl⟩
set_option maxHeartbeats 1000000 in
theorem sortF_of (p : Option Addr) (n cap g : Nat) (w : World) (R : World → Prop)
    (h : Calls Tryd.prog 90 #[.slice p n cap, .int .i64 n, .func (.func g) #[] #[]] w fun e w' => e = .returned (.tuple #[]) ∧ R w') :
    Calls Tryd.prog 72 #[.slice p n cap, .func (.func g) #[] #[]] w fun e w' => e = .returned (.tuple #[]) ∧ R w' := by
  have H := Lib.hid h; clear h
  go_enter Tryd.func72, Tryd.ntmps72
  go_wp2_with (go_at_call 90; refine H.out.mono ?_; rintro e w' ⟨rfl, hR⟩)
  go_end0
  exact ⟨rfl, hR⟩
/-- slices.Clone at the entries. -/
theorem cloneE_is (l : List Ent) (hl : l.length ≤ 1000000) (v : Value) (w : World) (h : RowE w v l) :
    Calls Tryd.prog 71 #[v] w fun e w' =>
      ∃ v', e = .returned v' ∧ w'.ownsRow w.heap.size 49 6 v' l.length (l.flatMap encE) ∧ Below w.heap.size w w' := by
  obtain ⟨i0, hi, hz0, hz1, hz2⟩ := info_parts (show (Tryd.prog.info? 49).map (fun i => (i.zero, i.size, i.bytes)) = some (some (.agg #[.string ⟨#[]⟩, .int .i64 0, .bool false, .int .i64 0, .int .u32 0, .bool false]), 6, 56) by kernel_rfl)
  rcases h with ⟨rfl, rfl⟩ | ⟨b, o, cap, rfl, hb, hc⟩
  · have key := AnyE.slices_Clone_nil Tryd.cloneE 0 0 w
    refine Calls.mono key ?_
    rintro e w' ⟨rfl, rfl⟩
    exact ⟨_, rfl, ⟨rfl, .inl ⟨rfl, rfl⟩⟩, Below.refl _ _⟩
  · have key := AnyE.slices_Clone Tryd.cloneE i0 _ 6 56 hi hz0 hz1 hz2 rfl (by omega) Tryd.sizeOf49 b o l.length cap (l.flatMap encE) w (flat_length l) (by unfold maxLen; omega) (by omega) hc (by
      intro u hu
      obtain ⟨x, _, hx⟩ := List.mem_flatMap.1 hu
      exact encE_one x u hx)
    refine Calls.mono key ?_
    rintro e w' ⟨v', rfl, h1, _, h2⟩
    exact ⟨v', rfl, h1, h2⟩
set_option maxHeartbeats 2000000 in
theorem psort_is (l : List Ent) (hl : l.length ≤ 1000000) (v : Value) (w : World) (h : RowE w v l) :
    Calls Tryd.prog 64 #[v] w fun e w' => ∃ v' l', e = .returned v' ∧ RowE w' v' l' ∧ l'.Perm l ∧ SortedE l' ∧ (∀ b o n c, v' = .slice (some ⟨b, o, none⟩) n c → w.heap.size ≤ b) ∧ Below w.heap.size w w' := by
  have HC := Lib.hid (cloneE_is l hl v w h)
  clear h
  go_enter Tryd.func64, Tryd.ntmps64
  go_wp2_with fail
  refine HC.out.mono ?_
  rintro e w1 ⟨v1, rfl, hown, hb1⟩
  by_cases h0 : l.length = 0
  · have hl0 : l = [] := List.length_eq_zero_iff.1 h0
    subst hl0
    obtain ⟨p, c, hv1, hR, hfr⟩ : ∃ p c, v1 = .slice p 0 c ∧ RowE w1 v1 [] ∧ ∀ b o n c, v1 = .slice (some ⟨b, o, none⟩) n c → w.heap.size ≤ b := by
      rcases hown.2 with ⟨h1, _⟩ | ⟨g, cap, cur, h1, h2, h3, _⟩
      · exact ⟨none, 0, h1, .inl ⟨h1, rfl⟩, fun b o n c h => by rw [h1] at h; cases h⟩
      · exact ⟨_, _, h1, .inr ⟨g, 0, cap, h1, (Array.getElem?_eq_some_iff.1 h3).1, fun j u hj => by simp at hj⟩, fun b o n c h => by rw [h1] at h; cases h; exact h2⟩
    subst hv1
    have c := Lib.hid (sortF_of p 0 c 73 w1 (fun w' => w1 = w') (stableE_none _ _ _))
    clear hown HC h0
    go_wp2_with (go_at_call 72; refine c.out.mono ?_; rintro e w' ⟨rfl, rfl⟩)
    go_ret
    exact ⟨_, [], rfl, hR, List.Perm.refl _, List.Pairwise.nil, hfr, hb1⟩
  · obtain ⟨g, cap, cur, hv1, hg, hhp, hcap⟩ : ∃ g cap cur, v1 = .slice (some ⟨g, 0, none⟩) l.length cap ∧ w.heap.size ≤ g ∧ w1.heap[g]? = some (.cells cur 49 (0, 0)) ∧ True := by
      rcases hown.2 with ⟨_, h1⟩ | ⟨g, cap, cur, h1, h2, h3, _⟩
      · omega
      · exact ⟨g, cap, cur, h1, h2, h3, trivial⟩
    subst hv1
    have hgl : g < w1.heap.size := (Array.getElem?_eq_some_iff.1 hhp).1
    have hH : HoldsK encE 6 w1 g 0 l.toArray := by
      intro j hj
      rw [size_flatK] at hj
      have hj' : j < l.length * 6 := by simpa using hj
      rw [Nat.zero_add]
      exact ⟨by rw [hown.cellAt j hj', flat_flatK l j hj']; rfl, hown.frozenAt j⟩
    have R : RowK encE 6 w1 g 0 l.toArray := ⟨encE_length, encE_one, hH, hgl⟩
    have hsz : l.toArray.size < 1152921504606846976 := by simp; omega
    have st := stable_is stb R cfE 73 #[] (enters_of Tryd.func73 (by kernel_rfl) rfl) (cmpE_lays _ _ _ _) swoE hsz cap (enters_of Tryd.func99 (by kernel_rfl) rfl) (fun a b d W => insE_is hH hgl hsz cap a b d W) (SWK.start hH) rfl
    rw [show l.toArray.size = l.length by simp] at st
    have c := Lib.hid (sortF_of _ _ _ _ _ _ st)
    have hB : w.heap.size ≤ w1.heap.size := hb1.size
    have HH := Lib.hid hH
    clear hown HC h0 hhp st hH R hsz
    go_wp2_with (go_at_call 72; refine c.out.mono ?_; rintro e w' ⟨rfl, d', hS, hz, hP, hD⟩)
    go_ret
    have hz' : d'.size = l.toArray.size := by simpa using hz
    have hHd := hS.holds hgl HH.out hz'
    refine ⟨_, d'.toList, rfl, .inr ⟨g, 0, cap, by simp [hz], Nat.lt_of_lt_of_le hgl hS.le, fun j u hj => ?_⟩, ?_, ?_, fun b o n c h => by cases h; exact hg, below_swk hb1 hB hg hS⟩
    · have hj' : j < d'.toList.length * 6 := by
        rw [← flat_length]
        exact (List.getElem?_eq_some_iff.1 hj).1
      rw [flat_flatK _ _ hj'] at hj
      injection hj with hj
      have := (hHd j (by rw [size_flatK]; simpa using hj')).1
      rw [this, ← hj]
      rfl
    · have := perm_of (d := l.toArray) (d' := d') (by rw [show l.toArray.size = l.length by simp]; exact hP)
      simpa using this
    · exact sortedE_of (by rw [hz]; exact hD)
end Go.Proofs.YtjbjcfnbgcloiaaDoor

namespace Go.Proofs.YtjbjcfnbgcloiaaDoor
open Go.Shelf Go.RowKit Go.Lib

/-- The cells of entry i. -/
structure AtE (W : World) (b p : Nat) (e : Ent) : Prop where
  key : W.cell? ⟨b, p, none⟩ = some (.string e.key)
  id : W.cell? ⟨b, p + 1, none⟩ = some (.int .i64 e.id)
  mark : W.cell? ⟨b, p + 2, none⟩ = some (.bool e.mark)
  size : W.cell? ⟨b, p + 3, none⟩ = some (.int .i64 e.size)
  sum : W.cell? ⟨b, p + 4, none⟩ = some (.int .u32 e.sum)
  latest : W.cell? ⟨b, p + 5, none⟩ = some (.bool e.latest)
theorem at_of {W : World} {b o : Nat} {l : List Ent} (hc : ∀ j u, (l.flatMap encE)[j]? = some u → W.cell? ⟨b, o + j, none⟩ = some u) (i : Nat) (hi : i < l.length) : AtE W b (o + i * 6) l[i] := by
  have h : ∀ c, c < 6 → ∀ u, (encE l[i])[c]? = some u → W.cell? ⟨b, o + i * 6 + c, none⟩ = some u := fun c hc6 u hu => by
    rw [Nat.add_assoc]
    refine hc _ _ ?_
    rw [flat_get l i c hi hc6, List.getD_eq_getElem?_getD, List.getElem?_eq_getElem hi]
    exact hu
  exact ⟨h 0 (by omega) _ rfl, h 1 (by omega) _ rfl, h 2 (by omega) _ rfl, h 3 (by omega) _ rfl, h 4 (by omega) _ rfl, h 5 (by omega) _ rfl⟩
end Go.Proofs.YtjbjcfnbgcloiaaDoor

namespace Go.Proofs.YtjbjcfnbgcloiaaDoor
open Go.Shelf Go.RowKit Go.Lib

theorem list_inj_data {a b : ByteArray} (h : a.toList = b.toList) : a = b := by
  rw [ByteArray.toList_eq, ByteArray.toList_eq] at h
  exact ByteArray.ext (Array.toList_inj.1 h)
theorem len_of_row {W : World} {v : Value} {l : List Ent} (h : RowE W v l) : ∃ p c, v = .slice p l.length c ∧ (0 < l.length → ∃ b o, p = some ⟨b, o, none⟩ ∧ b < W.heap.size ∧ ∀ j u, (l.flatMap encE)[j]? = some u → W.cell? ⟨b, o + j, none⟩ = some u) := by
  rcases h with ⟨rfl, rfl⟩ | ⟨b, o, cap, rfl, hb, hc⟩
  · exact ⟨none, 0, rfl, fun h => by simp at h⟩
  · exact ⟨_, cap, rfl, fun _ => ⟨b, o, rfl, hb, hc⟩⟩
end Go.Proofs.YtjbjcfnbgcloiaaDoor

namespace Go.Proofs.YtjbjcfnbgcloiaaDoor
open Go.Shelf Go.RowKit Go.Lib

/-- What a fair entry is, beside the first k of the row. -/
structure FairAt (l : List Ent) (i k : Nat) : Prop where
  apart : ∀ j, j < k → j ≠ i → (l.getD j default).key = (l.getD i default).key → (l.getD j default).id ≠ (l.getD i default).id
/-- Is it the greatest of its key, beside the first k? -/
def MostAt (l : List Ent) (i k : Nat) : Prop := ∀ j, j < k → j ≠ i → (l.getD j default).key = (l.getD i default).key → (l.getD j default).id < (l.getD i default).id
structure FairI (l : List Ent) (i : Nat) : Prop where
  key : (l.getD i default).key ≠ ⟨#[]⟩
  id : 0 ≤ (l.getD i default).id
  apart : FairAt l i l.length
  latest : (l.getD i default).latest = true ↔ MostAt l i l.length
def FairP (l : List Ent) : Prop := ∀ i, i < l.length → FairI l i
end Go.Proofs.YtjbjcfnbgcloiaaDoor

namespace Go.Proofs.YtjbjcfnbgcloiaaDoor
open Go.Shelf Go.RowKit Go.Lib

/-- A question. -/
structure AskV where
  pre : ByteArray
  fr : ByteArray
  fid : Int
  most : Int
deriving Inhabited
def encA (q : AskV) : List Value := [.string q.pre, .string q.fr, .int .i64 q.fid, .int .i64 q.most]
/-- A box that holds it. -/
structure AskAt (W : World) (a : Nat) (q : AskV) : Prop where
  lt : a < W.heap.size
  pre : W.cell? ⟨a, 0, none⟩ = some (.string q.pre)
  fr : W.cell? ⟨a, 1, none⟩ = some (.string q.fr)
  fid : W.cell? ⟨a, 2, none⟩ = some (.int .i64 q.fid)
  most : W.cell? ⟨a, 3, none⟩ = some (.int .i64 q.most)
def objB (q : AskV) (x : Ent) : Bool := x.latest && !x.mark && (q.fr.toList.isEmpty || Op.bytesLess q.fr.toList x.key.toList)
def verB (q : AskV) (x : Ent) : Bool := q.fr.toList.isEmpty || Op.bytesLess q.fr.toList x.key.toList || (x.key.toList == q.fr.toList && decide (x.id < q.fid))
set_option maxHeartbeats 2000000 in
theorem objB_is (q : AskV) (x : Ent) (a : Nat) (w : World) (h : AskAt w a q) :
    Calls Tryd.prog 52 #[.agg (encE x).toArray, .pointer (some ⟨a, 0, none⟩)] w fun e w' => e = .returned (.bool (objB q x)) ∧ Below w.heap.size w w' := by
  obtain ⟨k1, i1, m1, s1, u1, l1⟩ := x
  unfold encE objB
  have ca : ∀ o, (w.alloc o).cell? ⟨a, 1, none⟩ = some (.string q.fr) := fun o => by rw [World.cell?_alloc_lt _ _ _ h.lt]; exact h.fr
  obtain ⟨f, hf⟩ : ∃ f, q.fr = f := ⟨_, rfl⟩
  rw [hf] at ca
  simp only [hf]
  clear hf h
  obtain ⟨em, hem⟩ : ∃ b, f.toList.isEmpty = b := ⟨_, rfl⟩
  obtain ⟨le, hle⟩ : ∃ b, Op.bytesLess f.toList k1.toList = b := ⟨_, rfl⟩
  have cl : ∀ W : World, Calls Tryd.prog 51 #[.string f, .string k1] W fun e w' => e = .returned (.bool le) ∧ W = w' := fun W => by rw [← hle]; exact less_is f k1 W
  rw [hem, hle]
  have CL := Lib.hid cl; clear cl
  clear hle
  cases l1 <;> cases m1 <;> cases em
  all_goals
    go_enter Tryd.func52, Tryd.ntmps52
    go_wp2_with (go_at_call 51; refine (CL.out _).mono ?_; rintro e w' ⟨rfl, rfl⟩)
    go_ret
    exact ⟨congrArg (fun x => Ending.returned (Value.bool x)) (by simp), (Below.refl _ _).alloc (Nat.le_refl _) _⟩
set_option maxHeartbeats 2000000 in
theorem verB_is (q : AskV) (x : Ent) (a : Nat) (w : World) (h : AskAt w a q) :
    Calls Tryd.prog 50 #[.agg (encE x).toArray, .pointer (some ⟨a, 0, none⟩)] w fun e w' => e = .returned (.bool (verB q x)) ∧ Below w.heap.size w w' := by
  obtain ⟨k1, i1, m1, s1, u1, l1⟩ := x
  unfold encE verB
  have ca : ∀ o, (w.alloc o).cell? ⟨a, 1, none⟩ = some (.string q.fr) := fun o => by rw [World.cell?_alloc_lt _ _ _ h.lt]; exact h.fr
  have cb : ∀ o, (w.alloc o).cell? ⟨a, 2, none⟩ = some (.int .i64 q.fid) := fun o => by rw [World.cell?_alloc_lt _ _ _ h.lt]; exact h.fid
  obtain ⟨f, hf⟩ : ∃ f, q.fr = f := ⟨_, rfl⟩
  obtain ⟨fi, hfi⟩ : ∃ f, q.fid = f := ⟨_, rfl⟩
  rw [hf] at ca
  rw [hfi] at cb
  simp only [hf, hfi]
  clear hf hfi h
  obtain ⟨em, hem⟩ : ∃ b, f.toList.isEmpty = b := ⟨_, rfl⟩
  obtain ⟨le, hle⟩ : ∃ b, Op.bytesLess f.toList k1.toList = b := ⟨_, rfl⟩
  obtain ⟨eq, heq⟩ : ∃ b, (k1.toList == f.toList) = b := ⟨_, rfl⟩
  have cl : ∀ W : World, Calls Tryd.prog 51 #[.string f, .string k1] W fun e w' => e = .returned (.bool le) ∧ W = w' := fun W => by rw [← hle]; exact less_is f k1 W
  rw [hem, hle, heq]
  have CL := Lib.hid cl; clear cl
  clear hle
  cases em <;> cases le <;> cases eq
  all_goals
    go_enter Tryd.func50, Tryd.ntmps50
    go_wp2_with (go_at_call 51; refine (CL.out _).mono ?_; rintro e w' ⟨rfl, rfl⟩)
    go_ret
    exact ⟨congrArg (fun x => Ending.returned (Value.bool x)) (by simp), (Below.refl _ _).alloc (Nat.le_refl _) _⟩
end Go.Proofs.YtjbjcfnbgcloiaaDoor

namespace Go.Proofs.YtjbjcfnbgcloiaaDoor
open Go.Shelf Go.RowKit Go.Lib

/-- Below block N all is as it was, but for block g. -/
structure KeptBut (N g : Nat) (a b : World) : Prop where
  os : b.os = a.os
  tape : b.tape = a.tape
  output : b.output = a.output
  size : a.heap.size ≤ b.heap.size
  block : ∀ k, k < N → k ≠ g → b.heap[k]? = a.heap[k]?
theorem KeptBut.refl (N g : Nat) (a : World) : KeptBut N g a a := ⟨rfl, rfl, rfl, Nat.le_refl _, fun _ _ _ => rfl⟩
theorem KeptBut.below {N g : Nat} {a b c : World} (h : KeptBut N g a b) (hN : N ≤ b.heap.size) (hb : Below b.heap.size b c) : KeptBut N g a c :=
  ⟨hb.os.trans h.os, hb.tape.trans h.tape, hb.output.trans h.output, Nat.le_trans h.size hb.size, fun k hk hg => (hb.block k (by omega)).trans (h.block k hk hg)⟩
theorem KeptBut.alloc {N g : Nat} {a b : World} (h : KeptBut N g a b) (hN : N ≤ b.heap.size) (o : Obj) : KeptBut N g a (b.alloc o) := h.below hN ((Below.refl _ _).alloc (Nat.le_refl _) o)
theorem KeptBut.grown {N g : Nat} {a b c : World} {row : Option Nat} (h : KeptBut N g a b) (hN : N ≤ b.heap.size) (hg : b.grownBy c row) (hr : ∀ k, row = some k → N ≤ k) : KeptBut N g a c :=
  ⟨hg.os.trans h.os, hg.tape.trans h.tape, hg.output.trans h.output, Nat.le_trans h.size hg.size, fun k hk hkg => (hg.block k (by omega) (fun e => by have := hr k e.symm; omega)).trans (h.block k hk hkg)⟩
theorem KeptBut.setCell {N g : Nat} {a b : World} (h : KeptBut N g a b) (i : Nat) (u : Value) : KeptBut N g a (b.setCell ⟨g, i, none⟩ u) :=
  ⟨h.os, h.tape, h.output, Nat.le_trans h.size (by simp [World.setCell]), fun k hk hkg => (Below.heap_setCell _ _ _ _ hkg).trans (h.block k hk hkg)⟩
theorem KeptBut.drewN {N g : Nat} {a b : World} (h : KeptBut N g a b) (n : Nat) : KeptBut N g a (b.drewN n) := ⟨h.os, h.tape, h.output, h.size, h.block⟩
theorem KeptBut.cell {N g : Nat} {a b : World} (h : KeptBut N g a b) {p : Addr} (hp : p.block < N) (hg : p.block ≠ g) : b.cell? p = a.cell? p := World.cell?_of_block (h.block _ hp hg)
theorem KeptBut.frozen {N g : Nat} {a b : World} (h : KeptBut N g a b) {p : Addr} (hp : p.block < N) (hg : p.block ≠ g) : b.frozen? p = a.frozen? p := World.frozen?_of_block (h.block _ hp hg)
theorem KeptBut.toBelow {N g B : Nat} {a b w : World} (h : KeptBut N g a b) (hw : Below B w a) (hB : B ≤ N) (hg : B ≤ g) : Below B w b :=
  ⟨h.os.trans hw.os, h.tape.trans hw.tape, h.output.trans hw.output, Nat.le_trans hw.size h.size, fun k hk => (h.block k (by omega) (by omega)).trans (hw.block k hk)⟩
/-- What a block of cells gives its reader. -/
theorem cells_of_heap {W : World} {g : Nat} {cs : Array Value} {t : TypeId} (h : W.heap[g]? = some (.cells cs t (0, 0))) : (∀ i u, cs[i]? = some u → W.cell? ⟨g, i, none⟩ = some u) ∧ ∀ i, W.frozen? ⟨g, i, none⟩ = false := by
  constructor
  · intro i u hu
    simp [World.cell?, h, hu]
  · intro i
    simp [World.frozen?, h]
theorem heap_set {W : World} {g : Nat} {cs : Array Value} {t : TypeId} (h : W.heap[g]? = some (.cells cs t (0, 0))) (i : Nat) (u : Value) : (W.setCell ⟨g, i, none⟩ u).heap[g]? = some (.cells (cs.setIfInBounds i u) t (0, 0)) :=
  heap_setCell_same W g i cs t u h
end Go.Proofs.YtjbjcfnbgcloiaaDoor

/- page.cut: merged (pgm.py). -/
namespace Go.Proofs.YtjbjcfnbgcloiaaDoor
open Go.Shelf Go.RowKit Go.Lib Nam

/-- Those that are asked for, of a sorted row. -/
def selE (p : Ent → Bool) (q : AskV) (l : List Ent) : List Ent := l.filter fun x => prefixB x.key.data.toList q.pre.data.toList && p x
/-- What is told of them. -/
def cutKey (n : Nat) (f : List Ent) : ByteArray := if n < f.length then (f.getD (n - 1) default).key else ⟨#[]⟩
def cutId (n : Nat) (f : List Ent) : Int := if n < f.length then (f.getD (n - 1) default).id else 0
theorem infoE : (Tryd.prog.info? 49).map (fun i => (i.zero, i.size, i.bytes)) = some (some (.agg #[.string ⟨#[]⟩, .int .i64 0, .bool false, .int .i64 0, .int .u32 0, .bool false]), 6, 56) := by kernel_rfl
theorem ret_pair {P : Program} {fn : Func} {p u : Tmp} {ty : TypeId} (h : fn.results = #[.cell p ty, .tmp u]) (tmps : Array Value) (w : World) (g : Nat) (t : TypeId) (cs : Array Value) (fr : Nat × Nat) (d : TypeDesc)
    (hp : tmps.getD p undef = .pointer (some ⟨g, 0, none⟩)) (hg : w.heap[g]? = some (.cells cs t fr))
    (hu : P.underlying ty = some d) (hd : (match d with | .struct _ | .array _ _ => true | _ => false) = true) (hi : (P.info? ty).map (·.size) = some cs.size) :
    (results fn tmps).run P w = .ok (.tuple #[.agg cs, tmps.getD u undef]) w := by
  rw [results_cell_tmp h, hp]
  simp [asAddr, run_loadVar_row w g t ty cs fr d hg hu hd hi]
/-- A row that is owned, read. -/
theorem rowE_own {W : World} {base : Nat} {sv : Value} {f : List Ent} (h : W.ownsRow base 49 6 sv f.length (f.flatMap encE)) : RowE W sv f ∧ ∀ b o n c, sv = .slice (some ⟨b, o, none⟩) n c → base ≤ b := by
  rcases h.2 with ⟨h1, h2⟩ | ⟨g, cap, cur, h1, h2, h3, _⟩
  · exact ⟨.inl ⟨h1, List.length_eq_zero_iff.1 h2⟩, fun b o n c hh => by rw [h1] at hh; cases hh⟩
  · subst h1
    refine ⟨.inr ⟨g, 0, cap, rfl, (Array.getElem?_eq_some_iff.1 h3).1, fun j u hj => ?_⟩, fun b o n c hh => by cases hh; exact h2⟩
    have hj' : j < f.length * 6 := by rw [← flat_length]; exact (List.getElem?_eq_some_iff.1 hj).1
    rw [Nat.zero_add, h.cellAt j hj']
    exact hj
/-- What stands at the head of a round. -/
def CutRel (w w4 : World) (p : Ent → Bool) (q : AskV) (l' : List Ent) (vi : Value) (wr : World) : Prop :=
  ∃ (i : Nat) (sv : Value) (f : List Ent), vi = .int .i64 i ∧ i ≤ l'.length ∧ KeptBut w4.heap.size (w.heap.size + 1 + 1) w4 wr ∧
    wr.heap[w.heap.size + 1 + 1]? = some (.cells #[sv, .bool false, .string ⟨#[]⟩, .int .i64 0] 44 (0, 0)) ∧
    wr.ownsRow w4.heap.size 49 6 sv f.length (f.flatMap encE) ∧ f = selE p q (l'.take i) ∧ f.length ≤ q.most.toNat
set_option maxHeartbeats 4000000 in
set_option maxRecDepth 100000 in
theorem cut_is (p : Ent → Bool) (q : AskV) (a g : Nat) (eg : ∀ args w, (callFunc g args).run Tryd.prog w = .ok (.enter g args) w)
    (hp : ∀ x W, AskAt W a q → Calls Tryd.prog g #[.agg (encE x).toArray, .pointer (some ⟨a, 0, none⟩)] W fun e w' => e = .returned (.bool (p x)) ∧ Below W.heap.size W w')
    (l : List Ent) (hl : l.length ≤ 1000000) (hk : ∀ x ∈ l, x.key.size ≤ maxLen) (hq : q.pre.size ≤ maxLen) (hm : 1 ≤ q.most ∧ q.most ≤ 1000) (v : Value) (w : World) (hv : RowE w v l) (ha : AskAt w a q) :
    Calls Tryd.prog 49 #[v, .agg (encA q).toArray, .func (.func g) #[] #[.pointer (some ⟨a, 0, none⟩)]] w fun e w' =>
      ∃ l' sv, l'.Perm l ∧ SortedE l' ∧ RowE w' sv ((selE p q l').take q.most.toNat) ∧ (∀ b o n c, sv = .slice (some ⟨b, o, none⟩) n c → w.heap.size ≤ b) ∧ Below w.heap.size w w' ∧
        e = .returned (.tuple #[.agg #[sv, .bool (decide (q.most.toNat < (selE p q l').length)), .string (cutKey q.most.toNat (selE p q l')), .int .i64 (cutId q.most.toNat (selE p q l'))], .int .i64 0]) := by
  obtain ⟨pre, fr, fid, most⟩ := q
  obtain ⟨i0, hi, hz0, hz1, hz2⟩ := info_parts infoE
  unfold encA
  have HP := Lib.hid hp; clear hp
  have HA := Lib.hid ha; clear ha
  have HV := Lib.hid hv; clear hv
  have HK := Lib.hid hk; clear hk
  obtain ⟨hm1, hm2⟩ := hm
  simp only [] at hm1 hm2 hq
  go_enter Tryd.func49, Tryd.ntmps49
  go_wp2_with fail
  generalize hw3 : (((w.alloc _).alloc _).alloc _) = w3
  have s3 : w3.heap.size = w.heap.size + 3 := by rw [← hw3]; simp
  have hb3 : Below w.heap.size w w3 := by
    rw [← hw3]
    exact (((Below.refl _ _).alloc (Nat.le_refl _) _).alloc (by simp) _).alloc (by simp; omega) _
  have h30 : w3.heap[w.heap.size]? = some (.cells #[.string pre, .string fr, .int .i64 fid, .int .i64 most] 47 (0, 0)) := by
    rw [← hw3, heap_alloc_old _ _ (by simp; omega), heap_alloc_old _ _ (by simp), heap_alloc_new]
  have h31 : w3.heap[w.heap.size + 1]? = some (.cells #[.slice none 0 0, .bool false, .string ⟨#[]⟩, .int .i64 0] 44 (0, 0)) := by
    rw [← hw3, heap_alloc_old _ _ (by simp)]
    have := heap_alloc_new (w.alloc (.cells #[.string pre, .string fr, .int .i64 fid, .int .i64 most] 47)) (.cells #[.slice none 0 0, .bool false, .string ⟨#[]⟩, .int .i64 0] 44)
    simpa using this
  have h32 : w3.heap[w.heap.size + 1 + 1]? = some (.cells #[.slice none 0 0, .bool false, .string ⟨#[]⟩, .int .i64 0] 44 (0, 0)) := by
    rw [← hw3]
    have := heap_alloc_new ((w.alloc (.cells #[.string pre, .string fr, .int .i64 fid, .int .i64 most] 47)).alloc (.cells #[.slice none 0 0, .bool false, .string ⟨#[]⟩, .int .i64 0] 44)) (.cells #[.slice none 0 0, .bool false, .string ⟨#[]⟩, .int .i64 0] 44)
    simpa using this
  clear hw3
  refine (psort_is l hl v w3 (HV.out.below hb3)).mono ?_
  rintro e w4 ⟨v4, l', rfl, hR, hperm, hsort, hfresh, hb4⟩
  have hs4 := hb4.size
  have h40 : w4.heap[w.heap.size]? = _ := (hb4.block _ (by omega)).trans h30
  have h41 : w4.heap[w.heap.size + 1]? = _ := (hb4.block _ (by omega)).trans h31
  have h42 : w4.heap[w.heap.size + 1 + 1]? = _ := (hb4.block _ (by omega)).trans h32
  have hbw4 : Below w.heap.size w w4 := hb3.trans (hb4.mono (by omega))
  obtain ⟨pp, cc, rfl, hrow⟩ := len_of_row hR
  have hll : l'.length = l.length := hperm.length_eq
  have HROW := Lib.hid hrow; clear hrow
  have H40 := Lib.hid h40; clear h40
  have H41 := Lib.hid h41; clear h41
  have HPM := Lib.hid hperm; clear hperm
  have HSO := Lib.hid hsort; clear hsort
  have HFR := Lib.hid hfresh; clear hfresh
  have HLL : l'.length ≤ 1000000 := by omega
  clear h30 h31 h32 hR hll
  have HB4 := Lib.hid hb4; clear hb4
  have HS3 := Lib.hid s3
  have hs4' : w.heap.size + 3 ≤ w4.heap.size := by omega
  clear s3
  go_wp2_with fail
  have hbox : ∀ W : World, KeptBut w4.heap.size (w.heap.size + 1 + 1) w4 W → W.cell? ⟨w.heap.size, 0, none⟩ = some (.string pre) ∧ W.cell? ⟨w.heap.size, 3, none⟩ = some (.int .i64 most) := fun W hK => by
    have h1 := (cells_of_heap H40.out).1
    have hs := HS3.out
    exact ⟨by rw [hK.cell (p := ⟨w.heap.size, 0, none⟩) (by show w.heap.size < _; omega) (by show w.heap.size ≠ _; omega)]; exact h1 0 _ rfl,
      by rw [hK.cell (p := ⟨w.heap.size, 3, none⟩) (by show w.heap.size < _; omega) (by show w.heap.size ≠ _; omega)]; exact h1 3 _ rfl⟩
  have hask : ∀ W : World, KeptBut w4.heap.size (w.heap.size + 1 + 1) w4 W → AskAt W a ⟨pre, fr, fid, most⟩ := fun W hK => by
    have hb := hK.toBelow hbw4 (by omega) (by omega)
    have h := HA.out
    exact ⟨Nat.lt_of_lt_of_le h.lt hb.size, by rw [hb.cell (p := ⟨a, 0, none⟩) h.lt]; exact h.pre, by rw [hb.cell (p := ⟨a, 1, none⟩) h.lt]; exact h.fr,
      by rw [hb.cell (p := ⟨a, 2, none⟩) h.lt]; exact h.fid, by rw [hb.cell (p := ⟨a, 3, none⟩) h.lt]; exact h.most⟩
  have HBOX := Lib.hid hbox; clear hbox
  have HASK := Lib.hid hask; clear hask
  go_loopw [24] (fun vi wr => CutRel w w4 p ⟨pre, fr, fid, most⟩ l' vi wr) (fun vi _ => l'.length - (intOf vi).toNat)
  case atStart => exact ⟨0, .slice none 0 0, [], rfl, Nat.zero_le _, KeptBut.refl _ _ _, h42, ⟨rfl, .inl ⟨rfl, rfl⟩⟩, by rw [List.take_zero]; rfl, Nat.zero_le _⟩
  case round =>
    clear h42
    obtain ⟨i, sv, f, rfl, hi', K, h8, hown, hf, hfm⟩ := hrel
    by_cases hpi : i < l'.length
    · have hpz : (i : Int) < (l'.length : Int) := by omega
      obtain ⟨b, o, rfl, hbl, hc⟩ := HROW.out (by omega)
      have hb8 : b ≠ w.heap.size + 1 + 1 := by
        have h1 := HFR.out b o _ _ rfl
        have h2 := HS3.out
        omega
      obtain ⟨a0, a1, a2, a3, a4, a5⟩ := at_of (W := wr) (fun j u hj => by rw [K.cell (p := ⟨b, o + j, none⟩) hbl hb8]; exact hc j u hj) i hpi
      clear hc
      have hmem := l'.getElem_mem hpi
      have hks := HK.out _ (HPM.out.subset hmem)
      have htk : l'.take (i + 1) = l'.take i ++ [l'[i]] := List.take_succ_eq_append_getElem hpi
      obtain ⟨x, hx⟩ : ∃ x, l'[i] = x := ⟨_, rfl⟩
      rw [hx] at a0 a1 a2 a3 a4 a5 hks htk
      have HTK := Lib.hid htk; clear htk
      clear hx hmem
      have hwr : w4.heap.size ≤ wr.heap.size := K.size
      have cP : ∀ o, (wr.alloc o).cell? ⟨w.heap.size, 0, none⟩ = some (.string pre) := fun o => (HBOX.out _ (K.alloc hwr o)).1
      obtain ⟨pb, hpb⟩ : ∃ b, prefixB x.key.data.toList pre.data.toList = b := ⟨_, rfl⟩
      have cpre : ∀ W : World, Calls Tryd.prog 65 #[.string x.key, .string pre] W fun e w' => e = .returned (.bool pb) ∧ W = w' := fun W => by rw [← hpb]; exact prefix_is _ _ W hks hq
      have CPRE := Lib.hid cpre; clear cpre
      have HPB := Lib.hid hpb; clear hpb
      have hsel : Hid (selE p ⟨pre, fr, fid, most⟩ (l'.take (i + 1)) = f ++ (if (pb && p x) = true then [x] else [])) := by
        show _ = _
        rw [HTK.out, hf]
        unfold selE
        rw [List.filter_append]
        congr 1
        rw [List.filter_cons, HPB.out]
        rfl
      cases pb
      · go_wp2_with (go_at_call 65; refine (CPRE.out _).mono ?_; rintro e w' ⟨rfl, rfl⟩)
        go_roundw
        case rel => exact ⟨i + 1, sv, f, by go_num, by omega, K.alloc hwr _, by rw [heap_alloc_old _ _ (by omega)]; exact h8, hown.alloc _, by rw [hsel.out]; simp, hfm⟩
        case measure => simp [intOf]; omega
      · go_wp2_with (go_at_call 65; refine (CPRE.out _).mono ?_; rintro e w' ⟨rfl, rfl⟩)
        refine (HP.out x _ (HASK.out _ (K.alloc hwr _))).mono ?_
        rintro e w6 ⟨rfl, hb6⟩
        have hE : w6.heap[wr.heap.size]? = _ := (hb6.block wr.heap.size (by simp)).trans (heap_alloc_new wr _)
        have K6 := (K.alloc hwr _).below (by simp; omega) hb6
        have h86 : w6.heap[w.heap.size + 1 + 1]? = _ := (hb6.block _ (by simp; omega)).trans ((heap_alloc_old _ _ (by omega)).trans h8)
        have hown6 := (hown.alloc _).kept (row := none) ⟨hb6.os, hb6.tape, hb6.output, hb6.size, fun k hk _ => hb6.block k hk⟩ (by cases sv.ownBlock <;> simp)
        have hw6 : w4.heap.size ≤ w6.heap.size := K6.size
        have hws : wr.heap.size < w6.heap.size := by have := hb6.size; simp at this; omega
        have cE := (cells_of_heap hE).1
        have e0 := cE 0 _ rfl
        have e1 := cE 1 _ rfl
        have e2 := cE 2 _ rfl
        have e3 := cE 3 _ rfl
        have e4 := cE 4 _ rfl
        have e5 := cE 5 _ rfl
        have c80 := (cells_of_heap h86).1 0 _ rfl
        have cM := (HBOX.out _ K6).2
        clear cE hE hb6 K h8 hown cP a0 a1 a2 a3 a4 a5
        obtain ⟨px, hpx⟩ : ∃ b, p x = b := ⟨_, rfl⟩
        rw [hpx] at hsel ⊢
        clear hpx
        cases px
        · go_wp2_with fail
          go_roundw
          case rel => exact ⟨i + 1, sv, f, by go_num, by omega, K6, h86, hown6, by rw [hsel.out]; simp, hfm⟩
          case measure => simp [intOf]; omega
        · have hfs : selE p ⟨pre, fr, fid, most⟩ (l'.take (i + 1)) = f ++ [x] := by rw [hsel.out]; simp
          have HFS := Lib.hid hfs; clear hfs hsel
          have HF := Lib.hid hf; clear hf
          obtain ⟨ps, cs, rfl⟩ : ∃ ps cs, sv = .slice ps f.length cs := by
            rcases hown6.2 with ⟨h1, h2⟩ | ⟨g1, c1, _, h1, _⟩
            · exact ⟨none, 0, by rw [h1, h2]⟩
            · exact ⟨_, _, h1⟩
          have hsb : ∀ k, (Value.slice ps f.length cs).ownBlock = some k → w4.heap.size ≤ k := fun k hk => (hown6.lt k hk).1
          have HSB := Lib.hid hsb; clear hsb
          change f.length ≤ most.toNat at hfm
          by_cases hfl : f.length < most.toNat
          · have hflz : (f.length : Int) < most := by omega
            have g86 : w.heap.size + 1 + 1 < w6.heap.size := by omega
            go_wp2_with (first
              | (at_builtin; refine wpList_append_lies _ rfl _ _ 37 rfl w4.heap.size 49 i0 _ 6 56 Tryd.underlying37 hi hz0 hz1 hz2 rfl (by omega) (.slice ps f.length cs) f.length (f.flatMap encE) rfl (hown6.alloc _) ⟨w6.heap.size, 0, none⟩ 1 1 (encE x) rfl rfl (World.news_of_block (cs := (encE x).toArray) (t := 49) (fr := (0, 0)) (heap_alloc_new w6 _)) (encE_one x) (by omega) (by unfold maxLen; omega) (by omega) (by simp; omega) (w6.heap.size + 1) (by simp) ?_; intro gg cap w7 hown7 hgrow7 hat hlt; have h87 : w7.heap[w.heap.size + 1 + 1]? = _ := (hgrow7.block _ (by simp; omega) (fun e => by have := HSB.out _ e.symm; omega)).trans ((heap_alloc_old _ _ g86).trans h86); have c87 := (cells_of_heap h87).1 0 _ rfl; have f87 := (cells_of_heap h87).2 0))
            go_roundw
            case rel =>
              refine ⟨i + 1, .slice (some ⟨gg, 0, none⟩) (f.length + 1) cap, f ++ [x], by go_num, by omega, ((K6.alloc hw6 _).grown (by simp; omega) hgrow7 HSB.out).setCell 0 _, by have := heap_set h87 0 (.slice (some ⟨gg, 0, none⟩) (f.length + 1) cap); simpa using this, ?_, HFS.out.symm, by simp; omega⟩
              have e1 : (f ++ [x]).length = f.length + 1 := by simp
              have e2 : (f ++ [x]).flatMap encE = f.flatMap encE ++ encE x := by simp
              rw [e1, e2]
              exact ownsRow_setCell_below hown7 (by show w.heap.size + 1 + 1 < _; omega) _
            case measure => simp [intOf]; omega
          · have hmn : most = (f.length : Int) := by omega
            have hf0 : 0 < f.length := by omega
            obtain ⟨g1, rfl⟩ : ∃ g1, ps = some ⟨g1, 0, none⟩ := by
              rcases hown6.2 with ⟨_, h2⟩ | ⟨g1, c1, _, h1, _⟩
              · omega
              · injection h1 with h1 _ _
                exact ⟨g1, h1⟩
            obtain ⟨n1, hn1⟩ : ∃ n1, f.length = n1 + 1 := ⟨f.length - 1, by omega⟩
            have hla := at_of (W := w6) (b := g1) (o := 0) (l := f) (fun j u hj => by
              have hj' : j < f.length * 6 := by rw [← flat_length]; exact (List.getElem?_eq_some_iff.1 hj).1
              rw [Nat.zero_add, hown6.cellAt j hj']; exact hj) n1 (by omega)
            rw [Nat.zero_add] at hla
            obtain ⟨l0, l1, l2, l3, l4, l5⟩ := hla
            have hgd : f.getD n1 default = f[n1]'(by omega) := by rw [List.getD_eq_getElem?_getD, List.getElem?_eq_getElem (by omega)]; rfl
            obtain ⟨y, hy⟩ : ∃ y, f[n1]'(by omega) = y := ⟨_, rfl⟩
            rw [hy] at l0 l1 l2 l3 l4 l5 hgd
            clear hy
            have wm : IntKind.i64.wrap (most - 1) = (n1 : Int) := by rw [IntWalk.i64_in _ (by omega)]; omega
            have nlt : most ≤ (f.length : Int) := by omega
            have nn : (n1 : Int) < (f.length : Int) := by omega
            have HGD := Lib.hid hgd; clear hgd
            have HN1 := Lib.hid hn1; clear hn1
            have HMN := Lib.hid hmn; clear hmn
            have c81 := (cells_of_heap h86).1 1 _ rfl
            have c82 := (cells_of_heap h86).1 2 _ rfl
            have c83 := (cells_of_heap h86).1 3 _ rfl
            have f81 := (cells_of_heap h86).2
            go_wp2_with fail
            have g86 : w.heap.size + 1 + 1 < w6.heap.size := by omega
            have hW9 : ∃ W9, w6.alloc (.cells #[.string y.key, .int .i64 y.id, .bool y.mark, .int .i64 y.size, .int .u32 y.sum, .bool y.latest] 49) = W9 := ⟨_, rfl⟩
            obtain ⟨W9, hW9⟩ := hW9
            rw [hW9]
            have h89 : W9.heap[w.heap.size + 1 + 1]? = some (.cells #[.slice (some ⟨g1, 0, none⟩) f.length cs, .bool false, .string ⟨#[]⟩, .int .i64 0] 44 (0, 0)) := by rw [← hW9]; exact (heap_alloc_old _ _ g86).trans h86
            have K9 : KeptBut w4.heap.size (w.heap.size + 1 + 1) w4 W9 := by rw [← hW9]; exact K6.alloc hw6 _
            have hown9 : W9.ownsRow w4.heap.size 49 6 (.slice (some ⟨g1, 0, none⟩) f.length cs) f.length (f.flatMap encE) := by rw [← hW9]; exact hown6.alloc _
            have hL : W9.heap[w6.heap.size]? = some (.cells #[.string y.key, .int .i64 y.id, .bool y.mark, .int .i64 y.size, .int .u32 y.sum, .bool y.latest] 49 (0, 0)) := by rw [← hW9]; exact heap_alloc_new w6 _
            have m0 : W9.cell? ⟨w6.heap.size, 0, none⟩ = some (.string y.key) := (cells_of_heap hL).1 0 _ rfl
            have m1 : W9.cell? ⟨w6.heap.size, 1, none⟩ = some (.int .i64 y.id) := (cells_of_heap hL).1 1 _ rfl
            have n1' : W9.cell? ⟨w.heap.size + 1 + 1, 1, none⟩ = some (.bool false) := (cells_of_heap h89).1 1 _ rfl
            have n2' : W9.cell? ⟨w.heap.size + 1 + 1, 2, none⟩ = some (.string ⟨#[]⟩) := (cells_of_heap h89).1 2 _ rfl
            have n3' : W9.cell? ⟨w.heap.size + 1 + 1, 3, none⟩ = some (.int .i64 0) := (cells_of_heap h89).1 3 _ rfl
            have o1 : W9.frozen? ⟨w.heap.size + 1 + 1, 1, none⟩ = false := (cells_of_heap h89).2 1
            have o2 : W9.frozen? ⟨w.heap.size + 1 + 1, 2, none⟩ = false := (cells_of_heap h89).2 2
            have o3 : W9.frozen? ⟨w.heap.size + 1 + 1, 3, none⟩ = false := (cells_of_heap h89).2 3
            have q0 : ∀ j u, (W9.setCell ⟨w.heap.size + 1 + 1, j, none⟩ u).cell? ⟨w6.heap.size, 0, none⟩ = some (.string y.key) := fun j u => by
              rw [World.cell?_setCell_other _ _ _ _ (fun h => by injection h with h1 _; omega)]; exact m0
            have q1 : ∀ j u, (W9.setCell ⟨w.heap.size + 1 + 1, j, none⟩ u).cell? ⟨w6.heap.size, 1, none⟩ = some (.int .i64 y.id) := fun j u => by
              rw [World.cell?_setCell_other _ _ _ _ (fun h => by injection h with h1 _; omega)]; exact m1
            have q2 : ∀ j u i u', ((W9.setCell ⟨w.heap.size + 1 + 1, j, none⟩ u).setCell ⟨w.heap.size + 1 + 1, i, none⟩ u').cell? ⟨w6.heap.size, 1, none⟩ = some (.int .i64 y.id) := fun j u i u' => by
              rw [World.cell?_setCell_other _ _ _ _ (fun h => by injection h with h1 _; omega)]; exact q1 j u
            clear hW9 hL
            go_big_region
            obtain ⟨W10, hW10⟩ : ∃ W10, (((W9.setCell ⟨w.heap.size + 1 + 1, 1, none⟩ (.bool true)).setCell ⟨w.heap.size + 1 + 1, 2, none⟩ (.string y.key)).setCell ⟨w.heap.size + 1 + 1, 3, none⟩ (.int .i64 y.id)).drew = W10 := ⟨_, rfl⟩
            rw [hW10]
            have hb8 : w.heap.size + 1 + 1 < w4.heap.size := by omega
            have h10 : W10.heap[w.heap.size + 1 + 1]? = some (.cells #[.slice (some ⟨g1, 0, none⟩) f.length cs, .bool true, .string y.key, .int .i64 y.id] 44 (0, 0)) := by
              rw [← hW10]
              exact heap_set (heap_set (heap_set h89 1 (.bool true)) 2 (.string y.key)) 3 (.int .i64 y.id)
            have K10 : KeptBut w4.heap.size (w.heap.size + 1 + 1) w4 W10 := by
              rw [← hW10]
              exact (((K9.setCell 1 _).setCell 2 _).setCell 3 _).drewN 1
            have hown10 : W10.ownsRow w4.heap.size 49 6 (.slice (some ⟨g1, 0, none⟩) f.length cs) f.length (f.flatMap encE) := by
              rw [← hW10]
              exact ownsRow_setCell_below (ownsRow_setCell_below (ownsRow_setCell_below hown9 (a := ⟨w.heap.size + 1 + 1, 1, none⟩) hb8 (.bool true)) (a := ⟨w.heap.size + 1 + 1, 2, none⟩) hb8 (.string y.key)) (a := ⟨w.heap.size + 1 + 1, 3, none⟩) hb8 (.int .i64 y.id)
            have hF : ∃ r, selE p ⟨pre, fr, fid, most⟩ l' = f ++ x :: r := by
              refine ⟨selE p ⟨pre, fr, fid, most⟩ (l'.drop (i + 1)), ?_⟩
              have h1 : selE p ⟨pre, fr, fid, most⟩ l' = selE p ⟨pre, fr, fid, most⟩ (l'.take (i + 1)) ++ selE p ⟨pre, fr, fid, most⟩ (l'.drop (i + 1)) := by
                conv => lhs; rw [← List.take_append_drop (i + 1) l']
                unfold selE
                rw [List.filter_append]
              rw [h1, HFS.out, List.append_assoc]
              rfl
            obtain ⟨r, hF⟩ := hF
            have HF2 := Lib.hid hF; clear hF
            clear hW10 q0 q1 q2 m0 m1 n1' n2' n3' o1 o2 o3 h89 K9 hown9 l0 l1 l2 l3 l4 l5 e0 e1 e2 e3 e4 e5 c80 cM c81 c82 c83 f81 K6 h86 hown6
            have h6 : W10.heap[w.heap.size + 1]? = some (.cells #[.slice none 0 0, .bool false, .string ⟨#[]⟩, .int .i64 0] 44 (0, 0)) := (K10.block (w.heap.size + 1) (by omega) (by omega)).trans H41.out
            have t0 : W10.cell? ⟨w.heap.size + 1 + 1, 0, none⟩ = some (.slice (some ⟨g1, 0, none⟩) f.length cs) := (cells_of_heap h10).1 0 _ rfl
            have t1 : W10.cell? ⟨w.heap.size + 1 + 1, 1, none⟩ = some (.bool true) := (cells_of_heap h10).1 1 _ rfl
            have t2 : W10.cell? ⟨w.heap.size + 1 + 1, 2, none⟩ = some (.string y.key) := (cells_of_heap h10).1 2 _ rfl
            have t3 : W10.cell? ⟨w.heap.size + 1 + 1, 3, none⟩ = some (.int .i64 y.id) := (cells_of_heap h10).1 3 _ rfl
            have r0 : W10.cell? ⟨w.heap.size + 1, 0, none⟩ = some (.slice none 0 0) := (cells_of_heap h6).1 0 _ rfl
            have r1 : W10.cell? ⟨w.heap.size + 1, 1, none⟩ = some (.bool false) := (cells_of_heap h6).1 1 _ rfl
            have r2 : W10.cell? ⟨w.heap.size + 1, 2, none⟩ = some (.string ⟨#[]⟩) := (cells_of_heap h6).1 2 _ rfl
            have r3 : W10.cell? ⟨w.heap.size + 1, 3, none⟩ = some (.int .i64 0) := (cells_of_heap h6).1 3 _ rfl
            have z0 : W10.frozen? ⟨w.heap.size + 1, 0, none⟩ = false := (cells_of_heap h6).2 0
            have z1 : W10.frozen? ⟨w.heap.size + 1, 1, none⟩ = false := (cells_of_heap h6).2 1
            have z2 : W10.frozen? ⟨w.heap.size + 1, 2, none⟩ = false := (cells_of_heap h6).2 2
            have z3 : W10.frozen? ⟨w.heap.size + 1, 3, none⟩ = false := (cells_of_heap h6).2 3
            go_wp2
            (try simp only [Exit.inBlock, Exit.then])
            have h61 := heap_set (heap_set (heap_set (heap_set h6 0 (.slice (some ⟨g1, 0, none⟩) f.length cs)) 1 (.bool true)) 2 (.string y.key)) 3 (.int .i64 y.id)
            refine bodyPost_ret (ret_pair rfl _ _ (w.heap.size + 1) _ _ _ _ rfl h61 Tryd.underlying44 rfl (by kernel_rfl)) rfl ?_
            have hmf : most.toNat = f.length := by have := HMN.out; omega
            have hnl : most.toNat < (f ++ x :: r).length := by rw [hmf]; simp
            have hb6 : w.heap.size + 1 < w4.heap.size := by omega
            have hown' := ownsRow_setCell_below (ownsRow_setCell_below (ownsRow_setCell_below (ownsRow_setCell_below hown10 (a := ⟨w.heap.size + 1, 0, none⟩) hb6 (.slice (some ⟨g1, 0, none⟩) f.length cs)) (a := ⟨w.heap.size + 1, 1, none⟩) hb6 (.bool true)) (a := ⟨w.heap.size + 1, 2, none⟩) hb6 (.string y.key)) (a := ⟨w.heap.size + 1, 3, none⟩) hb6 (.int .i64 y.id)
            refine ⟨l', .slice (some ⟨g1, 0, none⟩) f.length cs, HPM.out, HSO.out, ?_, ?_, ?_, ?_⟩
            · rw [HF2.out, show (⟨pre, fr, fid, most⟩ : AskV).most.toNat = f.length from hmf, List.take_left]
              exact (rowE_own hown').1
            · intro b o n c h
              exact Nat.le_trans (by omega) ((rowE_own hown10).2 b o n c h)
            · exact ((((K10.toBelow hbw4 (by omega) (by omega)).setCell (p := ⟨w.heap.size + 1, 0, none⟩) (Nat.le_succ _) _).setCell (p := ⟨w.heap.size + 1, 1, none⟩) (Nat.le_succ _) _).setCell (p := ⟨w.heap.size + 1, 2, none⟩) (Nat.le_succ _) _).setCell (p := ⟨w.heap.size + 1, 3, none⟩) (Nat.le_succ _) _
            · rw [HF2.out]
              unfold cutKey cutId
              have hg : (f ++ x :: r).getD (most.toNat - 1) default = y := by
                have h0 := HN1.out
                rw [← HGD.out, hmf, show f.length - 1 = n1 by omega, List.getD_eq_getElem?_getD, List.getElem?_append_left (by omega), ← List.getD_eq_getElem?_getD]
              rw [if_pos hnl, if_pos hnl, decide_eq_true hnl, hg]
              rfl
    · have hpz : (l'.length : Int) ≤ (i : Int) := by omega
      have hil : i = l'.length := by omega
      have hF : selE p ⟨pre, fr, fid, most⟩ l' = f := by rw [hf, hil, List.take_length]
      obtain ⟨ps, cs, rfl⟩ : ∃ ps cs, sv = .slice ps f.length cs := by
        rcases hown.2 with ⟨h1, h2⟩ | ⟨g1, c1, _, h1, _⟩
        · exact ⟨none, 0, by rw [h1, h2]⟩
        · exact ⟨_, _, h1⟩
      have h6 : wr.heap[w.heap.size + 1]? = some (.cells #[.slice none 0 0, .bool false, .string ⟨#[]⟩, .int .i64 0] 44 (0, 0)) := (K.block (w.heap.size + 1) (by omega) (by omega)).trans H41.out
      have t0 : wr.cell? ⟨w.heap.size + 1 + 1, 0, none⟩ = some (.slice ps f.length cs) := (cells_of_heap h8).1 0 _ rfl
      have t1 : wr.cell? ⟨w.heap.size + 1 + 1, 1, none⟩ = some (.bool false) := (cells_of_heap h8).1 1 _ rfl
      have t2 : wr.cell? ⟨w.heap.size + 1 + 1, 2, none⟩ = some (.string ⟨#[]⟩) := (cells_of_heap h8).1 2 _ rfl
      have t3 : wr.cell? ⟨w.heap.size + 1 + 1, 3, none⟩ = some (.int .i64 0) := (cells_of_heap h8).1 3 _ rfl
      have r0 : wr.cell? ⟨w.heap.size + 1, 0, none⟩ = some (.slice none 0 0) := (cells_of_heap h6).1 0 _ rfl
      have r1 : wr.cell? ⟨w.heap.size + 1, 1, none⟩ = some (.bool false) := (cells_of_heap h6).1 1 _ rfl
      have r2 : wr.cell? ⟨w.heap.size + 1, 2, none⟩ = some (.string ⟨#[]⟩) := (cells_of_heap h6).1 2 _ rfl
      have r3 : wr.cell? ⟨w.heap.size + 1, 3, none⟩ = some (.int .i64 0) := (cells_of_heap h6).1 3 _ rfl
      have z0 : wr.frozen? ⟨w.heap.size + 1, 0, none⟩ = false := (cells_of_heap h6).2 0
      have z1 : wr.frozen? ⟨w.heap.size + 1, 1, none⟩ = false := (cells_of_heap h6).2 1
      have z2 : wr.frozen? ⟨w.heap.size + 1, 2, none⟩ = false := (cells_of_heap h6).2 2
      have z3 : wr.frozen? ⟨w.heap.size + 1, 3, none⟩ = false := (cells_of_heap h6).2 3
      have HF := Lib.hid hF; clear hF
      have HIL := Lib.hid hil; clear hil
      have Hf := Lib.hid hf; clear hf
      go_wp2
      (try simp only [Exit.inBlock, Exit.then])
      have h61 := heap_set (heap_set (heap_set (heap_set h6 0 (.slice ps f.length cs)) 1 (.bool false)) 2 (.string ⟨#[]⟩)) 3 (.int .i64 0)
      refine bodyPost_ret (ret_pair rfl _ _ (w.heap.size + 1) _ _ _ _ rfl h61 Tryd.underlying44 rfl (by kernel_rfl)) rfl ?_
      have hnl : ¬ most.toNat < f.length := by omega
      have hrow := rowE_own hown
      have hb6 : w.heap.size + 1 < w4.heap.size := by omega
      have hown' := ownsRow_setCell_below (ownsRow_setCell_below (ownsRow_setCell_below (ownsRow_setCell_below hown (a := ⟨w.heap.size + 1, 0, none⟩) hb6 (.slice ps f.length cs)) (a := ⟨w.heap.size + 1, 1, none⟩) hb6 (.bool false)) (a := ⟨w.heap.size + 1, 2, none⟩) hb6 (.string ⟨#[]⟩)) (a := ⟨w.heap.size + 1, 3, none⟩) hb6 (.int .i64 0)
      refine ⟨l', HPM.out, HSO.out, .slice ps f.length cs, ?_, ?_, ?_, ?_⟩
      · rw [HF.out, List.take_of_length_le (by show f.length ≤ most.toNat; omega)]
        exact (rowE_own hown').1
      · intro b o n c h
        exact Nat.le_trans (by omega) ((rowE_own hown).2 b o n c h)
      · exact ((((K.toBelow hbw4 (by omega) (by omega)).setCell (p := ⟨w.heap.size + 1, 0, none⟩) (Nat.le_succ _) _).setCell (p := ⟨w.heap.size + 1, 1, none⟩) (Nat.le_succ _) _).setCell (p := ⟨w.heap.size + 1, 2, none⟩) (Nat.le_succ _) _).setCell (p := ⟨w.heap.size + 1, 3, none⟩) (Nat.le_succ _) _
      · rw [HF.out]
        unfold cutKey cutId
        rw [if_neg hnl, if_neg hnl, decide_eq_false hnl]
        rfl
end Go.Proofs.YtjbjcfnbgcloiaaDoor

namespace Go.Proofs.YtjbjcfnbgcloiaaDoor
open Go.Shelf Go.RowKit Go.Lib Nam

/-- A callee that draws, met in a region that draws, behind an earlier draw. -/
theorem quiet_add {P : Program} {f : FuncId} {args : Array Value} {w : World} {a n : Nat} {v : Value} (h : ∀ W, Calls P f args W fun e w' => e = .returned v ∧ ∃ m, w' = W.drewN m) :
    Calls P f args (w.drewN (a + n)) fun e w'' => e = .returned v ∧ ∃ m, w'' = w.drewN (a + m) :=
  (h _).mono fun _ _ ⟨he, m, hm⟩ => ⟨he, n + m, by rw [hm, World.drewN_drewN, Nat.add_assoc]⟩
/-- .. behind none. -/
theorem quiet_any {P : Program} {f : FuncId} {args : Array Value} {w : World} {n : Nat} {v : Value} (h : ∀ W, Calls P f args W fun e w' => e = .returned v ∧ ∃ m, w' = W.drewN m) :
    Calls P f args (w.drewN n) fun e w'' => e = .returned v ∧ ∃ m, w'' = w.drewN m :=
  (h _).mono fun _ _ ⟨he, m, hm⟩ => ⟨he, n + m, by rw [hm, World.drewN_drewN]⟩
theorem encE_all (l : List Ent) : ∀ u ∈ l.flatMap encE, u.oneCell' = true := fun u hu => by
  obtain ⟨x, _, hx⟩ := List.mem_flatMap.1 hu
  exact encE_one x u hx
theorem append_rowE {w : World} {base : Nat} {v : Value} {xs : List Ent} (hown : w.ownsRow base 49 6 v xs.length (xs.flatMap encE)) {x : Value} {l : List Ent} (hx : RowE w x l)
    (hn : xs.length + l.length ≤ 1000000000) (hbase : base ≤ w.heap.size) (ty : TypeId) :
    ∃ v' w', (Builtin.append_ #[37, 37] ty #[v, x]).run Tryd.prog w = .ok v' w' ∧ w'.ownsRow base 49 6 v' (xs ++ l).length ((xs ++ l).flatMap encE) ∧ w.grownBy w' v.ownBlock ∧
      (v'.ownBlock = v.ownBlock ∨ v'.ownBlock = some w.heap.size) := by
  obtain ⟨i0, hi, hz0, hz1, hz2⟩ := info_parts infoE
  rcases hx with ⟨rfl, rfl⟩ | ⟨b, o, cap, rfl, hb, hc⟩
  · refine ⟨v, w, run_append_owned_none (P := Tryd.prog) (w := w) base _ ty _ i0 6 Tryd.underlying37 hi v _ _ hown, by simpa using hown, ⟨rfl, rfl, rfl, Nat.le_refl _, fun _ _ _ => rfl⟩, .inl rfl⟩
  · obtain ⟨v', w', h1, h2, h3, _, h5⟩ := run_append_own_at (P := Tryd.prog) (w := w) base _ ty _ i0 _ 6 56 Tryd.underlying37 hi hz0 hz1 hz2 rfl (by omega) v _ _ hown ⟨b, o, none⟩ l.length cap (l.flatMap encE) (flat_length l)
      (fun j u hj => by rw [Go.WideShapes.add_plain]; exact hc j u hj) (encE_all l) (by unfold maxLen; omega) (by omega) hbase
    refine ⟨v', w', h1, ?_, h3, h5⟩
    rw [List.length_append, List.flatMap_append]
    exact h2
theorem wp_append_rowE {w : World} {o : Oper} {a : Act} {K : Act → World → Prop} {Q : Exit → Act → World → Prop} (s u : Operand)
    (ho : o.op = .call { callee := .builtin .append, args := #[s, u], argTypes := #[37, 37] })
    {base : Nat} {v : Value} {xs : List Ent} (hs : a.eval s = v) (hown : w.ownsRow base 49 6 v xs.length (xs.flatMap encE)) {x : Value} {l : List Ent} (hu : a.eval u = x) (hx : RowE w x l)
    (hn : xs.length + l.length ≤ 1000000000) (hbase : base ≤ w.heap.size)
    (h : ∀ v' w', w'.ownsRow base 49 6 v' (xs ++ l).length ((xs ++ l).flatMap encE) → w.grownBy w' v.ownBlock → (v'.ownBlock = v.ownBlock ∨ v'.ownBlock = some w.heap.size) → K (a.put o.dst v') w') : o.wp Tryd.prog a w K Q := by
  obtain ⟨v', w', hr, h2, h3, h4⟩ := append_rowE hown hx hn hbase o.type
  unfold Oper.wp execOp
  simp only [ho, resolve, invoke, builtin, Sem.run_bind, Sem.run_pure, Result.andThen_ok, List.map_toArray, List.map_cons, List.map_nil, hs, hu, hr]
  exact h v' w' h2 h3 h4
theorem wpList_append_rowE {w : World} {ops : Array Oper} {rest : List Oper} {o : Oper} {a : Act} {Q : Exit → Act → World → Prop} (hgd : o.guard = none) (s u : Operand)
    (ho : o.op = .call { callee := .builtin .append, args := #[s, u], argTypes := #[37, 37] })
    {base : Nat} {v : Value} {xs : List Ent} (hs : a.eval s = v) (hown : w.ownsRow base 49 6 v xs.length (xs.flatMap encE)) {x : Value} {l : List Ent} (hu : a.eval u = x) (hx : RowE w x l)
    (hn : xs.length + l.length ≤ 1000000000) (hbase : base ≤ w.heap.size)
    (h : ∀ v' w', w'.ownsRow base 49 6 v' (xs ++ l).length ((xs ++ l).flatMap encE) → w.grownBy w' v.ownBlock → (v'.ownBlock = v.ownBlock ∨ v'.ownBlock = some w.heap.size) → wpList Tryd.prog ops Q rest (a.put o.dst v') w') : wpList Tryd.prog ops Q (o :: rest) a w :=
  wpList_plain hgd fun _ hK => wp_append_rowE s u ho hs hown hu hx hn hbase fun v' w' h2 h3 h4 => hK _ _ (h v' w' h2 h3 h4)
/-- .. at a step of a region that draws its order. -/
theorem step_append_rowE {w : World} {ops : Array Oper} {o : Oper} {a : Act} {K : Act → World → Prop} {Q : Exit → Act → World → Prop} {E : Prop} (hgd : o.guard = none) (s u : Operand)
    (ho : o.op = .call { callee := .builtin .append, args := #[s, u], argTypes := #[37, 37] })
    {base : Nat} {v : Value} {xs : List Ent} (hs : a.eval s = v) (hown : w.ownsRow base 49 6 v xs.length (xs.flatMap encE)) {x : Value} {l : List Ent} (hu : a.eval u = x) (hx : RowE w x l)
    (hn : xs.length + l.length ≤ 1000000000) (hbase : base ≤ w.heap.size)
    (h : ∀ v' w', w'.ownsRow base 49 6 v' (xs ++ l).length ((xs ++ l).flatMap encE) → w.grownBy w' v.ownBlock → (v'.ownBlock = v.ownBlock ∨ v'.ownBlock = some w.heap.size) → K (a.put o.dst v') w') :
    if Region.wanted o (yielded ops a.tmps) = true then Oper.wp Tryd.prog o a w K Q else E := by
  have hw : Region.wanted o (yielded ops a.tmps) = true := by simp [Region.wanted, hgd]
  rw [if_pos hw]
  exact wp_append_rowE s u ho hs hown hu hx hn hbase h
theorem own_ge {w : World} {base n : Nat} {e : TypeId} {size : Nat} {v : Value} {xs : List Value} (h : w.ownsRow base e size v n xs) : ∀ k, v.ownBlock = some k → base ≤ k := by
  intro k hk
  rcases h.2 with ⟨h1, _⟩ | ⟨g, cap, cur, h1, h2, _⟩
  · subst h1; cases hk
  · subst h1; cases hk; exact h2
/-- A part of a row, from k on. -/
theorem rowE_from {W : World} {p : Option Addr} {n c k : Nat} {l : List Ent} (h : RowE W (.slice p n c) l) (hk : k ≤ l.length) (hl : l.length ≤ c) : RowE W (.slice (if c = k then p else p.map (·.add (k * 6))) (n - k) (c - k)) (l.drop k) := by
  rcases h with ⟨h, rfl⟩ | ⟨b, o, cap, h, hb, hc⟩
  · cases h
    obtain rfl : k = 0 := by simpa using hk
    exact .inl ⟨rfl, rfl⟩
  · cases h
    by_cases e : c = k
    · subst e
      rw [if_pos rfl]
      refine .inr ⟨b, o, _, by rw [List.length_drop], hb, fun j u hj => ?_⟩
      rw [List.drop_eq_nil_of_le hl] at hj
      simp at hj
    · rw [if_neg e]
      refine .inr ⟨b, o + k * 6, c - k, by rw [List.length_drop]; simp [Go.WideShapes.add_plain], hb, fun j u hj => ?_⟩
      rw [Nat.add_assoc]
      refine hc _ u ?_
      conv => rhs; rw [← hj]
      conv => lhs; rw [← List.take_append_drop k l, List.flatMap_append]
      rw [List.getElem?_append_right (by rw [flat_length, List.length_take]; omega)]
      congr 1
      rw [flat_length, List.length_take]
      omega
/-- .. its first k. -/
theorem rowE_to {W : World} {p : Option Addr} {n c k c' : Nat} {l : List Ent} (h : RowE W (.slice p n c) l) (hk : k ≤ l.length) (hc' : p = none → c' = 0) : RowE W (.slice p k c') (l.take k) := by
  rcases h with ⟨h, rfl⟩ | ⟨b, o, cap, h, hb, hc⟩
  · cases h
    obtain rfl : k = 0 := by simpa using hk
    obtain rfl := hc' rfl
    exact .inl ⟨rfl, rfl⟩
  · cases h
    refine .inr ⟨b, o, c', by rw [List.length_take, Nat.min_eq_left hk], hb, fun j u hj => ?_⟩
    refine hc _ u ?_
    have hlt := (List.getElem?_eq_some_iff.1 hj).1
    conv => lhs; rw [← List.take_append_drop k l, List.flatMap_append]
    rw [List.getElem?_append_left hlt]
    exact hj
end Go.Proofs.YtjbjcfnbgcloiaaDoor

/- page.Objects, page.Versions: merged (pgm.py). -/
namespace Go.Proofs.YtjbjcfnbgcloiaaDoor
open Go.Shelf Go.RowKit Go.Lib Nam

theorem rowE_set {W : World} {sv : Value} {f : List Ent} {g : Nat} (h : RowE W sv f) (hne : ∀ b o n c, sv = .slice (some ⟨b, o, none⟩) n c → b ≠ g) (i : Nat) (u : Value) : RowE (W.setCell ⟨g, i, none⟩ u) sv f := by
  rcases h with h | ⟨b, o, cap, h1, h2, h3⟩
  · exact .inl h
  · refine .inr ⟨b, o, cap, h1, by simpa [World.setCell] using h2, fun j u' hj => ?_⟩
    rw [World.cell?_setCell_other _ _ _ _ (fun e => hne b o _ _ h1 (by injection e with e1 _; exact e1.symm))]
    exact h3 j u' hj
set_option maxHeartbeats 4000000 in
set_option maxRecDepth 100000 in
theorem pvers_is (q : AskV) (l : List Ent) (hl : l.length ≤ 1000000) (hk : ∀ x ∈ l, x.key.size ≤ maxLen) (hq : q.pre.size ≤ maxLen) (hm : 1 ≤ q.most ∧ q.most ≤ 1000) (v : Value) (w : World) (hv : RowE w v l) :
    Calls Tryd.prog 28 #[v, .agg (encA q).toArray] w fun e w' =>
      ∃ l' sv, l'.Perm l ∧ SortedE l' ∧ RowE w' sv ((selE (verB q) q l').take q.most.toNat) ∧ (∀ b o n c, sv = .slice (some ⟨b, o, none⟩) n c → w.heap.size ≤ b) ∧ Below w.heap.size w w' ∧
        e = .returned (.tuple #[.agg #[sv, .bool (decide (q.most.toNat < (selE (verB q) q l').length)), .string (cutKey q.most.toNat (selE (verB q) q l')), .int .i64 (cutId q.most.toNat (selE (verB q) q l'))], .int .i64 0]) := by
  obtain ⟨w2, hw2⟩ : ∃ w2, (w.alloc (.cells (encA q).toArray 47)).alloc (.cells #[.slice none 0 0, .bool false, .string ⟨#[]⟩, .int .i64 0] 44) = w2 := ⟨_, rfl⟩
  have s2 : w2.heap.size = w.heap.size + 2 := by rw [← hw2]; simp
  have hb2 : Below w.heap.size w w2 := by
    rw [← hw2]
    exact ((Below.refl _ _).alloc (Nat.le_refl _) _).alloc (by simp) _
  have h20 : w2.heap[w.heap.size]? = some (.cells (encA q).toArray 47 (0, 0)) := by
    rw [← hw2, heap_alloc_old _ _ (by simp), heap_alloc_new]
  have h21 : w2.heap[w.heap.size + 1]? = some (.cells #[.slice none 0 0, .bool false, .string ⟨#[]⟩, .int .i64 0] 44 (0, 0)) := by
    rw [← hw2]
    have := heap_alloc_new (w.alloc (.cells (encA q).toArray 47)) (.cells #[.slice none 0 0, .bool false, .string ⟨#[]⟩, .int .i64 0] 44)
    simpa using this
  have hat : AskAt w2 w.heap.size q := ⟨by omega, (cells_of_heap h20).1 0 _ rfl, (cells_of_heap h20).1 1 _ rfl, (cells_of_heap h20).1 2 _ rfl, (cells_of_heap h20).1 3 _ rfl⟩
  have hc := cut_is (verB q) q w.heap.size 50 (enters_of Tryd.func50 (by kernel_rfl) rfl) (fun x W h => verB_is q x w.heap.size W h) l hl hk hq hm v w2 (hv.below hb2) hat
  have HC := Lib.hid hc; clear hc
  have HW := Lib.hid hw2; clear hw2
  clear hv hat h20
  obtain ⟨pre, fr, fid, most⟩ := q
  unfold encA at HC HW ⊢
  go_enter Tryd.func28, Tryd.ntmps28
  go_wp2_with fail
  rw [show (w.alloc (.cells #[.string pre, .string fr, .int .i64 fid, .int .i64 most] 47)).alloc (.cells #[.slice none 0 0, .bool false, .string ⟨#[]⟩, .int .i64 0] 44) = w2 from HW.out]
  refine HC.out.mono ?_
  rintro e w3 ⟨l', sv, hpm, hso, hrow, hfr, hb3, rfl⟩
  obtain ⟨F, hF⟩ : ∃ F, selE (verB ⟨pre, fr, fid, most⟩) ⟨pre, fr, fid, most⟩ l' = F := ⟨_, rfl⟩
  have h31 : w3.heap[w.heap.size + 1]? = some (.cells #[.slice none 0 0, .bool false, .string ⟨#[]⟩, .int .i64 0] 44 (0, 0)) := (hb3.block _ (by omega)).trans h21
  have r0 : w3.cell? ⟨w.heap.size + 1, 0, none⟩ = some (.slice none 0 0) := (cells_of_heap h31).1 0 _ rfl
  have r1 : w3.cell? ⟨w.heap.size + 1, 1, none⟩ = some (.bool false) := (cells_of_heap h31).1 1 _ rfl
  have r2 : w3.cell? ⟨w.heap.size + 1, 2, none⟩ = some (.string ⟨#[]⟩) := (cells_of_heap h31).1 2 _ rfl
  have r3 : w3.cell? ⟨w.heap.size + 1, 3, none⟩ = some (.int .i64 0) := (cells_of_heap h31).1 3 _ rfl
  have z0 : w3.frozen? ⟨w.heap.size + 1, 0, none⟩ = false := (cells_of_heap h31).2 0
  have z1 : w3.frozen? ⟨w.heap.size + 1, 1, none⟩ = false := (cells_of_heap h31).2 1
  have z2 : w3.frozen? ⟨w.heap.size + 1, 2, none⟩ = false := (cells_of_heap h31).2 2
  have z3 : w3.frozen? ⟨w.heap.size + 1, 3, none⟩ = false := (cells_of_heap h31).2 3
  obtain ⟨ps, cs, hsv, _⟩ := len_of_row hrow
  obtain ⟨nn, hnn⟩ : ∃ nn, ((selE (verB ⟨pre, fr, fid, most⟩) ⟨pre, fr, fid, most⟩ l').take (⟨pre, fr, fid, most⟩ : AskV).most.toNat).length = nn := ⟨_, rfl⟩
  rw [hnn] at hsv
  subst hsv
  rw [hF] at hrow ⊢
  obtain ⟨mo, hmo⟩ : ∃ b, decide ((⟨pre, fr, fid, most⟩ : AskV).most.toNat < F.length) = b := ⟨_, rfl⟩
  obtain ⟨ke, hke⟩ : ∃ b, cutKey (⟨pre, fr, fid, most⟩ : AskV).most.toNat F = b := ⟨_, rfl⟩
  obtain ⟨ci, hci⟩ : ∃ b, cutId (⟨pre, fr, fid, most⟩ : AskV).most.toNat F = b := ⟨_, rfl⟩
  rw [hmo, hke, hci]
  have H31 := Lib.hid h31; clear h31
  have HROW := Lib.hid hrow; clear hrow
  have HX := Lib.hid (And.intro hF (And.intro hmo (And.intro hke hci)))
  clear hF hmo hke hci hnn h21
  have HS2 := Lib.hid s2; clear s2
  go_wp2
  (try simp only [Exit.inBlock, Exit.then])
  have h61 := heap_set (heap_set (heap_set (heap_set H31.out 0 (.slice ps nn cs)) 1 (.bool mo)) 2 (.string ke)) 3 (.int .i64 ci)
  refine bodyPost_ret (ret_pair rfl _ _ (w.heap.size + 1) _ _ _ _ rfl h61 Tryd.underlying44 rfl (by kernel_rfl)) rfl ?_
  obtain ⟨hF, hmo, hke, hci⟩ := HX.out
  have hne : ∀ b o n c, Value.slice ps nn cs = .slice (some ⟨b, o, none⟩) n c → b ≠ w.heap.size + 1 := fun b o n c h => by
    have h1 := hfr b o n c h
    have h2 := HS2.out
    omega
  refine ⟨l', .slice ps nn cs, hpm, hso, ?_, fun b o n c h => ?_, ?_, ?_⟩
  · rw [hF]
    exact rowE_set (rowE_set (rowE_set (rowE_set HROW.out hne _ _) hne _ _) hne _ _) hne _ _
  · have h1 := hfr b o n c h
    have h2 := HS2.out
    omega
  · have h2 := HS2.out
    exact ((((hb2.trans (hb3.mono (by omega))).setCell (p := ⟨w.heap.size + 1, 0, none⟩) (Nat.le_succ _) _).setCell (p := ⟨w.heap.size + 1, 1, none⟩) (Nat.le_succ _) _).setCell (p := ⟨w.heap.size + 1, 2, none⟩) (Nat.le_succ _) _).setCell (p := ⟨w.heap.size + 1, 3, none⟩) (Nat.le_succ _) _
  · rw [hF, hmo, hke, hci]
    rfl
set_option maxHeartbeats 4000000 in
set_option maxRecDepth 100000 in
theorem objects_is (q : AskV) (l : List Ent) (hl : l.length ≤ 1000000) (hk : ∀ x ∈ l, x.key.size ≤ maxLen) (hq : q.pre.size ≤ maxLen) (hm : 1 ≤ q.most ∧ q.most ≤ 1000) (v : Value) (w : World) (hv : RowE w v l) :
    Calls Tryd.prog 29 #[v, .agg (encA q).toArray] w fun e w' =>
      ∃ l' sv, l'.Perm l ∧ SortedE l' ∧ RowE w' sv ((selE (objB q) q l').take q.most.toNat) ∧ (∀ b o n c, sv = .slice (some ⟨b, o, none⟩) n c → w.heap.size ≤ b) ∧ Below w.heap.size w w' ∧
        e = .returned (.tuple #[.agg #[sv, .bool (decide (q.most.toNat < (selE (objB q) q l').length)), .string (cutKey q.most.toNat (selE (objB q) q l')), .int .i64 0], .int .i64 0]) := by
  obtain ⟨w2, hw2⟩ : ∃ w2, (w.alloc (.cells (encA q).toArray 47)).alloc (.cells #[.slice none 0 0, .bool false, .string ⟨#[]⟩, .int .i64 0] 44) = w2 := ⟨_, rfl⟩
  have s2 : w2.heap.size = w.heap.size + 2 := by rw [← hw2]; simp
  have hb2 : Below w.heap.size w w2 := by
    rw [← hw2]
    exact ((Below.refl _ _).alloc (Nat.le_refl _) _).alloc (by simp) _
  have h20 : w2.heap[w.heap.size]? = some (.cells (encA q).toArray 47 (0, 0)) := by
    rw [← hw2, heap_alloc_old _ _ (by simp), heap_alloc_new]
  have h21 : w2.heap[w.heap.size + 1]? = some (.cells #[.slice none 0 0, .bool false, .string ⟨#[]⟩, .int .i64 0] 44 (0, 0)) := by
    rw [← hw2]
    have := heap_alloc_new (w.alloc (.cells (encA q).toArray 47)) (.cells #[.slice none 0 0, .bool false, .string ⟨#[]⟩, .int .i64 0] 44)
    simpa using this
  have hat : AskAt w2 w.heap.size q := ⟨by omega, (cells_of_heap h20).1 0 _ rfl, (cells_of_heap h20).1 1 _ rfl, (cells_of_heap h20).1 2 _ rfl, (cells_of_heap h20).1 3 _ rfl⟩
  have hc := cut_is (objB q) q w.heap.size 52 (enters_of Tryd.func52 (by kernel_rfl) rfl) (fun x W h => objB_is q x w.heap.size W h) l hl hk hq hm v w2 (hv.below hb2) hat
  have HC := Lib.hid hc; clear hc
  have HW := Lib.hid hw2; clear hw2
  clear hv hat h20
  obtain ⟨pre, fr, fid, most⟩ := q
  unfold encA at HC HW ⊢
  go_enter Tryd.func29, Tryd.ntmps29
  go_wp2_with fail
  rw [show (w.alloc (.cells #[.string pre, .string fr, .int .i64 fid, .int .i64 most] 47)).alloc (.cells #[.slice none 0 0, .bool false, .string ⟨#[]⟩, .int .i64 0] 44) = w2 from HW.out]
  refine HC.out.mono ?_
  rintro e w3 ⟨l', sv, hpm, hso, hrow, hfr, hb3, rfl⟩
  obtain ⟨F, hF⟩ : ∃ F, selE (objB ⟨pre, fr, fid, most⟩) ⟨pre, fr, fid, most⟩ l' = F := ⟨_, rfl⟩
  have h31 : w3.heap[w.heap.size + 1]? = some (.cells #[.slice none 0 0, .bool false, .string ⟨#[]⟩, .int .i64 0] 44 (0, 0)) := (hb3.block _ (by omega)).trans h21
  have hlt3 : w.heap.size + 1 < w3.heap.size := by have := hb3.size; omega
  obtain ⟨ps, cs, hsv, _⟩ := len_of_row hrow
  obtain ⟨nn, hnn⟩ : ∃ nn, ((selE (objB ⟨pre, fr, fid, most⟩) ⟨pre, fr, fid, most⟩ l').take (⟨pre, fr, fid, most⟩ : AskV).most.toNat).length = nn := ⟨_, rfl⟩
  rw [hnn] at hsv
  subst hsv
  rw [hF] at hrow ⊢
  obtain ⟨mo, hmo⟩ : ∃ b, decide ((⟨pre, fr, fid, most⟩ : AskV).most.toNat < F.length) = b := ⟨_, rfl⟩
  obtain ⟨ke, hke⟩ : ∃ b, cutKey (⟨pre, fr, fid, most⟩ : AskV).most.toNat F = b := ⟨_, rfl⟩
  obtain ⟨ci, hci⟩ : ∃ b, cutId (⟨pre, fr, fid, most⟩ : AskV).most.toNat F = b := ⟨_, rfl⟩
  rw [hmo, hke, hci]
  have H31 := Lib.hid h31; clear h31
  have HROW := Lib.hid hrow; clear hrow
  have HX := Lib.hid (And.intro hF (And.intro hmo (And.intro hke hci)))
  clear hF hmo hke hci hnn h21
  have HS2 := Lib.hid s2; clear s2
  go_upto_region 3 with (fail)
  obtain ⟨W5, hW5⟩ : ∃ W5, w3.alloc (.cells #[.slice ps nn cs, .bool mo, .string ke, .int .i64 0] 44) = W5 := ⟨_, rfl⟩
  rw [hW5]
  have h35 : W5.heap[w.heap.size + 1]? = some (.cells #[.slice none 0 0, .bool false, .string ⟨#[]⟩, .int .i64 0] 44 (0, 0)) := by rw [← hW5, heap_alloc_old _ _ hlt3]; exact H31.out
  have h55 : W5.heap[w3.heap.size]? = some (.cells #[.slice ps nn cs, .bool mo, .string ke, .int .i64 0] 44 (0, 0)) := by rw [← hW5]; exact heap_alloc_new w3 _
  have hb5 : Below w3.heap.size w3 W5 := by rw [← hW5]; exact (Below.refl _ _).alloc (Nat.le_refl _) _
  have hrow5 : RowE W5 (.slice ps nn cs) (F.take (⟨pre, fr, fid, most⟩ : AskV).most.toNat) := HROW.out.below hb5
  have r0 : W5.cell? ⟨w.heap.size + 1, 0, none⟩ = some (.slice none 0 0) := (cells_of_heap h35).1 0 _ rfl
  have r1 : W5.cell? ⟨w.heap.size + 1, 1, none⟩ = some (.bool false) := (cells_of_heap h35).1 1 _ rfl
  have r2 : W5.cell? ⟨w.heap.size + 1, 2, none⟩ = some (.string ⟨#[]⟩) := (cells_of_heap h35).1 2 _ rfl
  have r3 : W5.cell? ⟨w.heap.size + 1, 3, none⟩ = some (.int .i64 0) := (cells_of_heap h35).1 3 _ rfl
  have z0 : W5.frozen? ⟨w.heap.size + 1, 0, none⟩ = false := (cells_of_heap h35).2 0
  have z1 : W5.frozen? ⟨w.heap.size + 1, 1, none⟩ = false := (cells_of_heap h35).2 1
  have z2 : W5.frozen? ⟨w.heap.size + 1, 2, none⟩ = false := (cells_of_heap h35).2 2
  have z3 : W5.frozen? ⟨w.heap.size + 1, 3, none⟩ = false := (cells_of_heap h35).2 3
  have y0 : W5.cell? ⟨w3.heap.size, 0, none⟩ = some (.slice ps nn cs) := (cells_of_heap h55).1 0 _ rfl
  have y1 : W5.cell? ⟨w3.heap.size, 1, none⟩ = some (.bool mo) := (cells_of_heap h55).1 1 _ rfl
  have y2 : W5.cell? ⟨w3.heap.size, 2, none⟩ = some (.string ke) := (cells_of_heap h55).1 2 _ rfl
  have y3 : W5.cell? ⟨w3.heap.size, 3, none⟩ = some (.int .i64 0) := (cells_of_heap h55).1 3 _ rfl
  clear hW5
  have H35 := Lib.hid h35; clear h35 h55
  go_wp2
  (try simp only [Exit.inBlock, Exit.then])
  have h61 := heap_set (heap_set (heap_set (heap_set H35.out 0 (.slice ps nn cs)) 1 (.bool mo)) 2 (.string ke)) 3 (.int .i64 0)
  refine bodyPost_ret (ret_pair rfl _ _ (w.heap.size + 1) _ _ _ _ rfl h61 Tryd.underlying44 rfl (by kernel_rfl)) rfl ?_
  obtain ⟨hF, hmo, hke, hci⟩ := HX.out
  have hne : ∀ b o n c, Value.slice ps nn cs = .slice (some ⟨b, o, none⟩) n c → b ≠ w.heap.size + 1 := fun b o n c h => by
    have h1 := hfr b o n c h
    have h2 := HS2.out
    omega
  refine ⟨l', hpm, hso, .slice ps nn cs, ?_, fun b o n c h => ?_, ?_, ?_⟩
  · rw [hF]
    exact rowE_set (rowE_set (rowE_set (rowE_set hrow5 hne _ _) hne _ _) hne _ _) hne _ _
  · have h1 := hfr b o n c h
    have h2 := HS2.out
    omega
  · have h2 := HS2.out
    have hb25 : Below w.heap.size w W5 := (hb2.trans (hb3.mono (by omega))).trans (hb5.mono (by omega))
    exact (((hb25.setCell (p := ⟨w.heap.size + 1, 0, none⟩) (Nat.le_succ _) _).setCell (p := ⟨w.heap.size + 1, 1, none⟩) (Nat.le_succ _) _).setCell (p := ⟨w.heap.size + 1, 2, none⟩) (Nat.le_succ _) _).setCell (p := ⟨w.heap.size + 1, 3, none⟩) (Nat.le_succ _) _
  · rw [hF, hmo, hke]
    rfl
end Go.Proofs.YtjbjcfnbgcloiaaDoor

namespace Go.Proofs.YtjbjcfnbgcloiaaDoor
open Go.Shelf Go.RowKit Go.Lib Nam

/-- A fair row, told by its members alone. -/
structure FairM (l : List Ent) : Prop where
  nodup : l.Nodup
  key : ∀ x ∈ l, x.key ≠ ⟨#[]⟩
  id : ∀ x ∈ l, 0 ≤ x.id
  uniq : ∀ x ∈ l, ∀ y ∈ l, x.key = y.key → x.id = y.id → x = y
  latest : ∀ x ∈ l, (x.latest = true ↔ ∀ y ∈ l, y.key = x.key → y.id ≤ x.id)
theorem getD_of {l : List Ent} {i : Nat} (h : i < l.length) : l.getD i default = l[i] := by
  rw [List.getD_eq_getElem?_getD, List.getElem?_eq_getElem h]; rfl
theorem FairP.m {l : List Ent} (h : FairP l) : FairM l := by
  have ap : ∀ i j (hi : i < l.length) (hj : j < l.length), j ≠ i → l[j].key = l[i].key → l[j].id ≠ l[i].id := fun i j hi hj hne hk => by
    have := (h i hi).apart.apart j hj hne
    rw [getD_of hi, getD_of hj] at this
    exact this hk
  have uq : ∀ x ∈ l, ∀ y ∈ l, x.key = y.key → x.id = y.id → x = y := fun x hx y hy hk hid => by
    obtain ⟨i, hi, rfl⟩ := List.getElem_of_mem hx
    obtain ⟨j, hj, rfl⟩ := List.getElem_of_mem hy
    by_cases c : i = j
    · subst c; rfl
    · exact absurd hid (ap j i hj hi c hk)
  refine ⟨?_, fun x hx => ?_, fun x hx => ?_, uq, fun x hx => ?_⟩
  · unfold List.Nodup
    rw [List.pairwise_iff_getElem]
    intro i j hi hj hij he
    exact ap i j hi hj (by omega) (by rw [he]) (by rw [he])
  · obtain ⟨i, hi, rfl⟩ := List.getElem_of_mem hx
    have := (h i hi).key
    rwa [getD_of hi] at this
  · obtain ⟨i, hi, rfl⟩ := List.getElem_of_mem hx
    have := (h i hi).id
    rwa [getD_of hi] at this
  · obtain ⟨i, hi, rfl⟩ := List.getElem_of_mem hx
    have hl := (h i hi).latest
    rw [getD_of hi] at hl
    rw [hl]
    constructor
    · intro hm y hy hk
      obtain ⟨j, hj, rfl⟩ := List.getElem_of_mem hy
      by_cases c : j = i
      · subst c; exact Int.le_refl _
      · have := hm j hj c
        rw [getD_of hi, getD_of hj] at this
        exact Int.le_of_lt (this hk)
    · intro hm j hj hne hk
      rw [getD_of hi, getD_of hj] at hk ⊢
      have h1 := hm l[j] (List.getElem_mem hj) hk
      have h2 := ap i j hi hj hne hk
      omega
theorem FairM.perm {l m : List Ent} (h : FairM l) (hp : m.Perm l) : FairM m := by
  have e : ∀ x, x ∈ m ↔ x ∈ l := fun x => hp.mem_iff
  refine ⟨hp.symm.nodup h.nodup, fun x hx => h.key x ((e x).1 hx), fun x hx => h.id x ((e x).1 hx), fun x hx y hy => h.uniq x ((e x).1 hx) y ((e y).1 hy), fun x hx => ?_⟩
  rw [h.latest x ((e x).1 hx)]
  exact ⟨fun hh y hy => hh y ((e y).1 hy), fun hh y hy => hh y ((e y).2 hy)⟩
/-- Ahead: of a lesser key, or of one key and a greater id. -/
def AheadE (x y : Ent) : Prop := Op.bytesLess x.key.toList y.key.toList = true ∨ (x.key = y.key ∧ y.id < x.id)
theorem AheadE.not {x y : Ent} (h : AheadE x y) : ¬ AheadE y x := by
  rintro (c | ⟨c1, c2⟩)
  · rcases h with h | ⟨h, _⟩
    · rw [less_asymm _ _ h] at c; cases c
    · rw [h, less_irrefl] at c; cases c
  · rcases h with h | ⟨_, h⟩
    · rw [c1, less_irrefl] at h; cases h
    · omega
theorem AheadE.trans {x y z : Ent} (h : AheadE x y) (h' : AheadE y z) : AheadE x z := by
  rcases h with h | ⟨e, h⟩ <;> rcases h' with h' | ⟨e', h'⟩
  · exact .inl (less_trans _ _ _ h h')
  · exact .inl (by rw [← e']; exact h)
  · exact .inl (by rw [e]; exact h')
  · exact .inr ⟨e.trans e', by omega⟩
theorem ahead_total {x y : Ent} (h : ¬ AheadE x y) (h' : ¬ AheadE y x) : x.key = y.key ∧ x.id = y.id := by
  have h1 : Op.bytesLess x.key.toList y.key.toList = false := by rw [← Bool.not_eq_true]; exact fun c => h (.inl c)
  have h2 : Op.bytesLess y.key.toList x.key.toList = false := by rw [← Bool.not_eq_true]; exact fun c => h' (.inl c)
  have e : x.key = y.key := list_inj_data (less_total _ _ h1 h2)
  refine ⟨e, ?_⟩
  have h3 : ¬ y.id < x.id := fun c => h (.inr ⟨e, c⟩)
  have h4 : ¬ x.id < y.id := fun c => h' (.inr ⟨e.symm, c⟩)
  omega
/-- A fair row in order: each is ahead of all behind it. -/
theorem strictE {l : List Ent} (h : FairM l) (hs : SortedE l) : l.Pairwise AheadE := by
  have hs' : l.Pairwise fun x y => ltOf cfE y x = false := hs
  have key : ∀ x ∈ l, ∀ y ∈ l, (x ≠ y ∧ ltOf cfE y x = false) → AheadE x y := fun x hx y hy ⟨hne, hlt⟩ => by
    rw [ltE_not] at hlt
    rcases hlt with c | ⟨c1, c2⟩
    · exact .inl c
    · refine .inr ⟨c1.symm, ?_⟩
      by_cases e : x.id = y.id
      · exact absurd (h.uniq x hx y hy c1.symm e) hne
      · omega
  exact List.Pairwise.imp_of_mem (fun hx hy hh => key _ hx _ hy hh) (List.Pairwise.and h.nodup hs')
theorem sortE_unique {l m : List Ent} (h : FairM l) (hp : m.Perm l) {l' m' : List Ent} (h1 : l'.Perm l) (s1 : SortedE l') (h2 : m'.Perm m) (s2 : SortedE m') : l' = m' :=
  sortedE_unique (h.perm h1).uniq (h1.trans (hp.symm.trans h2.symm)) s1 s2
/-- What PageSorts asks of neighbours. -/
theorem nextE {l : List Ent} (h : FairM l) (hs : SortedE l) (k : Nat) (hk : k + 1 < l.length) :
    Op.bytesLess (l[k + 1]).key.toList (l[k]).key.toList = false ∧ ((l[k + 1]).key = (l[k]).key → (l[k + 1]).id < (l[k]).id ∧ (l[k + 1]).latest = false) := by
  have ha := (List.pairwise_iff_getElem.1 (strictE h hs)) k (k + 1) (by omega) hk (by omega)
  constructor
  · rw [← Bool.not_eq_true]
    exact fun c => ha.not (.inl c)
  · intro he
    rcases ha with c | ⟨_, c⟩
    · rw [he, less_irrefl] at c; cases c
    · refine ⟨c, ?_⟩
      rw [← Bool.not_eq_true, h.latest _ (List.getElem_mem hk)]
      intro hh
      have := hh _ (List.getElem_mem (show k < l.length by omega)) he.symm
      omega
end Go.Proofs.YtjbjcfnbgcloiaaDoor

namespace Go.Proofs.YtjbjcfnbgcloiaaDoor
open Go.Shelf Go.RowKit Go.Lib Go.Sort Srt Nam

/-- A whole row in one page. -/
theorem cutKey_all {n : Nat} {f : List Ent} (h : f.length ≤ n) : cutKey n f = ⟨#[]⟩ := if_neg (by omega)
theorem cutId_all {n : Nat} {f : List Ent} (h : f.length ≤ n) : cutId n f = 0 := if_neg (by omega)
/-- The page of versions, of a fair row in its order S. -/
theorem vers_at {l S : List Ent} (FM : FairM l) (hp : S.Perm l) (hs : SortedE S) (q : AskV) (hl : l.length ≤ 1000000) (hk : ∀ x ∈ l, x.key.size ≤ maxLen) (hq : q.pre.size ≤ maxLen) (hm : 1 ≤ q.most ∧ q.most ≤ 1000) (v : Value) (w : World) (hv : RowE w v l) :
    Calls Tryd.prog 28 #[v, .agg #[.string q.pre, .string q.fr, .int .i64 q.fid, .int .i64 q.most]] w fun e w' =>
      ∃ sv, RowE w' sv ((selE (verB q) q S).take q.most.toNat) ∧ (∀ b o n c, sv = .slice (some ⟨b, o, none⟩) n c → w.heap.size ≤ b) ∧ Below w.heap.size w w' ∧
        e = .returned (.tuple #[.agg #[sv, .bool (decide (q.most.toNat < (selE (verB q) q S).length)), .string (cutKey q.most.toNat (selE (verB q) q S)), .int .i64 (cutId q.most.toNat (selE (verB q) q S))], .int .i64 0]) := by
  refine Calls.mono (pvers_is q l hl hk hq hm v w hv) ?_
  rintro e w' ⟨l', sv, hp', hs', h1, h2, h3, h4⟩
  obtain rfl : l' = S := sortE_unique FM (List.Perm.refl l) hp' hs' hp hs
  exact ⟨sv, h1, h2, h3, h4⟩
/-- .. of objects. -/
theorem objs_at {l S : List Ent} (FM : FairM l) (hp : S.Perm l) (hs : SortedE S) (q : AskV) (hl : l.length ≤ 1000000) (hk : ∀ x ∈ l, x.key.size ≤ maxLen) (hq : q.pre.size ≤ maxLen) (hm : 1 ≤ q.most ∧ q.most ≤ 1000) (v : Value) (w : World) (hv : RowE w v l) :
    Calls Tryd.prog 29 #[v, .agg #[.string q.pre, .string q.fr, .int .i64 q.fid, .int .i64 q.most]] w fun e w' =>
      ∃ sv, RowE w' sv ((selE (objB q) q S).take q.most.toNat) ∧ (∀ b o n c, sv = .slice (some ⟨b, o, none⟩) n c → w.heap.size ≤ b) ∧ Below w.heap.size w w' ∧
        e = .returned (.tuple #[.agg #[sv, .bool (decide (q.most.toNat < (selE (objB q) q S).length)), .string (cutKey q.most.toNat (selE (objB q) q S)), .int .i64 0], .int .i64 0]) := by
  refine Calls.mono (objects_is q l hl hk hq hm v w hv) ?_
  rintro e w' ⟨l', sv, hp', hs', h1, h2, h3, h4⟩
  obtain rfl : l' = S := sortE_unique FM (List.Perm.refl l) hp' hs' hp hs
  exact ⟨sv, h1, h2, h3, h4⟩
/-- There is the sorted order. -/
theorem sorted_ex (l : List Ent) : ∃ S : List Ent, S.Perm l ∧ SortedE S := by
  induction l with
  | nil => exact ⟨[], List.Perm.refl _, List.Pairwise.nil⟩
  | cons x t ih =>
    obtain ⟨S, h1, h2⟩ := ih
    have h2' : S.Pairwise fun x y => ltOf cfE y x = false := h2
    refine ⟨S.filter (fun y => !ltOf cfE x y) ++ x :: S.filter (fun y => ltOf cfE x y), ?_, ?_⟩
    · refine List.perm_middle.trans (List.Perm.cons _ ?_)
      refine List.Perm.trans ?_ h1
      have := List.filter_append_perm (fun y => ltOf cfE x y) S
      exact List.perm_append_comm.trans this
    · show List.Pairwise _ _
      rw [List.pairwise_append]
      refine ⟨h2'.filter _, List.Pairwise.cons (fun y hy => ?_) (h2'.filter _), fun a ha y hy => ?_⟩
      · have := (List.mem_filter.1 hy).2
        have c : AheadE x y := (ltE_iff x y).1 this
        rw [← Bool.not_eq_true, ltE_iff]
        exact c.not
      · have ha2 : ltOf cfE x a = false := by simpa using (List.mem_filter.1 ha).2
        rcases List.mem_cons.1 hy with rfl | hy
        · exact ha2
        · have c : AheadE x y := (ltE_iff x y).1 (List.mem_filter.1 hy).2
          rw [← Bool.not_eq_true, ltE_iff]
          intro h
          have : ltOf cfE x a = true := (ltE_iff x a).2 (AheadE.trans c h)
          rw [ha2] at this
          cases this
theorem selE_length_le (p : Ent → Bool) (q : AskV) (l : List Ent) : (selE p q l).length ≤ l.length := List.length_filter_le _ _
/-- One entry in a block of its own. -/
theorem rowE_one (w : World) (x : Ent) : RowE (w.alloc (.cells #[.string x.key, .int .i64 x.id, .bool x.mark, .int .i64 x.size, .int .u32 x.sum, .bool x.latest] 49)) (.slice (some ⟨w.heap.size, 0, none⟩) 1 1) [x] :=
  .inr ⟨w.heap.size, 0, 1, rfl, by simp, fun j u hj => by
    rw [Nat.zero_add]
    exact (cells_of_heap (heap_alloc_new w _)).1 j u (by simpa [encE] using hj)⟩
theorem prefixB_nil (l : List UInt8) : prefixB l [] = true := by simp [prefixB]
theorem verB_none (q : AskV) (h : q.fr = ⟨#[]⟩) (x : Ent) : verB q x = true := by
  unfold verB
  rw [h]
  simp [ByteArray.toList_eq]
theorem selE_all (s : ByteArray) (n : Int) (S : List Ent) : selE (verB ⟨s, ⟨#[]⟩, 0, n⟩) ⟨s, ⟨#[]⟩, 0, n⟩ S = S.filter fun x => prefixB x.key.data.toList s.data.toList := by
  unfold selE
  congr 1
  funext x
  rw [verB_none _ rfl, Bool.and_true]
theorem selE_whole (n : Int) (S : List Ent) : selE (verB ⟨⟨#[]⟩, ⟨#[]⟩, 0, n⟩) ⟨⟨#[]⟩, ⟨#[]⟩, 0, n⟩ S = S := by
  rw [selE_all]
  rw [List.filter_eq_self]
  intro x _
  exact prefixB_nil _
/-- All of a prefix in one page. -/
theorem vers_all {l S : List Ent} (FM : FairM l) (hp : S.Perm l) (hs : SortedE S) (s : ByteArray) (hl : l.length ≤ 1000) (hk : ∀ x ∈ l, x.key.size ≤ maxLen) (hq : s.size ≤ maxLen) (v : Value) (w : World) (hv : RowE w v l) :
    Calls Tryd.prog 28 #[v, .agg #[.string s, .string ⟨#[]⟩, .int .i64 0, .int .i64 1000]] w fun e w' =>
      ∃ sv, RowE w' sv (S.filter fun x => prefixB x.key.data.toList s.data.toList) ∧ Below w.heap.size w w' ∧
        e = .returned (.tuple #[.agg #[sv, .bool false, .string ⟨#[]⟩, .int .i64 0], .int .i64 0]) := by
  refine Calls.mono (vers_at FM hp hs ⟨s, ⟨#[]⟩, 0, 1000⟩ (by omega) hk hq ⟨show (1 : Int) ≤ 1000 by decide, show (1000 : Int) ≤ 1000 by decide⟩ v w hv) ?_
  rintro e w' ⟨sv, h1, _, h3, h4⟩
  have e1 : (⟨s, ⟨#[]⟩, 0, 1000⟩ : AskV).most.toNat = 1000 := rfl
  have hF : (S.filter fun x => prefixB x.key.data.toList s.data.toList).length ≤ 1000 := Nat.le_trans (List.length_filter_le _ _) (by have := hp.length_eq; omega)
  rw [e1, selE_all, List.take_of_length_le hF] at h1
  rw [e1, selE_all, decide_eq_false (by omega), cutKey_all hF, cutId_all hF] at h4
  exact ⟨sv, h1, h3, h4⟩
end Go.Proofs.YtjbjcfnbgcloiaaDoor

/- page.Objects, page.Versions: an ask of too few or too many; what both answer, said at once. -/
namespace Go.Proofs.YtjbjcfnbgcloiaaDoor
open Go.Shelf Go.RowKit Go.Lib Nam

abbrev ansP (sv : Value) (m : Bool) (k : ByteArray) (i er : Int) : Ending := .returned (.tuple #[.agg #[sv, .bool m, .string k, .int .i64 i], .int .i64 er])
abbrev BadP (w : World) (e : Ending) (w' : World) : Prop := e = ansP (.slice none 0 0) false ⟨#[]⟩ 0 1 ∧ Below w.heap.size w w'
set_option maxHeartbeats 2000000 in
set_option maxRecDepth 100000 in
theorem cut_bad (q : AskV) (hm : ¬ (1 ≤ q.most ∧ q.most ≤ 1000)) (v cl : Value) (w : World) :
    Calls Tryd.prog 49 #[v, .agg (encA q).toArray, cl] w (BadP w) := by
  obtain ⟨pre, fr, fid, most⟩ := q
  unfold encA
  simp only [] at hm
  have hf : ∀ W : World, W = (w.alloc (.cells #[.string pre, .string fr, .int .i64 fid, .int .i64 most] 47)).alloc (.cells #[.slice none 0 0, .bool false, .string ⟨#[]⟩, .int .i64 0] 44) →
      W.heap[w.heap.size + 1]? = some (.cells #[.slice none 0 0, .bool false, .string ⟨#[]⟩, .int .i64 0] 44 (0, 0)) ∧ Below w.heap.size w W := fun W hW => by
    rw [hW]
    have := heap_alloc_new (w.alloc (.cells #[.string pre, .string fr, .int .i64 fid, .int .i64 most] 47)) (.cells #[.slice none 0 0, .bool false, .string ⟨#[]⟩, .int .i64 0] 44)
    exact ⟨by simpa using this, ((Below.refl _ _).alloc (Nat.le_refl _) _).alloc (by simp) _⟩
  have HF := Lib.hid hf; clear hf
  by_cases h1 : most < 1
  · clear hm
    go_enter Tryd.func49, Tryd.ntmps49
    go_wp2
    (try simp only [Exit.inBlock, Exit.then])
    obtain ⟨h31, hb⟩ := HF.out _ rfl
    refine bodyPost_ret (ret_pair rfl _ _ (w.heap.size + 1) _ _ _ _ rfl h31 Tryd.underlying44 rfl (by kernel_rfl)) rfl ?_
    exact ⟨rfl, hb⟩
  · have h2 : 1000 < most := by omega
    clear hm
    go_enter Tryd.func49, Tryd.ntmps49
    go_wp2
    (try simp only [Exit.inBlock, Exit.then])
    obtain ⟨h31, hb⟩ := HF.out _ rfl
    refine bodyPost_ret (ret_pair rfl _ _ (w.heap.size + 1) _ _ _ _ rfl h31 Tryd.underlying44 rfl (by kernel_rfl)) rfl ?_
    exact ⟨rfl, hb⟩
set_option maxHeartbeats 4000000 in
set_option maxRecDepth 100000 in
theorem vers_bad (q : AskV) (hm : ¬ (1 ≤ q.most ∧ q.most ≤ 1000)) (v : Value) (w : World) :
    Calls Tryd.prog 28 #[v, .agg (encA q).toArray] w (BadP w) := by
  obtain ⟨w2, hw2⟩ : ∃ w2, (w.alloc (.cells (encA q).toArray 47)).alloc (.cells #[.slice none 0 0, .bool false, .string ⟨#[]⟩, .int .i64 0] 44) = w2 := ⟨_, rfl⟩
  have s2 : w2.heap.size = w.heap.size + 2 := by rw [← hw2]; simp
  have hb2 : Below w.heap.size w w2 := by
    rw [← hw2]
    exact ((Below.refl _ _).alloc (Nat.le_refl _) _).alloc (by simp) _
  have h21 : w2.heap[w.heap.size + 1]? = some (.cells #[.slice none 0 0, .bool false, .string ⟨#[]⟩, .int .i64 0] 44 (0, 0)) := by
    rw [← hw2]
    have := heap_alloc_new (w.alloc (.cells (encA q).toArray 47)) (.cells #[.slice none 0 0, .bool false, .string ⟨#[]⟩, .int .i64 0] 44)
    simpa using this
  have HC := Lib.hid (cut_bad q hm v (.func (.func 50) #[] #[.pointer (some ⟨w.heap.size, 0, none⟩)]) w2)
  have HW := Lib.hid hw2; clear hw2
  obtain ⟨pre, fr, fid, most⟩ := q
  unfold encA at HC HW ⊢
  clear hm
  go_enter Tryd.func28, Tryd.ntmps28
  go_wp2_with fail
  rw [show (w.alloc (.cells #[.string pre, .string fr, .int .i64 fid, .int .i64 most] 47)).alloc (.cells #[.slice none 0 0, .bool false, .string ⟨#[]⟩, .int .i64 0] 44) = w2 from HW.out]
  refine HC.out.mono ?_
  rintro e w3 ⟨rfl, hb3⟩
  have h31 : w3.heap[w.heap.size + 1]? = some (.cells #[.slice none 0 0, .bool false, .string ⟨#[]⟩, .int .i64 0] 44 (0, 0)) := (hb3.block _ (by omega)).trans h21
  have r0 : w3.cell? ⟨w.heap.size + 1, 0, none⟩ = some (.slice none 0 0) := (cells_of_heap h31).1 0 _ rfl
  have r1 : w3.cell? ⟨w.heap.size + 1, 1, none⟩ = some (.bool false) := (cells_of_heap h31).1 1 _ rfl
  have r2 : w3.cell? ⟨w.heap.size + 1, 2, none⟩ = some (.string ⟨#[]⟩) := (cells_of_heap h31).1 2 _ rfl
  have r3 : w3.cell? ⟨w.heap.size + 1, 3, none⟩ = some (.int .i64 0) := (cells_of_heap h31).1 3 _ rfl
  have z0 : w3.frozen? ⟨w.heap.size + 1, 0, none⟩ = false := (cells_of_heap h31).2 0
  have z1 : w3.frozen? ⟨w.heap.size + 1, 1, none⟩ = false := (cells_of_heap h31).2 1
  have z2 : w3.frozen? ⟨w.heap.size + 1, 2, none⟩ = false := (cells_of_heap h31).2 2
  have z3 : w3.frozen? ⟨w.heap.size + 1, 3, none⟩ = false := (cells_of_heap h31).2 3
  have H31 := Lib.hid h31; clear h31
  have HB := Lib.hid (hb2.trans (hb3.mono (by omega)))
  clear h21 hb2 hb3 s2
  go_wp2
  (try simp only [Exit.inBlock, Exit.then])
  have h61 := heap_set (heap_set (heap_set (heap_set H31.out 0 (.slice none 0 0)) 1 (.bool false)) 2 (.string ⟨#[]⟩)) 3 (.int .i64 0)
  refine bodyPost_ret (ret_pair rfl _ _ (w.heap.size + 1) _ _ _ _ rfl h61 Tryd.underlying44 rfl (by kernel_rfl)) rfl ?_
  exact ⟨rfl, (((HB.out.setCell (p := ⟨w.heap.size + 1, 0, none⟩) (Nat.le_succ _) _).setCell (p := ⟨w.heap.size + 1, 1, none⟩) (Nat.le_succ _) _).setCell (p := ⟨w.heap.size + 1, 2, none⟩) (Nat.le_succ _) _).setCell (p := ⟨w.heap.size + 1, 3, none⟩) (Nat.le_succ _) _⟩
set_option maxHeartbeats 4000000 in
set_option maxRecDepth 100000 in
theorem objs_bad (q : AskV) (hm : ¬ (1 ≤ q.most ∧ q.most ≤ 1000)) (v : Value) (w : World) :
    Calls Tryd.prog 29 #[v, .agg (encA q).toArray] w (BadP w) := by
  obtain ⟨w2, hw2⟩ : ∃ w2, (w.alloc (.cells (encA q).toArray 47)).alloc (.cells #[.slice none 0 0, .bool false, .string ⟨#[]⟩, .int .i64 0] 44) = w2 := ⟨_, rfl⟩
  have s2 : w2.heap.size = w.heap.size + 2 := by rw [← hw2]; simp
  have hb2 : Below w.heap.size w w2 := by
    rw [← hw2]
    exact ((Below.refl _ _).alloc (Nat.le_refl _) _).alloc (by simp) _
  have h21 : w2.heap[w.heap.size + 1]? = some (.cells #[.slice none 0 0, .bool false, .string ⟨#[]⟩, .int .i64 0] 44 (0, 0)) := by
    rw [← hw2]
    have := heap_alloc_new (w.alloc (.cells (encA q).toArray 47)) (.cells #[.slice none 0 0, .bool false, .string ⟨#[]⟩, .int .i64 0] 44)
    simpa using this
  have HC := Lib.hid (cut_bad q hm v (.func (.func 52) #[] #[.pointer (some ⟨w.heap.size, 0, none⟩)]) w2)
  have HW := Lib.hid hw2; clear hw2
  obtain ⟨pre, fr, fid, most⟩ := q
  unfold encA at HC HW ⊢
  clear hm
  go_enter Tryd.func29, Tryd.ntmps29
  go_wp2_with fail
  rw [show (w.alloc (.cells #[.string pre, .string fr, .int .i64 fid, .int .i64 most] 47)).alloc (.cells #[.slice none 0 0, .bool false, .string ⟨#[]⟩, .int .i64 0] 44) = w2 from HW.out]
  refine HC.out.mono ?_
  rintro e w3 ⟨rfl, hb3⟩
  have h31 : w3.heap[w.heap.size + 1]? = some (.cells #[.slice none 0 0, .bool false, .string ⟨#[]⟩, .int .i64 0] 44 (0, 0)) := (hb3.block _ (by omega)).trans h21
  have hlt3 : w.heap.size + 1 < w3.heap.size := by have := hb3.size; omega
  have H31 := Lib.hid h31; clear h31
  have HB := Lib.hid (hb2.trans (hb3.mono (by omega)))
  have HB3 := Lib.hid hb3
  clear h21 hb2 hb3
  go_upto_region 3 with (fail)
  obtain ⟨W5, hW5⟩ : ∃ W5, w3.alloc (.cells #[.slice none 0 0, .bool false, .string ⟨#[]⟩, .int .i64 0] 44) = W5 := ⟨_, rfl⟩
  rw [hW5]
  have h35 : W5.heap[w.heap.size + 1]? = some (.cells #[.slice none 0 0, .bool false, .string ⟨#[]⟩, .int .i64 0] 44 (0, 0)) := by rw [← hW5, heap_alloc_old _ _ hlt3]; exact H31.out
  have h55 : W5.heap[w3.heap.size]? = some (.cells #[.slice none 0 0, .bool false, .string ⟨#[]⟩, .int .i64 0] 44 (0, 0)) := by rw [← hW5]; exact heap_alloc_new w3 _
  have HB5 : Hid (Below w.heap.size w W5) := by show Below _ _ _; rw [← hW5]; exact HB.out.alloc HB.out.size _
  have r0 : W5.cell? ⟨w.heap.size + 1, 0, none⟩ = some (.slice none 0 0) := (cells_of_heap h35).1 0 _ rfl
  have r1 : W5.cell? ⟨w.heap.size + 1, 1, none⟩ = some (.bool false) := (cells_of_heap h35).1 1 _ rfl
  have r2 : W5.cell? ⟨w.heap.size + 1, 2, none⟩ = some (.string ⟨#[]⟩) := (cells_of_heap h35).1 2 _ rfl
  have r3 : W5.cell? ⟨w.heap.size + 1, 3, none⟩ = some (.int .i64 0) := (cells_of_heap h35).1 3 _ rfl
  have z0 : W5.frozen? ⟨w.heap.size + 1, 0, none⟩ = false := (cells_of_heap h35).2 0
  have z1 : W5.frozen? ⟨w.heap.size + 1, 1, none⟩ = false := (cells_of_heap h35).2 1
  have z2 : W5.frozen? ⟨w.heap.size + 1, 2, none⟩ = false := (cells_of_heap h35).2 2
  have z3 : W5.frozen? ⟨w.heap.size + 1, 3, none⟩ = false := (cells_of_heap h35).2 3
  have y0 : W5.cell? ⟨w3.heap.size, 0, none⟩ = some (.slice none 0 0) := (cells_of_heap h55).1 0 _ rfl
  have y1 : W5.cell? ⟨w3.heap.size, 1, none⟩ = some (.bool false) := (cells_of_heap h55).1 1 _ rfl
  have y2 : W5.cell? ⟨w3.heap.size, 2, none⟩ = some (.string ⟨#[]⟩) := (cells_of_heap h55).1 2 _ rfl
  have y3 : W5.cell? ⟨w3.heap.size, 3, none⟩ = some (.int .i64 0) := (cells_of_heap h55).1 3 _ rfl
  have H35 := Lib.hid h35
  clear hW5 h35 h55 s2
  go_wp2
  (try simp only [Exit.inBlock, Exit.then])
  have h61 := heap_set (heap_set (heap_set (heap_set H35.out 0 (.slice none 0 0)) 1 (.bool false)) 2 (.string ⟨#[]⟩)) 3 (.int .i64 0)
  refine bodyPost_ret (ret_pair rfl _ _ (w.heap.size + 1) _ _ _ _ rfl h61 Tryd.underlying44 rfl (by kernel_rfl)) rfl ?_
  exact ⟨rfl, (((HB5.out.setCell (p := ⟨w.heap.size + 1, 0, none⟩) (Nat.le_succ _) _).setCell (p := ⟨w.heap.size + 1, 1, none⟩) (Nat.le_succ _) _).setCell (p := ⟨w.heap.size + 1, 2, none⟩) (Nat.le_succ _) _).setCell (p := ⟨w.heap.size + 1, 3, none⟩) (Nat.le_succ _) _⟩

/-! ### what both answer, at once -/
/-- A page function at an ask: the entries' part, or an error of the ask. -/
def PageAns (ok : Bool) (Res : List Ent → List Ent → Bool → ByteArray → Int → Prop) (l : List Ent) (V : World) (e : Ending) (w' : World) : Prop :=
  if ok then (∃ (sv : Value) (o : List Ent) (m : Bool) (k : ByteArray) (i : Int), e = ansP sv m k i 0 ∧ RowE w' sv o ∧ (∀ b f n c, sv = .slice (some ⟨b, f, none⟩) n c → V.heap.size ≤ b) ∧ Res l o m k i) ∧ Below V.heap.size V w' else BadP V e w'
theorem pageAns_ok {Res : List Ent → List Ent → Bool → ByteArray → Int → Prop} {l : List Ent} {V : World} {e : Ending} {w' : World} : PageAns true Res l V e w' ↔ (∃ (sv : Value) (o : List Ent) (m : Bool) (k : ByteArray) (i : Int), e = ansP sv m k i 0 ∧ RowE w' sv o ∧ (∀ b f n c, sv = .slice (some ⟨b, f, none⟩) n c → V.heap.size ≤ b) ∧ Res l o m k i) ∧ Below V.heap.size V w' := by
  unfold PageAns
  rw [if_pos rfl]
theorem pageAns_bad {Res : List Ent → List Ent → Bool → ByteArray → Int → Prop} {l : List Ent} {V : World} {e : Ending} {w' : World} : PageAns false Res l V e w' ↔ BadP V e w' := by
  unfold PageAns
  rw [if_neg Bool.false_ne_true]
def okA (q : AskV) : Bool := decide (1 ≤ q.most ∧ q.most ≤ 1000)
def VerR (q : AskV) (l o : List Ent) (m : Bool) (k : ByteArray) (i : Int) : Prop := ∃ l', l'.Perm l ∧ SortedE l' ∧ o = (selE (verB q) q l').take q.most.toNat ∧ m = decide (q.most.toNat < (selE (verB q) q l').length) ∧ k = cutKey q.most.toNat (selE (verB q) q l') ∧ i = cutId q.most.toNat (selE (verB q) q l')
def ObjR (q : AskV) (l o : List Ent) (m : Bool) (k : ByteArray) (i : Int) : Prop := ∃ l', l'.Perm l ∧ SortedE l' ∧ o = (selE (objB q) q l').take q.most.toNat ∧ m = decide (q.most.toNat < (selE (objB q) q l').length) ∧ k = cutKey q.most.toNat (selE (objB q) q l') ∧ i = 0
/-- A function of entries and an ask that answers so. -/
def PageF (gp : Nat) (q : AskV) (Res : List Ent → List Ent → Bool → ByteArray → Int → Prop) : Prop :=
  (∀ args w, (callFunc gp args).run Tryd.prog w = .ok (.enter gp args) w) ∧
  ∀ (l : List Ent) (v : Value) (V : World), l.length ≤ 1000000 → (∀ x ∈ l, x.key.size ≤ maxLen) → RowE V v l → Calls Tryd.prog gp #[v, .agg #[.string q.pre, .string q.fr, .int .i64 q.fid, .int .i64 q.most]] V (PageAns (okA q) Res l V)
theorem versF (q : AskV) (hq : q.pre.size ≤ maxLen) : PageF 28 q (VerR q) := by
  refine ⟨enters_of Tryd.func28 (by kernel_rfl) rfl, fun l v V hl hk hv => ?_⟩
  unfold okA
  by_cases hm : 1 ≤ q.most ∧ q.most ≤ 1000
  · rw [decide_eq_true hm]
    exact (pvers_is q l hl hk hq hm v V hv).mono fun e w' ⟨l', sv, h1, h2, h3, h4, h5, h6⟩ => pageAns_ok.2 ⟨⟨sv, _, _, _, _, h6, h3, h4, l', h1, h2, rfl, rfl, rfl, rfl⟩, h5⟩
  · rw [decide_eq_false hm]
    exact (vers_bad q hm v V).mono fun _ _ h => pageAns_bad.2 h
theorem objsF (q : AskV) (hq : q.pre.size ≤ maxLen) : PageF 29 q (ObjR q) := by
  refine ⟨enters_of Tryd.func29 (by kernel_rfl) rfl, fun l v V hl hk hv => ?_⟩
  unfold okA
  by_cases hm : 1 ≤ q.most ∧ q.most ≤ 1000
  · rw [decide_eq_true hm]
    exact (objects_is q l hl hk hq hm v V hv).mono fun e w' ⟨l', sv, h1, h2, h3, h4, h5, h6⟩ => pageAns_ok.2 ⟨⟨sv, _, _, _, _, h6, h3, h4, l', h1, h2, rfl, rfl, rfl, rfl⟩, h5⟩
  · rw [decide_eq_false hm]
    exact (objs_bad q hm v V).mono fun _ _ h => pageAns_bad.2 h
end Go.Proofs.YtjbjcfnbgcloiaaDoor
