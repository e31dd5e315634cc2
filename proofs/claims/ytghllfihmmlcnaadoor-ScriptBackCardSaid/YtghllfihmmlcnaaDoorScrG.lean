/- set and count of package script: a field of a choice in memory. -/
import Derived.Test.YtghllfihmmlcnaaDoorScrF
namespace Go.Proofs.YtghllfihmmlcnaaDoor
open Go.RowKit Nam YtghllfihmmlcnaaDoorW.PrintWords

/-- A choice of the call's own in block g; its bytes lie elsewhere. -/
def Box (w : World) (g : Nat) (P : Nat → Prop) (x : Ch) : Prop := ∃ v, w.heap[g]? = some (.cells (chCells x v).toArray 44 (0, 0)) ∧ Dt w (fun k => P k ∧ k ≠ g) v x.dt
/-- A field is set as it was written; none: so none is written. -/
def setC (x : Ch) (f : Nat) (s : List UInt8) : Option Ch :=
  match f with
  | 0 => if (readB s).2 then some { x with bk := (readB s).1 } else none
  | 1 => if (readB s).2 then some { x with ky := (readB s).1 } else none
  | 2 => if (readB s).2 then some { x with dt := (readB s).1 } else none
  | 3 => (numOf s).map fun v => { x with n := v }
  | 4 => (numOf s).map fun v => { x with a := v }
  | 5 => if (readB s).2 then some { x with pf := (readB s).1 } else none
  | 6 => if (readB s).2 then some { x with fr := (readB s).1 } else none
  | 7 => (numOf s).map fun v => { x with fi := v }
  | _ => (numOf s).map fun v => { x with mo := v }
def SetIs (x : Ch) (f : Nat) (s : List UInt8) (w : World) (g : Nat) (P : Nat → Prop) (e : Ending) (w' : World) : Prop :=
  ∃ y, e = .returned (.bool (setC x f s).isSome) ∧ (∀ z, setC x f s = some z → y = z) ∧ Box w' g P y ∧ w.grownBy w' (some g) ∧ (∀ m, x.Ok m → s.length ≤ m → y.Ok m)

theorem unp_le : ∀ (s m : List UInt8), unp s = some m → m.length ≤ s.length
  | [], m, h => by simp only [unp, Option.some.injEq] at h; subst h; exact Nat.le_refl _
  | [_], m, h => by simp [unp] at h
  | x :: y :: t, m, h => by
    simp only [unp] at h
    split at h
    · cases h
    · cases ht : unp t with
      | none => rw [ht] at h; cases h
      | some z =>
        rw [ht] at h
        simp only [Option.map_some, Option.some.injEq] at h
        subst h
        have := unp_le t z ht
        simp; omega
theorem readB_le (s : List UInt8) : (readB s).1.length ≤ s.length := by
  unfold readB
  split
  · exact Nat.zero_le _
  · cases h : unp s with
    | none => exact Nat.zero_le _
    | some m => exact unp_le s m h

theorem grown_set {w w1 : World} (hb : Below w.heap.size w w1) (g j : Nat) (u : Value) : w.grownBy (w1.setCell ⟨g, j, none⟩ u) (some g) :=
  ⟨hb.os, hb.tape, hb.output, by rw [show (w1.setCell ⟨g, j, none⟩ u).heap.size = w1.heap.size by simp [World.setCell]]; exact hb.size, fun k hk hne => by
    rw [Below.heap_setCell w1 _ u k (fun e => hne (by rw [e]))]
    exact hb.block k hk⟩
theorem box_set {w w1 : World} {g : Nat} {P : Nat → Prop} {x y : Ch} {v : Value} (hb : Below w.heap.size w w1) (h1 : w.heap[g]? = some (.cells (chCells x v).toArray 44 (0, 0))) (h2 : Dt w (fun k => P k ∧ k ≠ g) v x.dt) (j : Nat) (u : Value)
    (e : (chCells x v).toArray.setIfInBounds j u = (chCells y v).toArray) (hd : y.dt = x.dt) : Box (w1.setCell ⟨g, j, none⟩ u) g P y :=
  ⟨v, blk_put (blk_below h1 hb) j u e, by rw [hd]; exact Kd.V_far (Kd.V_below h2 hb) (p := ⟨g, j, none⟩) (fun _ hk => hk.2) u⟩

set_option maxHeartbeats 4000000 in
theorem count_is (x : Ch) (f : Nat) (hf : f = 3 ∨ f = 4 ∨ f = 7 ∨ f = 8) (s : List UInt8) (g : Nat) (P : Nat → Prop) (w : World) (hb : Box w g P x) (hs : s.length ≤ 65536) (hE : Env w) :
    Calls Tryd.prog 43 #[.pointer (some ⟨g, 0, none⟩), .int .i64 f, .string (mkS s)] w (SetIs x f s w g P) := by
  have hnum : ∀ (n : Int) (w1 : World) (y : Ch) (b : Bool), b = (numOf s).isSome → (∀ v, numOf s = some v → n = v) → setC x f s = (numOf s).map (fun _ => y) → Box w1 g P y → w.grownBy w1 (some g) → (∀ m, x.Ok m → y.Ok m) → SetIs x f s w g P (.returned (.bool b)) w1 := by
    intro n w1 y b hbe hn hset hbox hgr hok
    refine ⟨y, ?_, fun z hz => ?_, hbox, hgr, fun m h1 _ => hok m h1⟩
    · rw [hset, hbe, Option.isSome_map]
    · rw [hset] at hz
      cases hh : numOf s with
      | none => rw [hh] at hz; cases hz
      | some v => rw [hh] at hz; injection hz
  have HN := Lib.hid hnum; clear hnum
  obtain ⟨v, hblk, hdt⟩ := hb
  have c4 := blk_cell hblk 4
  have HBL := Lib.hid hblk; clear hblk
  have HD := Lib.hid hdt; clear hdt
  have HE := Lib.hid hE; clear hE
  have key : ∀ (n : Int) (hn : ∀ v, numOf s = some v → n = v) (f' : Nat → Int → Ch → Ch), True := fun _ _ _ => trivial
  clear key c4
  rcases hf with rfl | rfl | rfl | rfl
  all_goals
    go_enter Tryd.func43, Tryd.ntmps43
    go_wp2_with fail
    refine (preadnumber_is s _ hs HE.out).mono ?_
    rintro e w1 ⟨⟨n, rfl, hn, hn0, hn1⟩, hb1⟩
    have HNN := Lib.hid hn; clear hn
    have hb2 := blk_below HBL.out hb1
    have c4 := (blk_cell hb2 4).trans rfl
    have c5 := (blk_cell hb2 5).trans rfl
    have c8 := (blk_cell hb2 8).trans rfl
    have c9 := (blk_cell hb2 9).trans rfl
    have f4 := blk_frozen hb2 4
    have f5 := blk_frozen hb2 5
    have f8 := blk_frozen hb2 8
    have f9 := blk_frozen hb2 9
    have HB1 := Lib.hid hb1; clear hb1 hb2
    go_wp2
    go_ret
  · exact HN.out n _ { x with n := n } _ rfl HNN.out (by unfold setC; cases h : numOf s with | none => rfl | some v => rw [HNN.out v h]; rfl) (box_set HB1.out HBL.out HD.out 4 _ rfl rfl) (grown_set HB1.out g 4 _) (fun m h => { h with n := ⟨hn0, hn1⟩ })
  · exact HN.out n _ { x with a := n } _ rfl HNN.out (by unfold setC; cases h : numOf s with | none => rfl | some v => rw [HNN.out v h]; rfl) (box_set HB1.out HBL.out HD.out 5 _ rfl rfl) (grown_set HB1.out g 5 _) (fun m h => { h with a := ⟨hn0, hn1⟩ })
  · exact HN.out n _ { x with fi := n } _ rfl HNN.out (by unfold setC; cases h : numOf s with | none => rfl | some v => rw [HNN.out v h]; rfl) (box_set HB1.out HBL.out HD.out 8 _ rfl rfl) (grown_set HB1.out g 8 _) (fun m h => { h with fi := ⟨hn0, hn1⟩ })
  · exact HN.out n _ { x with mo := n } _ rfl HNN.out (by unfold setC; cases h : numOf s with | none => rfl | some v => rw [HNN.out v h]; rfl) (box_set HB1.out HBL.out HD.out 9 _ rfl rfl) (grown_set HB1.out g 9 _) (fun m h => { h with mo := ⟨hn0, hn1⟩ })
end Go.Proofs.YtghllfihmmlcnaaDoor
