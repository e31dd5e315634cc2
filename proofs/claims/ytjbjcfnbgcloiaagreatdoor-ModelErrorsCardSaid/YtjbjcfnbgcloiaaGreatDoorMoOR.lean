/- full$1 of package model: is a row empty? -/
import Derived.Test.YtjbjcfnbgcloiaaGreatDoorMoN

namespace Go.Proofs.YtjbjcfnbgcloiaaGreatDoor
open Go.RowKit Nam YtjbjcfnbgcloiaaGreatDoorW.PrintWords

set_option maxRecDepth 100000 in
theorem fullp_is (w : World) (s : Value) (A : Option Addr) (n c : Nat) :
    Calls Tryz.prog 58 #[s, .slice A n c] w fun e w' => e = .returned (.bool (decide (n = 0))) ∧ w = w' := by
  by_cases h : n = 0
  · subst h
    have hz : decide ((0 : Int) = 0) = true := by decide
    go_enter Tryz.func58, Tryz.ntmps58
    go_wp2_with fail
    go_ret
    exact ⟨rfl, rfl⟩
  · have hd : decide ((n : Int) = 0) = false := decide_eq_false (by omega)
    have hd2 : ((n : Int) == 0) = false := by simp; omega
    have HH : Hid (decide (n = 0) = false) := decide_eq_false h
    rw [HH.out]
    go_enter Tryz.func58, Tryz.ntmps58
    go_wp2_with fail
    go_ret
    simp [hd2]
end Go.Proofs.YtjbjcfnbgcloiaaGreatDoor

/- full of package model: a bucket's keys that have versions. -/
namespace Go.Proofs.YtjbjcfnbgcloiaaGreatDoor
open Go.RowKit Nam YtjbjcfnbgcloiaaGreatDoorW.PrintWords

def tokNone : DataW Unit → Bool
  | .agg [_, .lit (.int _ n), _] => decide (n = 0)
  | _ => true
theorem fullp_tok (w : World) (s val : Value) (yd : DataW Unit) (yp : List MemPlace) (h : R2 val = some (yd, yp)) :
    Calls Tryz.prog 58 #[s, val] w fun e w' => e = .returned (.bool (tokNone yd)) ∧ w = w' := by
  rcases R2_inv h with ⟨rfl, rfl⟩ | ⟨g, n, c, rfl, rfl⟩
  · exact (fullp_is w s none 0 0).mono fun e w' ⟨h1, h2⟩ => ⟨by rw [h1]; rfl, h2⟩
  · refine (fullp_is w s (some ⟨g, 0, none⟩) n c).mono fun e w' ⟨h1, h2⟩ => ⟨?_, h2⟩
    rw [h1]
    show _ = Ending.returned (.bool (decide ((n : Int) = 0)))
    congr 2
    simp

set_option maxHeartbeats 1000000 in
set_option maxRecDepth 100000 in
theorem full_is (w : World) (b n : Nat) (D : DataW Unit) (ho : w.ownsMap Tryz.prog 9 R2 b n D) :
    Calls Tryz.prog 29 #[.map (some b)] w fun e w' => (∃ b', e = .returned (.map (some b')) ∧ w.heap.size ≤ b' ∧ w'.ownsMap Tryz.prog 9 R2 b' n (Lib.deleteFuncD (fun _ yd => tokNone yd) D)) ∧ Below w.heap.size w w' := by
  obtain ⟨es, clock, hb, hrest⟩ := ho
  obtain ⟨W1, hW1⟩ : ∃ W1, w.alloc (.map es clock) = W1 := ⟨_, rfl⟩
  have hnew : W1.heap[w.heap.size]? = some (.map es clock) := by rw [← hW1]; exact heap_alloc_new w _
  have hb1 : Below w.heap.size w W1 := by rw [← hW1]; exact (Below.refl _ _).alloc (Nat.le_refl _) _
  have hcl := AnyW.maps_Clone Tryz.mcloneK b es clock w hb
  rw [hW1] at hcl
  have HCl := Lib.hid hcl
  have eg : ∀ args w, (callFunc 58 args).run Tryz.prog w = .ok (.enter 58 args) w := enters_of Tryz.func58 (by kernel_rfl) rfl
  have hde := AnyDf.maps_DeleteFunc Tryz.mdelK KS R2 (fun _ yd => tokNone yd) 58 #[] w.heap.size n D W1 eg ⟨es, clock, hnew, hrest⟩ (fun W key val kl yd yp _ _ hv => (fullp_tok W key val yd yp hv).mono fun e w' ⟨h1, h2⟩ => ⟨h1, h2 ▸ World.grownBy.refl _ _⟩)
  have HDe := Lib.hid hde
  have HB1 := Lib.hid hb1
  clear hcl hde hb hrest hnew hb1 hW1 eg
  go_enter Tryz.func29, Tryz.ntmps29
  go_wp2_with (first | (go_at_call 56; refine HCl.out.mono ?_; rintro e w' ⟨rfl, rfl⟩) | (go_at_call 57; refine HDe.out.mono ?_; rintro e w2 ⟨rfl, ho2, hg2⟩))
  go_ret
  exact ⟨⟨_, rfl, Nat.le_refl _, ho2⟩, HB1.out.grown hg2 HB1.out.size (fun j hj => by injection hj with hj; omega)⟩
end Go.Proofs.YtjbjcfnbgcloiaaGreatDoor

/- bytes.Equal of two versions' bytes. -/
namespace Go.Proofs.YtjbjcfnbgcloiaaGreatDoor
open Go.RowKit Nam YtjbjcfnbgcloiaaGreatDoorW.PrintWords

theorem bytesOf_byN (l : List UInt8) : Lib.bytesOf (byN l) = l := by
  have h := Lib.strOfNums_toList (byN l)
  rw [byN_str] at h
  rw [← h]
  show (mkS l).toList = l
  rw [Lib.toList_data]
  rfl
theorem bequal_is (w : World) (A B : Option Addr) (c d : Nat) (l m : List UInt8) (hA : (Kd.int .u8).C w A l.length (byN l)) (hB : (Kd.int .u8).C w B m.length (byN m)) :
    Calls Tryz.prog 23 #[.slice A l.length c, .slice B m.length d] w fun e w' => e = .returned (.bool (decide (l = m))) ∧ w = w' := by
  refine (Any.bytes_Equal { Tryz.bequalL with } _ _ (byN l) (byN m) w (Kd.C_string Tryz.bequalL.t37 Tryz.bequalL.t5 Tryz.bequalL.t9 hA) (Kd.C_string Tryz.bequalL.t37 Tryz.bequalL.t5 Tryz.bequalL.t9 hB)).mono fun e w' ⟨h1, h2⟩ => ⟨?_, h2.symm⟩
  rw [h1, bytesOf_byN, bytesOf_byN]
  congr 2
  by_cases e : l = m
  · subst e; simp
  · rw [decide_eq_false e]
    exact beq_eq_false_iff_ne.2 e
end Go.Proofs.YtjbjcfnbgcloiaaGreatDoor

/- Same$1 of package model: are two versions alike? -/
namespace Go.Proofs.YtjbjcfnbgcloiaaGreatDoor
open Go.RowKit Nam YtjbjcfnbgcloiaaGreatDoorW.PrintWords

def alikeB (x y : Kp) : Bool := decide (x.id = y.id) && decide (x.mark = y.mark) && decide (x.sz = y.sz) && decide (x.sum = y.sum) && decide (x.dt = y.dt)
theorem alikeB_iff (x y : Kp) : alikeB x y = true ↔ x = y := by
  cases x; cases y
  simp [alikeB, and_assoc]
set_option maxHeartbeats 1000000 in
set_option maxRecDepth 100000 in
theorem alike_is (w : World) (F : Nat → Prop) (x y : Kp) (A B : Option Addr) (c d : Nat) (hF : ∀ k, F k → IsC w k) (hx : DatF w F A x.dt) (hy : DatF w F B y.dt) :
    Calls Tryz.prog 22 #[.agg #[.int .i64 x.id, .bool x.mark, .int .i64 x.sz, .int .u32 x.sum, .slice A x.dt.length c], .agg #[.int .i64 y.id, .bool y.mark, .int .i64 y.sz, .int .u32 y.sum, .slice B y.dt.length d]] w fun e w' => e = .returned (.bool (alikeB x y)) ∧ Below w.heap.size w w' := by
  have HBe : Hid (∀ V, Below w.heap.size w V → Calls Tryz.prog 23 #[.slice A x.dt.length c, .slice B y.dt.length d] V fun e w' => e = .returned (.bool (decide (x.dt = y.dt))) ∧ V = w') := fun V hV =>
    bequal_is V A B c d x.dt y.dt (hx.kept (below_cells hV hF)).now (hy.kept (below_cells hV hF)).now
  obtain ⟨r5, hr5⟩ : ∃ r, decide (x.dt = y.dt) = r := ⟨_, rfl⟩
  rw [hr5] at HBe
  have HR5 := Lib.hid hr5
  have hB2 : ∀ o1 o2, Below w.heap.size w ((w.alloc o1).alloc o2) := fun o1 o2 => ((Below.refl _ _).alloc (Nat.le_refl _) _).alloc (by simp) _
  have HB2 := Lib.hid hB2
  clear hx hy hF hr5 hB2
  go_enter Tryz.func22, Tryz.ntmps22
  go_wp2_with (go_at_call 23; refine (HBe.out _ (HB2.out _ _)).mono ?_; rintro e w' ⟨rfl, rfl⟩)
  all_goals
    go_ret
    refine ⟨?_, HB2.out _ _⟩
    have h5 := HR5.out
    show Ending.returned (Value.bool _) = _
    refine congrArg (fun z => Ending.returned (Value.bool z)) ?_
    simp [alikeB, *]
end Go.Proofs.YtjbjcfnbgcloiaaGreatDoor
