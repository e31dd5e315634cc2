/- Head of package model. -/
import Derived.Test.YtjbjcfnbgcloiaaGreatDoorMoK
namespace Go.Proofs.YtjbjcfnbgcloiaaGreatDoor
open Go.RowKit Nam YtjbjcfnbgcloiaaGreatDoorW.PrintWords

def HeadIs (S : St) (b k : List UInt8) (id : Int) (w : World) (e : Ending) (w' : World) : Prop :=
  (∃ (y : Kp), e = .returned (.tuple #[verV y, .int .i64 (S.getE b k id)]) ∧ ((S.findE b k id 0 ≠ 0 ∧ y = kp0) ∨ (S.findE b k id 0 = 0 ∧ S.getK b k id = some y))) ∧ Below w.heap.size w w'

set_option maxHeartbeats 2000000 in
set_option maxRecDepth 100000 in
theorem head_is (w : World) (g : Nat) (S : St) (n : Nat) (Q F : Nat → Prop) (b k : List UInt8) (id : Int) (hb : b.length ≤ 100000) (hk : k.length ≤ 100000) (hl : (S.V b k).length ≤ 100000) (hd : ∀ y ∈ S.V b k, y.dt.length ≤ 1000000) (hm : HasM w g S n Q F) (hT : Tabs w) :
    Calls Tryz.prog 33 #[.pointer (some ⟨g, 0, none⟩), .string (mkS b), .string (mkS k), .int .i64 id] w (HeadIs S b k id w) := by
  obtain ⟨W1, hW1⟩ : ∃ W1, w.alloc (.cells #[.int .i64 0, .bool false, .int .i64 0, .int .u32 0] 38) = W1 := ⟨_, rfl⟩
  have hb1 : Below w.heap.size w W1 := by rw [← hW1]; exact (Below.refl _ _).alloc (Nat.le_refl _) _
  have hbv : W1.heap[w.heap.size]? = some (.cells #[.int .i64 0, .bool false, .int .i64 0, .int .u32 0] 38 (0, 0)) := by rw [← hW1]; exact heap_alloc_new w _
  have hs1 : w.heap.size + 1 = W1.heap.size := by rw [← hW1]; simp
  have hge := get_is W1 g S n Q F b k id hb hk hl hd (hm.below hb1) (hT.below hb1)
  have HG : Hid (Calls Tryz.prog 20 #[.pointer (some ⟨g, 0, none⟩), .string (mkS b), .string (mkS k), .int .i64 id] W1 fun e w' => (∃ (y : Kp) (v : Value) (er : Int), e = .returned (.tuple #[.agg #[.int .i64 y.id, .bool y.mark, .int .i64 y.sz, .int .u32 y.sum], v, .int .i64 er]) ∧ Hid (er = S.getE b k id ∧ ((S.findE b k id 0 ≠ 0 ∧ y = kp0) ∨ (S.findE b k id 0 = 0 ∧ S.getK b k id = some y)))) ∧ Below W1.heap.size W1 w') := hge.mono fun e w' ⟨⟨y, v, he, h⟩, hb⟩ => by
    refine ⟨⟨y, v, _, he, rfl, ?_⟩, hb⟩
    rcases h with ⟨h1, h2, _⟩ | ⟨h1, h2, _⟩ | ⟨h1, h2, _⟩
    · exact .inl ⟨h1, h2⟩
    · exact .inr ⟨h1, h2⟩
    · exact .inr ⟨h1, h2⟩
  have HW4b : Hid (∀ (w3 W4 : World) (cs : Array Value), Below W1.heap.size W1 w3 → w3.alloc (.cells cs 38) = W4 → Hid (W4.heap[w.heap.size]? = some (.cells #[.int .i64 0, .bool false, .int .i64 0, .int .u32 0] 38 (0, 0))) ∧ Hid (Below w.heap.size w W4) ∧ Hid (W4.heap[w3.heap.size]? = some (.cells cs 38 (0, 0)))) := fun w3 W4 cs h3 h4 => by
    have h03 : Below w.heap.size w w3 := hb1.trans (h3.mono (by omega))
    have hnew := heap_alloc_new w3 (.cells cs 38)
    subst h4
    have h5 := h03.alloc h03.size (.cells cs 38)
    have h6 := (Below.refl w3.heap.size w3).alloc (Nat.le_refl _) (.cells cs 38)
    exact ⟨blk_below (blk_below hbv h3) h6, h5, hnew⟩
  clear hbv hb1 hm hT hge
  go_enter Tryz.func33, Tryz.ntmps33
  go_upto_region 1 with (fail)
  clear hW1
  go_wp2_with (first | (go_at_call 20; refine HG.out.mono ?_; rintro e w3 ⟨⟨y, v, er, rfl, HY⟩, hb3⟩; obtain ⟨W4, hW4⟩ : ∃ W4, w3.alloc (.cells #[.int .i64 y.id, .bool y.mark, .int .i64 y.sz, .int .u32 y.sum] 38) = W4 := ⟨_, rfl⟩; obtain ⟨HBV4, HB4, HS4⟩ := HW4b.out w3 W4 #[.int .i64 y.id, .bool y.mark, .int .i64 y.sz, .int .u32 y.sum] hb3 hW4; have z0 := (blk_cell HS4.out 0).trans (rfl : _ = some (Value.int .i64 y.id)); have z1 := (blk_cell HS4.out 1).trans (rfl : _ = some (Value.bool y.mark)); have z2 := (blk_cell HS4.out 2).trans (rfl : _ = some (Value.int .i64 y.sz)); have z3 := (blk_cell HS4.out 3).trans (rfl : _ = some (Value.int .u32 y.sum)); clear hb3) | (refine wpList_store_row rfl 38 (.tmp 8) (.tmp 22) rfl w.heap.size #[.int .i64 y.id, .bool y.mark, .int .i64 y.sz, .int .u32 y.sum] rfl rfl 38 _ HBV4.out (by kernel_rfl) rfl (by simp [Value.oneCell']) ?_))
  refine bodyPost_ret (results_ct rfl _ _ w.heap.size 38 #[.int .i64 y.id, .bool y.mark, .int .i64 y.sz, .int .u32 y.sum] (0, 0) _ rfl (setRow_heap _ _ _ _ _ _ HBV4.out) Tryz.underlying38 rfl (by kernel_rfl)) rfl ?_
  exact ⟨⟨y, by rw [← HY.out.1]; rfl, HY.out.2⟩, below_setRow HB4.out (Nat.le_refl _) _⟩
end Go.Proofs.YtjbjcfnbgcloiaaGreatDoor
