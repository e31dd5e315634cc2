/- The document's own calls (Wants of the statements of layer 22). -/
import Derived.Test.YtjbjcfnbgcloiaaGreatDoorCq13
import Derived.Deep.RegionHeld3
import Derived.Laws.StructEq
set_option linter.unusedSimpArgs false
set_option linter.unusedVariables false

set_option linter.unusedSimpArgs false
set_option linter.unusedVariables false
namespace Go.Proofs.YtjbjcfnbgcloiaaGreatDoor
open Go.RowKit Nam YtjbjcfnbgcloiaaGreatDoorW.PrintWords Go.Lib

structure ROk (B : List (List UInt8)) (L : List Ob) : Prop where
  hB : B.length ≤ 64
  hBs : ∀ t ∈ B, t.length ≤ 100000
  hL : L.length ≤ 1000
  hrs : ∀ o ∈ L, o.rs.length ≤ 64
  hky : ∀ o ∈ L, o.ky.length ≤ 100000
  hdt : ∀ o ∈ L, ∀ y ∈ o.rs, y.dt.length ≤ 1000000
theorem ROk.row {B : List (List UInt8)} {L : List Ob} (h : ROk B L) (b k : List UInt8) : ∀ y ∈ rsOf L b k, y.dt.length ≤ 1000000 := fun y hy => by
  by_cases hne : rsOf L b k = []
  · rw [hne] at hy; cases hy
  · obtain ⟨_, h2, _⟩ := at_has hne
    exact h.hdt _ (List.mem_of_getElem? h2) y hy
def WAns (P : Kp → Value → World → Prop) (B' : List (List UInt8)) (L' : List Ob) (Q F : Nat → Prop) (g b0 : Nat) (er : Int) (w : World) (e : Ending) (w' : World) : Prop :=
  (∃ y dv, e = .returned (.agg (ansL er y dv).toArray) ∧ P y dv w') ∧ Left w g b0 B' L' Q F w'
theorem boxed_afterR {w W3 w4 : World} {Q : Nat → Prop} {cs : Array Value} (hbx : Boxed w W3 cs) (hq : ∀ k, Q k → k < w.heap.size) (hmv : Moved Q W3 w4) :
    w4.heap[w.heap.size + 1]? = some (.cells ans0 44 (0, 0)) ∧ w4.heap[w.heap.size + 1 + 1]? = some (.cells ans0 44 (0, 0)) ∧ w.heap.size + 3 ≤ w4.heap.size := by
  have hs := hbx.s
  refine ⟨?_, ?_, by have := hmv.size; omega⟩
  · rw [hmv.block _ (by omega) (fun h => by have := hq _ h; omega)]
    exact hbx.k6
  · rw [hmv.block _ (by omega) (fun h => by have := hq _ h; omega)]
    exact hbx.k7
theorem RefM.qlt {w : World} {g b0 : Nat} {B : List (List UInt8)} {L : List Ob} {Q F : Nat → Prop} (h : RefM w g B L b0 Q F) : ∀ k, Q k → k < w.heap.size := fun k hk => isC_lt (h.ic k (.inl hk))
theorem left_fin {w W3 w4 V : World} {g b0 : Nat} {B B' : List (List UInt8)} {L L' : List Ob} {Q F : Nat → Prop} {cs : Array Value} (hm : RefM w g B L b0 Q F) (hbx : Boxed w W3 cs) (hl : Left W3 g b0 B' L' Q F w4) (ho : Only w.heap.size (w.heap.size + 3) w4 V) : Left w g b0 B' L' Q F V := by
  obtain ⟨hmv, Q', F', h1, h2, h3⟩ := hl
  have hs := hbx.s
  refine ⟨⟨ho.os.trans (hmv.os.trans hbx.b.os), ho.tape.trans (hmv.tape.trans hbx.b.tape), ho.output.trans (hmv.output.trans hbx.b.output), Nat.le_trans hbx.b.size (Nat.le_trans hmv.size ho.size), fun k hk hn => ?_⟩, Q', F', h1.kept (fun k hk => ho.block k (isC_lt (h1.ic k hk)) ?_) ho.size, fun j hj => (h2 j hj).imp_right fun e => by omega, fun j hj => (h3 j hj).imp_right fun e => by omega⟩
  · rw [ho.block k (by have := hmv.size; omega) (.inl hk), hmv.block k (by omega) hn, hbx.b.block k hk]
  · rcases hk with hk | hk
    · rcases h2 k hk with h | h
      · exact .inl (hm.qlt k h)
      · exact .inr (by omega)
    · rcases h3 k hk with h | h
      · exact .inl (isC_lt (hm.ic k (.inr h)))
      · exact .inr (by omega)
theorem box_verR (w w4 : World) (y : Kp) (k6 : w4.heap[w.heap.size + 1]? = some (.cells ans0 44 (0, 0))) (k7 : w4.heap[w.heap.size + 1 + 1]? = some (.cells ans0 44 (0, 0))) (hs : w.heap.size + 3 ≤ w4.heap.size) :
    ∃ W6, w4.there (w.heap.size + 1 + 1) 1 4 ∧ w4.setCells (w.heap.size + 1 + 1) 1 (verA y).toList = W6 ∧ AnsAt W6 (w.heap.size + 1 + 1) y ∧
      W6.heap[w.heap.size + 1 + 1]? = some (.cells (ansL 0 y (.slice none 0 0)).toArray 44 (0, 0)) ∧ W6.heap[w.heap.size + 1]? = some (.cells ans0 44 (0, 0)) ∧ Only w.heap.size (w.heap.size + 3) w4 W6 := by
  obtain ⟨cur, h1, h2, h3⟩ := setCells_row (verA y).toList 1 w4 ans0 k7 (by show 1 + 4 ≤ 11; omega)
  have h4 : cur = (ansL 0 y (.slice none 0 0)).toArray := Array.toList_inj.1 h3
  subst h4
  refine ⟨_, fun j hj => ⟨?_, blk_frozen k7 _⟩, rfl,
    ⟨(blk_cell h1 0).trans rfl, (blk_cell h1 1).trans rfl, (blk_cell h1 2).trans rfl, (blk_cell h1 3).trans rfl, (blk_cell h1 4).trans rfl, (blk_cell h1 5).trans rfl, (blk_cell h1 6).trans rfl, (blk_cell h1 7).trans rfl, (blk_cell h1 8).trans rfl, (blk_cell h1 9).trans rfl, (blk_cell h1 10).trans rfl⟩, h1, ?_, ?_⟩
  · rw [blk_cell k7]
    have : j = 0 ∨ j = 1 ∨ j = 2 ∨ j = 3 := by omega
    rcases this with rfl | rfl | rfl | rfl <;> rfl
  · rw [setCells_far _ _ _ (by omega)]
    exact k6
  · have hh := setCells_same (w.heap.size + 1 + 1) (verA y).toList 1 w4
    refine ⟨hh.1, hh.2.1, hh.2.2.1, by rw [hh.2.2.2]; exact Nat.le_refl _, fun k hk hc => ?_⟩
    rw [setCells_far _ _ _ (by omega)]

set_option maxHeartbeats 2000000 in
set_option maxRecDepth 100000 in
theorem want_make (w : World) (g : Nat) (B : List (List UInt8)) (L : List Ob) (b0 : Nat) (Q F : Nat → Prop) (b k pf fr : List UInt8) (dv : Value) (id nn a fi mo : Int) (hb : b.length ≤ 100000) (hk : k.length ≤ 100000) (hok : ROk B L) (hb0 : b0 ≤ w.heap.size) (hm : RefM w g B L b0 Q F) (hT : Tabs w) :
    Calls Tryz.prog 14 #[.pointer (some ⟨g, 0, none⟩), .agg #[.int .i64 1, .string (mkS b), .string (mkS k), dv, .int .i64 nn, .int .i64 a, .string (mkS pf), .string (mkS fr), .int .i64 fi, .int .i64 mo], .int .i64 id] w
      (WAns (fun y dv _ => y = kp0 ∧ dv = .slice none 0 0) (rMake B b).1 L Q F g b0 (rMake B b).2 w) := by
  obtain ⟨W3, hW3⟩ : ∃ W3, ((w.alloc (.cells #[.int .i64 1, .string (mkS b), .string (mkS k), dv, .int .i64 nn, .int .i64 a, .string (mkS pf), .string (mkS fr), .int .i64 fi, .int .i64 mo] 34)).alloc (.cells ans0 44)).alloc (.cells ans0 44) = W3 := ⟨_, rfl⟩
  have hbx := boxed_mk w #[.int .i64 1, .string (mkS b), .string (mkS k), dv, .int .i64 nn, .int .i64 a, .string (mkS pf), .string (mkS fr), .int .i64 fi, .int .i64 mo]
  rw [hW3] at hbx
  have hm3 := hm.below hbx.b
  obtain ⟨er, her⟩ : ∃ er, (rMake B b).2 = er := ⟨_, rfl⟩
  have HC : Hid (Calls Tryz.prog 40 #[.pointer (some ⟨g, 0, none⟩), .string (mkS b)] W3 fun e w' => e = .returned (.int .i64 er) ∧ Hid (Left W3 g b0 (rMake B b).1 L Q F w') ∧ Hid (w'.heap[w.heap.size + 1]? = some (.cells ans0 44 (0, 0)) ∧ w'.heap[w.heap.size + 1 + 1]? = some (.cells ans0 44 (0, 0)) ∧ w.heap.size + 3 ≤ w'.heap.size)) :=
    (rmake_is W3 g B L b0 Q F b hb hok.hB hok.hBs hm3).mono fun e w' ⟨h1, h2, F', h3, h4⟩ => ⟨by rw [h1, her], ⟨h2, Q, F', h3, fun j hj => .inl hj, h4⟩, boxed_afterR hbx hm.qlt h2⟩
  rw [her]
  have HBX := Lib.hid hbx
  have HM := Lib.hid hm
  have HW3 := Lib.hid hW3
  obtain ⟨c0, c1, c2, c3, c4, c5, c6, c7, c8, c9⟩ := chAt_of hbx.k4
  clear c2 c3 c4 c5 c6 c7 c8 c9
  clear hm hm3 hbx hW3 her hT hok hb0
  go_enter Tryz.func14, Tryz.ntmps14
  go_upto_region 2 with (fail)
  rw [HW3.out]
  clear HW3
  go_wp2_with fail
  refine HC.out.mono ?_
  rintro e w4 ⟨rfl, HF, HB⟩
  obtain ⟨z0, z1, z2, z3, z4, z5, z6, z7, z8, z9, z10⟩ := zeros_of HB.out.2.1
  have f0 := blk_frozen HB.out.2.1 0
  have HB6 : Hid (∀ u, (w4.setCell ⟨w.heap.size + 1 + 1, 0, none⟩ u).heap[w.heap.size + 1]? = some (.cells ans0 44 (0, 0))) := fun u => blk_far HB.out.1 (by simp) u
  go_wp2_with (refine wpList_store_row rfl 44 (.tmp 6) (.tmp 124) rfl (w.heap.size + 1) (ansL er kp0 (.slice none 0 0)).toArray rfl rfl 44 _ (HB6.out _) (by kernel_rfl) rfl (by simp [ansL, Value.oneCell']) ?_)
  refine bodyPost_ret (results_single rfl (.cell (w.heap.size + 1) 44 (ansL er kp0 (.slice none 0 0)).toArray (0, 0) _ rfl (setRow_heap _ _ _ _ _ _ (HB6.out _)) Tryz.underlying44 rfl (by kernel_rfl) .nil)) rfl ?_
  exact ⟨⟨kp0, .slice none 0 0, rfl, rfl, rfl⟩, left_fin HM.out HBX.out HF.out (((Only.refl _ _ _).put 0 _ (by omega) (by omega)).row _ (by omega) (by omega))⟩

set_option maxHeartbeats 2000000 in
set_option maxRecDepth 100000 in
theorem want_rem (w : World) (g : Nat) (B : List (List UInt8)) (L : List Ob) (b0 : Nat) (Q F : Nat → Prop) (b k pf fr : List UInt8) (dv : Value) (id nn a fi mo : Int) (hb : b.length ≤ 100000) (hk : k.length ≤ 100000) (hok : ROk B L) (hb0 : b0 ≤ w.heap.size) (hm : RefM w g B L b0 Q F) (hT : Tabs w) :
    Calls Tryz.prog 14 #[.pointer (some ⟨g, 0, none⟩), .agg #[.int .i64 2, .string (mkS b), .string (mkS k), dv, .int .i64 nn, .int .i64 a, .string (mkS pf), .string (mkS fr), .int .i64 fi, .int .i64 mo], .int .i64 id] w
      (WAns (fun y dv _ => y = kp0 ∧ dv = .slice none 0 0) (rRemove B L b).1 (rRemove B L b).2.1 Q F g b0 (rRemove B L b).2.2 w) := by
  obtain ⟨W3, hW3⟩ : ∃ W3, ((w.alloc (.cells #[.int .i64 2, .string (mkS b), .string (mkS k), dv, .int .i64 nn, .int .i64 a, .string (mkS pf), .string (mkS fr), .int .i64 fi, .int .i64 mo] 34)).alloc (.cells ans0 44)).alloc (.cells ans0 44) = W3 := ⟨_, rfl⟩
  have hbx := boxed_mk w #[.int .i64 2, .string (mkS b), .string (mkS k), dv, .int .i64 nn, .int .i64 a, .string (mkS pf), .string (mkS fr), .int .i64 fi, .int .i64 mo]
  rw [hW3] at hbx
  have hm3 := hm.below hbx.b
  obtain ⟨er, her⟩ : ∃ er, (rRemove B L b).2.2 = er := ⟨_, rfl⟩
  have HC : Hid (Calls Tryz.prog 41 #[.pointer (some ⟨g, 0, none⟩), .string (mkS b)] W3 fun e w' => e = .returned (.int .i64 er) ∧ Hid (Left W3 g b0 (rRemove B L b).1 (rRemove B L b).2.1 Q F w') ∧ Hid (w'.heap[w.heap.size + 1]? = some (.cells ans0 44 (0, 0)) ∧ w'.heap[w.heap.size + 1 + 1]? = some (.cells ans0 44 (0, 0)) ∧ w.heap.size + 3 ≤ w'.heap.size)) :=
    (rrem_is W3 g B L b0 Q F b hb (by have := hok.hB; omega) (by have := hok.hL; omega) (Nat.le_trans hb0 hbx.b.size) hm3).mono fun e w' ⟨h1, h2⟩ => ⟨by rw [h1, her], h2, boxed_afterR hbx hm.qlt h2.1⟩
  rw [her]
  have HBX := Lib.hid hbx
  have HM := Lib.hid hm
  have HW3 := Lib.hid hW3
  obtain ⟨c0, c1, c2, c3, c4, c5, c6, c7, c8, c9⟩ := chAt_of hbx.k4
  clear c2 c3 c4 c5 c6 c7 c8 c9
  clear hm hm3 hbx hW3 her hT hok hb0
  go_enter Tryz.func14, Tryz.ntmps14
  go_upto_region 2 with (fail)
  rw [HW3.out]
  clear HW3
  go_wp2_with fail
  refine HC.out.mono ?_
  rintro e w4 ⟨rfl, HF, HB⟩
  obtain ⟨z0, z1, z2, z3, z4, z5, z6, z7, z8, z9, z10⟩ := zeros_of HB.out.2.1
  have f0 := blk_frozen HB.out.2.1 0
  have HB6 : Hid (∀ u, (w4.setCell ⟨w.heap.size + 1 + 1, 0, none⟩ u).heap[w.heap.size + 1]? = some (.cells ans0 44 (0, 0))) := fun u => blk_far HB.out.1 (by simp) u
  go_wp2_with (refine wpList_store_row rfl 44 (.tmp 6) (.tmp 124) rfl (w.heap.size + 1) (ansL er kp0 (.slice none 0 0)).toArray rfl rfl 44 _ (HB6.out _) (by kernel_rfl) rfl (by simp [ansL, Value.oneCell']) ?_)
  refine bodyPost_ret (results_single rfl (.cell (w.heap.size + 1) 44 (ansL er kp0 (.slice none 0 0)).toArray (0, 0) _ rfl (setRow_heap _ _ _ _ _ _ (HB6.out _)) Tryz.underlying44 rfl (by kernel_rfl) .nil)) rfl ?_
  exact ⟨⟨kp0, .slice none 0 0, rfl, rfl, rfl⟩, left_fin HM.out HBX.out HF.out (((Only.refl _ _ _).put 0 _ (by omega) (by omega)).row _ (by omega) (by omega))⟩

set_option maxHeartbeats 2000000 in
set_option maxRecDepth 100000 in
theorem want_era (w : World) (g : Nat) (B : List (List UInt8)) (L : List Ob) (b0 : Nat) (Q F : Nat → Prop) (b k pf fr : List UInt8) (dv : Value) (id nn a fi mo : Int) (hb : b.length ≤ 100000) (hk : k.length ≤ 100000) (hok : ROk B L) (hb0 : b0 ≤ w.heap.size) (hm : RefM w g B L b0 Q F) (hT : Tabs w) :
    Calls Tryz.prog 14 #[.pointer (some ⟨g, 0, none⟩), .agg #[.int .i64 8, .string (mkS b), .string (mkS k), dv, .int .i64 nn, .int .i64 a, .string (mkS pf), .string (mkS fr), .int .i64 fi, .int .i64 mo], .int .i64 id] w
      (WAns (fun y dv _ => y = kp0 ∧ dv = .slice none 0 0) B (rEraL B L b k nn) Q F g b0 (rFindE B L b k (rEraI nn)) w) := by
  obtain ⟨W3, hW3⟩ : ∃ W3, ((w.alloc (.cells #[.int .i64 8, .string (mkS b), .string (mkS k), dv, .int .i64 nn, .int .i64 a, .string (mkS pf), .string (mkS fr), .int .i64 fi, .int .i64 mo] 34)).alloc (.cells ans0 44)).alloc (.cells ans0 44) = W3 := ⟨_, rfl⟩
  have hbx := boxed_mk w #[.int .i64 8, .string (mkS b), .string (mkS k), dv, .int .i64 nn, .int .i64 a, .string (mkS pf), .string (mkS fr), .int .i64 fi, .int .i64 mo]
  rw [hW3] at hbx
  have hm3 := hm.below hbx.b
  obtain ⟨er, her⟩ : ∃ er, (rFindE B L b k (rEraI nn)) = er := ⟨_, rfl⟩
  have HC : Hid (Calls Tryz.prog 45 #[.pointer (some ⟨g, 0, none⟩), .string (mkS b), .string (mkS k), .int .i64 nn] W3 fun e w' => e = .returned (.int .i64 er) ∧ Hid (Left W3 g b0 B (rEraL B L b k nn) Q F w') ∧ Hid (w'.heap[w.heap.size + 1]? = some (.cells ans0 44 (0, 0)) ∧ w'.heap[w.heap.size + 1 + 1]? = some (.cells ans0 44 (0, 0)) ∧ w.heap.size + 3 ≤ w'.heap.size)) :=
    (rera_is W3 g B L b0 Q F b k nn hb hk (by have := hok.hB; omega) (by have := hok.hL; omega) hok.hrs (Nat.le_trans hb0 hbx.b.size) hm3 (hT.below hbx.b)).mono fun e w' ⟨h1, h2⟩ => ⟨by rw [h1, her], h2, boxed_afterR hbx hm.qlt h2.1⟩
  rw [her]
  have HBX := Lib.hid hbx
  have HM := Lib.hid hm
  have HW3 := Lib.hid hW3
  obtain ⟨c0, c1, c2, c3, c4, c5, c6, c7, c8, c9⟩ := chAt_of hbx.k4
  clear c3 c5 c6 c7 c8 c9
  clear hm hm3 hbx hW3 her hT hok hb0
  go_enter Tryz.func14, Tryz.ntmps14
  go_upto_region 2 with (fail)
  rw [HW3.out]
  clear HW3
  go_wp2_with fail
  refine HC.out.mono ?_
  rintro e w4 ⟨rfl, HF, HB⟩
  obtain ⟨z0, z1, z2, z3, z4, z5, z6, z7, z8, z9, z10⟩ := zeros_of HB.out.2.1
  have f0 := blk_frozen HB.out.2.1 0
  have HB6 : Hid (∀ u, (w4.setCell ⟨w.heap.size + 1 + 1, 0, none⟩ u).heap[w.heap.size + 1]? = some (.cells ans0 44 (0, 0))) := fun u => blk_far HB.out.1 (by simp) u
  go_wp2_with (refine wpList_store_row rfl 44 (.tmp 6) (.tmp 124) rfl (w.heap.size + 1) (ansL er kp0 (.slice none 0 0)).toArray rfl rfl 44 _ (HB6.out _) (by kernel_rfl) rfl (by simp [ansL, Value.oneCell']) ?_)
  refine bodyPost_ret (results_single rfl (.cell (w.heap.size + 1) 44 (ansL er kp0 (.slice none 0 0)).toArray (0, 0) _ rfl (setRow_heap _ _ _ _ _ _ (HB6.out _)) Tryz.underlying44 rfl (by kernel_rfl) .nil)) rfl ?_
  exact ⟨⟨kp0, .slice none 0 0, rfl, rfl, rfl⟩, left_fin HM.out HBX.out HF.out (((Only.refl _ _ _).put 0 _ (by omega) (by omega)).row _ (by omega) (by omega))⟩

set_option maxHeartbeats 2000000 in
set_option maxRecDepth 100000 in
theorem want_put (w : World) (g : Nat) (B : List (List UInt8)) (L : List Ob) (b0 : Nat) (Q F : Nat → Prop) (b k d pf fr : List UInt8) (A : Option Addr) (c : Nat) (id nn a fi mo : Int) (hb : b.length ≤ 100000) (hk : k.length ≤ 100000) (hok : ROk B L) (hb0 : b0 ≤ w.heap.size) (hm : RefM w g B L b0 Q F) (hd : d.length ≤ 1000000) (hC : ∀ V, Moved Q w V → (Kd.int .u8).C V A d.length (byN d)) (hT : Tabs w) :
    Calls Tryz.prog 14 #[.pointer (some ⟨g, 0, none⟩), .agg #[.int .i64 4, .string (mkS b), .string (mkS k), .slice A d.length c, .int .i64 nn, .int .i64 a, .string (mkS pf), .string (mkS fr), .int .i64 fi, .int .i64 mo], .int .i64 id] w
      (WAns (fun y dv _ => y = (if rPutE B L id b k d = 0 then kpOf id d else kp0) ∧ dv = .slice none 0 0) B (rPutL B L id b k d) Q F g b0 (rPutE B L id b k d) w) := by
  obtain ⟨W3, hW3⟩ : ∃ W3, ((w.alloc (.cells #[.int .i64 4, .string (mkS b), .string (mkS k), .slice A d.length c, .int .i64 nn, .int .i64 a, .string (mkS pf), .string (mkS fr), .int .i64 fi, .int .i64 mo] 34)).alloc (.cells ans0 44)).alloc (.cells ans0 44) = W3 := ⟨_, rfl⟩
  have hbx := boxed_mk w #[.int .i64 4, .string (mkS b), .string (mkS k), .slice A d.length c, .int .i64 nn, .int .i64 a, .string (mkS pf), .string (mkS fr), .int .i64 fi, .int .i64 mo]
  rw [hW3] at hbx
  have hm3 := hm.below hbx.b
  obtain ⟨y, hy⟩ : ∃ y, (if rPutE B L id b k d = 0 then kpOf id d else kp0) = y := ⟨_, rfl⟩
  obtain ⟨er, her⟩ : ∃ er, rPutE B L id b k d = er := ⟨_, rfl⟩
  have HC : Hid (Calls Tryz.prog 42 #[.pointer (some ⟨g, 0, none⟩), .int .i64 id, .string (mkS b), .string (mkS k), .slice A d.length c] W3 fun e w' => e = .returned (.tuple #[.agg #[.int .i64 y.id, .bool y.mark, .int .i64 y.sz, .int .u32 y.sum], .int .i64 er]) ∧ Hid (Left W3 g b0 B (rPutL B L id b k d) Q F w') ∧ Hid (w'.heap[w.heap.size + 1]? = some (.cells ans0 44 (0, 0)) ∧ w'.heap[w.heap.size + 1 + 1]? = some (.cells ans0 44 (0, 0)) ∧ w.heap.size + 3 ≤ w'.heap.size)) :=
    (rput_is W3 g B L b0 Q F id b k d A c hb hk hd (by have := hok.hB; omega) hok.hL hok.hrs (Nat.le_trans hb0 hbx.b.size) hm3 (fun V hV => hC V ((Moved.of_below hbx.b).trans hV fun i hi => .inl hi)) (hT.below hbx.b)).mono fun e w' ⟨h1, h2⟩ => ⟨by rw [h1, her, ← hy, her]; unfold verOk; split <;> rfl, h2, boxed_afterR hbx hm.qlt h2.1⟩
  rw [her] at hy ⊢
  rw [hy]
  have HBX := Lib.hid hbx
  have HM := Lib.hid hm
  have HW3 := Lib.hid hW3
  obtain ⟨c0, c1, c2, c3, c4, c5, c6, c7, c8, c9⟩ := chAt_of hbx.k4
  clear c4 c5 c6 c7 c8 c9
  clear hm hm3 hbx hW3 hy her hT hok hb0 hC
  go_enter Tryz.func14, Tryz.ntmps14
  go_upto_region 2 with (fail)
  rw [HW3.out]
  clear HW3
  go_wp2_with fail
  refine HC.out.mono ?_
  rintro e w4 ⟨rfl, HF, HB⟩
  obtain ⟨W6, HTH, hW6, HAA, HK7, HK6, HON⟩ := box_verR w w4 y HB.out.1 HB.out.2.1 HB.out.2.2
  have HW6 := Lib.hid hW6
  have HK6h := Lib.hid HK6
  have HTHh := Lib.hid HTH
  obtain ⟨z0, z1, z2, z3, z4, z5, z6, z7, z8, z9, z10⟩ := HAA
  have f0 := blk_frozen HK7 0
  clear hW6 HC HK6 HK7 HTH
  have HB6 : Hid (∀ u, (W6.setCell ⟨w.heap.size + 1 + 1, 0, none⟩ u).heap[w.heap.size + 1]? = some (.cells ans0 44 (0, 0))) := fun u => blk_far HK6h.out (by simp) u
  go_wp2_with (first | (refine wpList_store_mid rfl 38 (.tmp 47) (.tmp 45) rfl (w.heap.size + 1 + 1) 1 (verA y) rfl rfl HTHh.out (by kernel_rfl) (by simp [Value.oneCell']) ?_; rw [HW6.out]) | (refine wpList_store_row rfl 44 (.tmp 6) (.tmp 124) rfl (w.heap.size + 1) (ansL er y (.slice none 0 0)).toArray rfl rfl 44 _ (HB6.out _) (by kernel_rfl) rfl (by simp [ansL, Value.oneCell']) ?_))
  refine bodyPost_ret (results_single rfl (.cell (w.heap.size + 1) 44 (ansL er y (.slice none 0 0)).toArray (0, 0) _ rfl (setRow_heap _ _ _ _ _ _ (HB6.out _)) Tryz.underlying44 rfl (by kernel_rfl) .nil)) rfl ?_
  exact ⟨⟨y, .slice none 0 0, rfl, rfl, rfl⟩, left_fin HM.out HBX.out HF.out ((HON.put 0 _ (by omega) (by omega)).row _ (by omega) (by omega))⟩

set_option maxHeartbeats 2000000 in
set_option maxRecDepth 100000 in
theorem want_del (w : World) (g : Nat) (B : List (List UInt8)) (L : List Ob) (b0 : Nat) (Q F : Nat → Prop) (b k pf fr : List UInt8) (dv : Value) (id nn a fi mo : Int) (hb : b.length ≤ 100000) (hk : k.length ≤ 100000) (hok : ROk B L) (hb0 : b0 ≤ w.heap.size) (hm : RefM w g B L b0 Q F) (hT : Tabs w) :
    Calls Tryz.prog 14 #[.pointer (some ⟨g, 0, none⟩), .agg #[.int .i64 7, .string (mkS b), .string (mkS k), dv, .int .i64 nn, .int .i64 a, .string (mkS pf), .string (mkS fr), .int .i64 fi, .int .i64 mo], .int .i64 id] w
      (WAns (fun y dv _ => y = (if rDelE B L id b k = 0 then kpDel id else kp0) ∧ dv = .slice none 0 0) B (rDelL B L id b k) Q F g b0 (rDelE B L id b k) w) := by
  obtain ⟨W3, hW3⟩ : ∃ W3, ((w.alloc (.cells #[.int .i64 7, .string (mkS b), .string (mkS k), dv, .int .i64 nn, .int .i64 a, .string (mkS pf), .string (mkS fr), .int .i64 fi, .int .i64 mo] 34)).alloc (.cells ans0 44)).alloc (.cells ans0 44) = W3 := ⟨_, rfl⟩
  have hbx := boxed_mk w #[.int .i64 7, .string (mkS b), .string (mkS k), dv, .int .i64 nn, .int .i64 a, .string (mkS pf), .string (mkS fr), .int .i64 fi, .int .i64 mo]
  rw [hW3] at hbx
  have hm3 := hm.below hbx.b
  obtain ⟨y, hy⟩ : ∃ y, (if rDelE B L id b k = 0 then kpDel id else kp0) = y := ⟨_, rfl⟩
  obtain ⟨er, her⟩ : ∃ er, rDelE B L id b k = er := ⟨_, rfl⟩
  have HC : Hid (Calls Tryz.prog 44 #[.pointer (some ⟨g, 0, none⟩), .int .i64 id, .string (mkS b), .string (mkS k)] W3 fun e w' => e = .returned (.tuple #[.agg #[.int .i64 y.id, .bool y.mark, .int .i64 y.sz, .int .u32 y.sum], .int .i64 er]) ∧ Hid (Left W3 g b0 B (rDelL B L id b k) Q F w') ∧ Hid (w'.heap[w.heap.size + 1]? = some (.cells ans0 44 (0, 0)) ∧ w'.heap[w.heap.size + 1 + 1]? = some (.cells ans0 44 (0, 0)) ∧ w.heap.size + 3 ≤ w'.heap.size)) :=
    (rdel_is W3 g B L b0 Q F id b k hb hk (by have := hok.hB; omega) hok.hL hok.hrs (Nat.le_trans hb0 hbx.b.size) hm3 (hT.below hbx.b)).mono fun e w' ⟨h1, h2⟩ => ⟨by rw [h1, her, ← hy, her]; unfold verOk; split <;> rfl, h2, boxed_afterR hbx hm.qlt h2.1⟩
  rw [her] at hy ⊢
  rw [hy]
  have HBX := Lib.hid hbx
  have HM := Lib.hid hm
  have HW3 := Lib.hid hW3
  obtain ⟨c0, c1, c2, c3, c4, c5, c6, c7, c8, c9⟩ := chAt_of hbx.k4
  clear c3 c4 c5 c6 c7 c8 c9
  clear hm hm3 hbx hW3 hy her hT hok hb0
  go_enter Tryz.func14, Tryz.ntmps14
  go_upto_region 2 with (fail)
  rw [HW3.out]
  clear HW3
  go_wp2_with fail
  refine HC.out.mono ?_
  rintro e w4 ⟨rfl, HF, HB⟩
  obtain ⟨W6, HTH, hW6, HAA, HK7, HK6, HON⟩ := box_verR w w4 y HB.out.1 HB.out.2.1 HB.out.2.2
  have HW6 := Lib.hid hW6
  have HK6h := Lib.hid HK6
  have HTHh := Lib.hid HTH
  obtain ⟨z0, z1, z2, z3, z4, z5, z6, z7, z8, z9, z10⟩ := HAA
  have f0 := blk_frozen HK7 0
  clear hW6 HC HK6 HK7 HTH
  have HB6 : Hid (∀ u, (W6.setCell ⟨w.heap.size + 1 + 1, 0, none⟩ u).heap[w.heap.size + 1]? = some (.cells ans0 44 (0, 0))) := fun u => blk_far HK6h.out (by simp) u
  go_wp2_with (first | (refine wpList_store_mid rfl 38 (.tmp 94) (.tmp 92) rfl (w.heap.size + 1 + 1) 1 (verA y) rfl rfl HTHh.out (by kernel_rfl) (by simp [Value.oneCell']) ?_; rw [HW6.out]) | (refine wpList_store_row rfl 44 (.tmp 6) (.tmp 124) rfl (w.heap.size + 1) (ansL er y (.slice none 0 0)).toArray rfl rfl 44 _ (HB6.out _) (by kernel_rfl) rfl (by simp [ansL, Value.oneCell']) ?_))
  refine bodyPost_ret (results_single rfl (.cell (w.heap.size + 1) 44 (ansL er y (.slice none 0 0)).toArray (0, 0) _ rfl (setRow_heap _ _ _ _ _ _ (HB6.out _)) Tryz.underlying44 rfl (by kernel_rfl) .nil)) rfl ?_
  exact ⟨⟨y, .slice none 0 0, rfl, rfl, rfl⟩, left_fin HM.out HBX.out HF.out ((HON.put 0 _ (by omega) (by omega)).row _ (by omega) (by omega))⟩

set_option maxHeartbeats 2000000 in
set_option maxRecDepth 100000 in
theorem want_get (w : World) (g : Nat) (B : List (List UInt8)) (L : List Ob) (b0 : Nat) (Q F : Nat → Prop) (b k pf fr : List UInt8) (dv : Value) (id nn a fi mo : Int) (hb : b.length ≤ 100000) (hk : k.length ≤ 100000) (hok : ROk B L) (hb0 : b0 ≤ w.heap.size) (hm : RefM w g B L b0 Q F) (hT : Tabs w) :
    Calls Tryz.prog 14 #[.pointer (some ⟨g, 0, none⟩), .agg #[.int .i64 5, .string (mkS b), .string (mkS k), dv, .int .i64 nn, .int .i64 a, .string (mkS pf), .string (mkS fr), .int .i64 fi, .int .i64 mo], .int .i64 id] w
      (WAns (fun y dv w' => (rFindE B L b k nn ≠ 0 ∧ y = kp0 ∧ dv = .slice none 0 0) ∨ (rFindE B L b k nn = 0 ∧ rGetK L b k nn = some y ∧ y.mark = true ∧ dv = .slice none 0 0) ∨ (rFindE B L b k nn = 0 ∧ rGetK L b k nn = some y ∧ y.mark = false ∧ w'.ownsRow (w.heap.size + 3) 5 1 dv y.dt.length ((byN y.dt).map (Value.int .u8)))) B L Q F g b0 (rGetE B L b k nn) w) := by
  obtain ⟨W3, hW3⟩ : ∃ W3, ((w.alloc (.cells #[.int .i64 5, .string (mkS b), .string (mkS k), dv, .int .i64 nn, .int .i64 a, .string (mkS pf), .string (mkS fr), .int .i64 fi, .int .i64 mo] 34)).alloc (.cells ans0 44)).alloc (.cells ans0 44) = W3 := ⟨_, rfl⟩
  have hbx := boxed_mk w #[.int .i64 5, .string (mkS b), .string (mkS k), dv, .int .i64 nn, .int .i64 a, .string (mkS pf), .string (mkS fr), .int .i64 fi, .int .i64 mo]
  rw [hW3] at hbx
  have hm3 := hm.below hbx.b
  obtain ⟨er, her⟩ : ∃ er, rGetE B L b k nn = er := ⟨_, rfl⟩
  have HC : Hid (Calls Tryz.prog 43 #[.pointer (some ⟨g, 0, none⟩), .string (mkS b), .string (mkS k), .int .i64 nn] W3 fun e w' => (∃ (y : Kp) (A9 : Option Addr) (m9 c9 : Nat), e = .returned (.tuple #[.agg #[.int .i64 y.id, .bool y.mark, .int .i64 y.sz, .int .u32 y.sum], .slice A9 m9 c9, .int .i64 er]) ∧ Hid ((rFindE B L b k nn ≠ 0 ∧ y = kp0 ∧ Value.slice A9 m9 c9 = .slice none 0 0) ∨ (rFindE B L b k nn = 0 ∧ rGetK L b k nn = some y ∧ y.mark = true ∧ Value.slice A9 m9 c9 = .slice none 0 0) ∨ (rFindE B L b k nn = 0 ∧ rGetK L b k nn = some y ∧ y.mark = false ∧ w'.ownsRow W3.heap.size 5 1 (Value.slice A9 m9 c9) y.dt.length ((byN y.dt).map (Value.int .u8))))) ∧ Hid (Left W3 g b0 B L Q F w') ∧ Hid (w'.heap[w.heap.size + 1]? = some (.cells ans0 44 (0, 0)) ∧ w'.heap[w.heap.size + 1 + 1]? = some (.cells ans0 44 (0, 0)) ∧ w.heap.size + 3 ≤ w'.heap.size)) :=
    (rget_is W3 g B L b0 Q F b k nn hb hk (by have := hok.hB; omega) (by have := hok.hL; omega) hok.hrs (hok.row b k) hm3 (hT.below hbx.b)).mono fun e w' h => by
      obtain ⟨⟨y, v, h1, h4⟩, h3⟩ := h
      refine ⟨?_, left_below hm3 h3, boxed_afterR hbx hm.qlt (Moved.of_below (Q := Q) h3)⟩
      rw [her] at h1
      rcases h4 with ⟨q1, q2, rfl⟩ | ⟨q1, q2, q3, rfl⟩ | ⟨q1, q2, q3, q4⟩
      · exact ⟨y, none, 0, 0, h1, .inl ⟨q1, q2, rfl⟩⟩
      · exact ⟨y, none, 0, 0, h1, .inr (.inl ⟨q1, q2, q3, rfl⟩)⟩
      · obtain ⟨p9, c9, rfl⟩ := own_slice q4
        exact ⟨y, p9, _, c9, h1, .inr (.inr ⟨q1, q2, q3, q4⟩)⟩
  rw [her]
  have HBX := Lib.hid hbx
  have HM := Lib.hid hm
  have HW3 := Lib.hid hW3
  obtain ⟨c0, c1, c2, c3, c4, c5, c6, c7, c8, c9⟩ := chAt_of hbx.k4
  clear c3 c5 c6 c7 c8 c9
  clear hm hm3 hbx hW3 her hT hok hb0
  go_enter Tryz.func14, Tryz.ntmps14
  go_upto_region 2 with (fail)
  rw [HW3.out]
  clear HW3
  go_wp2_with fail
  refine HC.out.mono ?_
  rintro e w4 ⟨⟨y, A9, m9, c9, rfl, HY⟩, HF, HB⟩
  obtain ⟨W6, HTH, hW6, HAA, HK7, HK6, HON⟩ := box_verR w w4 y HB.out.1 HB.out.2.1 HB.out.2.2
  have HW6 := Lib.hid hW6
  have HK6h := Lib.hid HK6
  have HTHh := Lib.hid HTH
  obtain ⟨z0, z1, z2, z3, z4, z5, z6, z7, z8, z9, z10⟩ := HAA
  have f0 := blk_frozen HK7 0
  have f5 := blk_frozen HK7 5
  clear hW6 HC HK6 HK7 HTH
  have HB6 : Hid (∀ u, ((W6.setCell ⟨w.heap.size + 1 + 1, 5, none⟩ (.slice A9 m9 c9)).setCell ⟨w.heap.size + 1 + 1, 0, none⟩ u).heap[w.heap.size + 1]? = some (.cells ans0 44 (0, 0))) := fun u => blk_far (blk_far HK6h.out (by simp) _) (by simp) u
  go_wp2_with (first | (refine wpList_store_mid rfl 38 (.tmp 63) (.tmp 60) rfl (w.heap.size + 1 + 1) 1 (verA y) rfl rfl HTHh.out (by kernel_rfl) (by simp [Value.oneCell']) ?_; rw [HW6.out]) | (refine wpList_store_row rfl 44 (.tmp 6) (.tmp 124) rfl (w.heap.size + 1) (ansL er y (.slice A9 m9 c9)).toArray rfl rfl 44 _ (HB6.out _) (by kernel_rfl) rfl (by simp [ansL, Value.oneCell']) ?_))
  refine bodyPost_ret (results_single rfl (.cell (w.heap.size + 1) 44 (ansL er y (.slice A9 m9 c9)).toArray (0, 0) _ rfl (setRow_heap _ _ _ _ _ _ (HB6.out _)) Tryz.underlying44 rfl (by kernel_rfl) .nil)) rfl ?_
  have hon : Only w.heap.size (w.heap.size + 3) w4 (((W6.setCell ⟨w.heap.size + 1 + 1, 5, none⟩ (.slice A9 m9 c9)).setCell ⟨w.heap.size + 1 + 1, 0, none⟩ (.int .i64 er)).setRow (w.heap.size + 1) (ansL er y (.slice A9 m9 c9)).toArray) := (((HON.put 5 _ (by omega) (by omega)).put 0 _ (by omega) (by omega)).row _ (by omega) (by omega))
  refine ⟨⟨y, .slice A9 m9 c9, rfl, ?_⟩, left_fin HM.out HBX.out HF.out hon⟩
  have hs3 := HBX.out.s
  rcases HY.out with h | h | ⟨q1, q2, q3, q4⟩
  · exact .inl h
  · exact .inr (.inl h)
  · refine .inr (.inr ⟨q1, q2, q3, ?_⟩)
    rw [hs3] at q4
    exact own_at q4 fun j hj => hon.block j (own_lt q4 j hj) (.inr (own_ge q4 j hj))

set_option maxHeartbeats 2000000 in
set_option maxRecDepth 100000 in
theorem want_head (w : World) (g : Nat) (B : List (List UInt8)) (L : List Ob) (b0 : Nat) (Q F : Nat → Prop) (b k pf fr : List UInt8) (dv : Value) (id nn a fi mo : Int) (hb : b.length ≤ 100000) (hk : k.length ≤ 100000) (hok : ROk B L) (hb0 : b0 ≤ w.heap.size) (hm : RefM w g B L b0 Q F) (hT : Tabs w) :
    Calls Tryz.prog 14 #[.pointer (some ⟨g, 0, none⟩), .agg #[.int .i64 6, .string (mkS b), .string (mkS k), dv, .int .i64 nn, .int .i64 a, .string (mkS pf), .string (mkS fr), .int .i64 fi, .int .i64 mo], .int .i64 id] w
      (WAns (fun y dv w' => ((rFindE B L b k nn ≠ 0 ∧ y = kp0) ∨ (rFindE B L b k nn = 0 ∧ rGetK L b k nn = some y)) ∧ dv = .slice none 0 0) B L Q F g b0 (rGetE B L b k nn) w) := by
  obtain ⟨W3, hW3⟩ : ∃ W3, ((w.alloc (.cells #[.int .i64 6, .string (mkS b), .string (mkS k), dv, .int .i64 nn, .int .i64 a, .string (mkS pf), .string (mkS fr), .int .i64 fi, .int .i64 mo] 34)).alloc (.cells ans0 44)).alloc (.cells ans0 44) = W3 := ⟨_, rfl⟩
  have hbx := boxed_mk w #[.int .i64 6, .string (mkS b), .string (mkS k), dv, .int .i64 nn, .int .i64 a, .string (mkS pf), .string (mkS fr), .int .i64 fi, .int .i64 mo]
  rw [hW3] at hbx
  have hm3 := hm.below hbx.b
  obtain ⟨er, her⟩ : ∃ er, rGetE B L b k nn = er := ⟨_, rfl⟩
  have HC : Hid (Calls Tryz.prog 43 #[.pointer (some ⟨g, 0, none⟩), .string (mkS b), .string (mkS k), .int .i64 nn] W3 fun e w' => (∃ (y : Kp) (A9 : Option Addr) (m9 c9 : Nat), e = .returned (.tuple #[.agg #[.int .i64 y.id, .bool y.mark, .int .i64 y.sz, .int .u32 y.sum], .slice A9 m9 c9, .int .i64 er]) ∧ Hid ((rFindE B L b k nn ≠ 0 ∧ y = kp0 ∧ Value.slice A9 m9 c9 = .slice none 0 0) ∨ (rFindE B L b k nn = 0 ∧ rGetK L b k nn = some y ∧ y.mark = true ∧ Value.slice A9 m9 c9 = .slice none 0 0) ∨ (rFindE B L b k nn = 0 ∧ rGetK L b k nn = some y ∧ y.mark = false ∧ w'.ownsRow W3.heap.size 5 1 (Value.slice A9 m9 c9) y.dt.length ((byN y.dt).map (Value.int .u8))))) ∧ Hid (Left W3 g b0 B L Q F w') ∧ Hid (w'.heap[w.heap.size + 1]? = some (.cells ans0 44 (0, 0)) ∧ w'.heap[w.heap.size + 1 + 1]? = some (.cells ans0 44 (0, 0)) ∧ w.heap.size + 3 ≤ w'.heap.size)) :=
    (rget_is W3 g B L b0 Q F b k nn hb hk (by have := hok.hB; omega) (by have := hok.hL; omega) hok.hrs (hok.row b k) hm3 (hT.below hbx.b)).mono fun e w' h => by
      obtain ⟨⟨y, v, h1, h4⟩, h3⟩ := h
      refine ⟨?_, left_below hm3 h3, boxed_afterR hbx hm.qlt (Moved.of_below (Q := Q) h3)⟩
      rw [her] at h1
      rcases h4 with ⟨q1, q2, rfl⟩ | ⟨q1, q2, q3, rfl⟩ | ⟨q1, q2, q3, q4⟩
      · exact ⟨y, none, 0, 0, h1, .inl ⟨q1, q2, rfl⟩⟩
      · exact ⟨y, none, 0, 0, h1, .inr (.inl ⟨q1, q2, q3, rfl⟩)⟩
      · obtain ⟨p9, c9, rfl⟩ := own_slice q4
        exact ⟨y, p9, _, c9, h1, .inr (.inr ⟨q1, q2, q3, q4⟩)⟩
  rw [her]
  have HBX := Lib.hid hbx
  have HM := Lib.hid hm
  have HW3 := Lib.hid hW3
  obtain ⟨c0, c1, c2, c3, c4, c5, c6, c7, c8, c9⟩ := chAt_of hbx.k4
  clear c3 c5 c6 c7 c8 c9
  clear hm hm3 hbx hW3 her hT hok hb0
  go_enter Tryz.func14, Tryz.ntmps14
  go_upto_region 2 with (fail)
  rw [HW3.out]
  clear HW3
  go_wp2_with fail
  refine HC.out.mono ?_
  rintro e w4 ⟨⟨y, A9, m9, c9, rfl, HY⟩, HF, HB⟩
  obtain ⟨W6, HTH, hW6, HAA, HK7, HK6, HON⟩ := box_verR w w4 y HB.out.1 HB.out.2.1 HB.out.2.2
  have HW6 := Lib.hid hW6
  have HK6h := Lib.hid HK6
  have HTHh := Lib.hid HTH
  obtain ⟨z0, z1, z2, z3, z4, z5, z6, z7, z8, z9, z10⟩ := HAA
  have f0 := blk_frozen HK7 0
  have f5 := blk_frozen HK7 5
  clear hW6 HC HK6 HK7 HTH
  have HB6 : Hid (∀ u, (W6.setCell ⟨w.heap.size + 1 + 1, 0, none⟩ u).heap[w.heap.size + 1]? = some (.cells ans0 44 (0, 0))) := fun u => blk_far HK6h.out (by simp) u
  go_wp2_with (first | (refine wpList_store_mid rfl 38 (.tmp 80) (.tmp 77) rfl (w.heap.size + 1 + 1) 1 (verA y) rfl rfl HTHh.out (by kernel_rfl) (by simp [Value.oneCell']) ?_; rw [HW6.out]) | (refine wpList_store_row rfl 44 (.tmp 6) (.tmp 124) rfl (w.heap.size + 1) (ansL er y (.slice none 0 0)).toArray rfl rfl 44 _ (HB6.out _) (by kernel_rfl) rfl (by simp [ansL, Value.oneCell']) ?_))
  refine bodyPost_ret (results_single rfl (.cell (w.heap.size + 1) 44 (ansL er y (.slice none 0 0)).toArray (0, 0) _ rfl (setRow_heap _ _ _ _ _ _ (HB6.out _)) Tryz.underlying44 rfl (by kernel_rfl) .nil)) rfl ?_
  have hon : Only w.heap.size (w.heap.size + 3) w4 ((W6.setCell ⟨w.heap.size + 1 + 1, 0, none⟩ (.int .i64 er)).setRow (w.heap.size + 1) (ansL er y (.slice none 0 0)).toArray) := ((HON.put 0 _ (by omega) (by omega)).row _ (by omega) (by omega))
  refine ⟨⟨y, .slice none 0 0, rfl, ?_, rfl⟩, left_fin HM.out HBX.out HF.out hon⟩
  rcases HY.out with ⟨h1, h2, _⟩ | ⟨h1, h2, _⟩ | ⟨h1, h2, _⟩
  · exact .inl ⟨h1, h2⟩
  · exact .inr ⟨h1, h2⟩
  · exact .inr ⟨h1, h2⟩

set_option maxHeartbeats 2000000 in
set_option maxRecDepth 100000 in
theorem want_none (w : World) (g : Nat) (B : List (List UInt8)) (L : List Ob) (b0 : Nat) (Q F : Nat → Prop) (b k pf fr : List UInt8) (dv : Value) (d id nn a fi mo : Int) (hb : b.length ≤ 100000) (hk : k.length ≤ 100000) (hok : ROk B L) (hb0 : b0 ≤ w.heap.size) (hm : RefM w g B L b0 Q F) (h1 : ¬ d = 1) (h2 : ¬ d = 2) (h3 : ¬ d = 3) (h4 : ¬ d = 4) (h5 : ¬ d = 5) (h6 : ¬ d = 6) (h7 : ¬ d = 7) (h8 : ¬ d = 8) (h9 : ¬ d = 9) (h10 : ¬ d = 10) :
    Calls Tryz.prog 14 #[.pointer (some ⟨g, 0, none⟩), .agg #[.int .i64 d, .string (mkS b), .string (mkS k), dv, .int .i64 nn, .int .i64 a, .string (mkS pf), .string (mkS fr), .int .i64 fi, .int .i64 mo], .int .i64 id] w
      (WAns (fun y dv _ => y = kp0 ∧ dv = .slice none 0 0) B L Q F g b0 0 w) := by
  obtain ⟨W3, hW3⟩ : ∃ W3, ((w.alloc (.cells #[.int .i64 d, .string (mkS b), .string (mkS k), dv, .int .i64 nn, .int .i64 a, .string (mkS pf), .string (mkS fr), .int .i64 fi, .int .i64 mo] 34)).alloc (.cells ans0 44)).alloc (.cells ans0 44) = W3 := ⟨_, rfl⟩
  have hbx := boxed_mk w #[.int .i64 d, .string (mkS b), .string (mkS k), dv, .int .i64 nn, .int .i64 a, .string (mkS pf), .string (mkS fr), .int .i64 fi, .int .i64 mo]
  rw [hW3] at hbx
  have hm3 := hm.below hbx.b
  have HB := Lib.hid (boxed_afterR hbx hm.qlt (Moved.of_below (Q := Q) (Below.refl _ _)))
  have HL3 := Lib.hid (left_below hm3 (Below.refl _ _))
  have e1 : (d == 1) = false := by simp; omega
  have e2 : (d == 2) = false := by simp; omega
  have e3 : (d == 3) = false := by simp; omega
  have e4 : (d == 4) = false := by simp; omega
  have e5 : (d == 5) = false := by simp; omega
  have e6 : (d == 6) = false := by simp; omega
  have e7 : (d == 7) = false := by simp; omega
  have e8 : (d == 8) = false := by simp; omega
  have e9 : (d == 9) = false := by simp; omega
  have e10 : (d == 10) = false := by simp; omega
  have HBX := Lib.hid hbx
  have HM := Lib.hid hm
  have HW3 := Lib.hid hW3
  obtain ⟨c0, c1, c2, c3, c4, c5, c6, c7, c8, c9⟩ := chAt_of hbx.k4
  clear c1 c2 c3 c4 c5 c6 c7 c8 c9
  clear hm hm3 hbx hW3 hok hb0 h1 h2 h3 h4 h5 h6 h7 h8 h9 h10
  go_enter Tryz.func14, Tryz.ntmps14
  go_upto_region 2 with (fail)
  rw [HW3.out]
  clear HW3
  obtain ⟨z0, z1, z2, z3, z4, z5, z6, z7, z8, z9, z10⟩ := zeros_of HB.out.2.1
  have HB6 : Hid (∀ u : Nat, W3.heap[w.heap.size + 1]? = some (.cells ans0 44 (0, 0))) := fun _ => HB.out.1
  go_wp2_with (refine wpList_store_row rfl 44 (.tmp 6) (.tmp 124) rfl (w.heap.size + 1) (ansL 0 kp0 (.slice none 0 0)).toArray rfl rfl 44 _ (HB6.out 0) (by kernel_rfl) rfl (by simp [ansL, Value.oneCell']) ?_)
  refine bodyPost_ret (results_single rfl (.cell (w.heap.size + 1) 44 (ansL 0 kp0 (.slice none 0 0)).toArray (0, 0) _ rfl (setRow_heap _ _ _ _ _ _ (HB6.out 0)) Tryz.underlying44 rfl (by kernel_rfl) .nil)) rfl ?_
  exact ⟨⟨kp0, .slice none 0 0, rfl, rfl, rfl⟩, left_fin HM.out HBX.out HL3.out ((Only.refl _ _ _).row _ (by omega) (by omega))⟩
end Go.Proofs.YtjbjcfnbgcloiaaGreatDoor

/- The document's own calls (Wants of the statements of layer 22): buckets, objects, versions. -/
set_option linter.unusedSimpArgs false
set_option linter.unusedVariables false
namespace Go.Proofs.YtjbjcfnbgcloiaaGreatDoor
open Go.RowKit Nam YtjbjcfnbgcloiaaGreatDoorW.PrintWords Go.Lib

theorem reps_strs {w : World} {F : Nat → Prop} {B : List (List UInt8)} {news : List Value} (h : Reps (StrE w F) 1 B news) : news = B.map (fun s => Value.string (mkS s)) := by
  have hl : news.length = B.length := by have := h.1; omega
  refine List.ext_getElem? fun j => ?_
  rw [List.getElem?_map]
  cases hb : B[j]? with
  | none =>
    rw [List.getElem?_eq_none_iff] at hb
    rw [List.getElem?_eq_none_iff.2 (by omega)]
    rfl
  | some s =>
    have h2 : (news.drop (j * 1)).take 1 = [Value.string (mkS s)] := h.2 j s hb
    rw [Nat.mul_one] at h2
    have h3 := congrArg (fun l : List Value => l[0]?) h2
    simp only [List.getElem?_take, List.getElem?_drop] at h3
    simpa using h3
def WNames (B : List (List UInt8)) (L : List Ob) (Q F : Nat → Prop) (g b0 : Nat) (w : World) (e : Ending) (w' : World) : Prop :=
  (∃ v, e = .returned (.agg (ansN v)) ∧ w'.ownsRow (w.heap.size + 3) 9 1 v B.length (B.map fun s => Value.string (mkS s))) ∧ Left w g b0 B L Q F w'
def WPg (B : List (List UInt8)) (L : List Ob) (Q F : Nat → Prop) (g b0 : Nat) (b : List UInt8) (q : AskV) (vs : Bool) (w : World) (e : Ending) (w' : World) : Prop :=
  (∃ (er : Int) (sv : Value) (m : Bool) (k : ByteArray) (i : Int) (o : List Ent), e = .returned (.agg (ansPg er sv m k i)) ∧ RowE w' sv o ∧ RTells B L b q vs er o m k i ∧ ∀ b f n c, sv = .slice (some ⟨b, f, none⟩) n c → w.heap.size ≤ b) ∧ Left w g b0 B L Q F w'

set_option maxHeartbeats 2000000 in
set_option maxRecDepth 100000 in
theorem want_names (w : World) (g : Nat) (B : List (List UInt8)) (L : List Ob) (b0 : Nat) (Q F : Nat → Prop) (b k pf fr : List UInt8) (dv : Value) (id nn a fi mo : Int) (hb : b.length ≤ 100000) (hk : k.length ≤ 100000) (hok : ROk B L) (hb0 : b0 ≤ w.heap.size) (hm : RefM w g B L b0 Q F) :
    Calls Tryz.prog 14 #[.pointer (some ⟨g, 0, none⟩), .agg #[.int .i64 3, .string (mkS b), .string (mkS k), dv, .int .i64 nn, .int .i64 a, .string (mkS pf), .string (mkS fr), .int .i64 fi, .int .i64 mo], .int .i64 id] w
      (WNames B L Q F g b0 w) := by
  obtain ⟨W3, hW3⟩ : ∃ W3, ((w.alloc (.cells #[.int .i64 3, .string (mkS b), .string (mkS k), dv, .int .i64 nn, .int .i64 a, .string (mkS pf), .string (mkS fr), .int .i64 fi, .int .i64 mo] 34)).alloc (.cells ans0 44)).alloc (.cells ans0 44) = W3 := ⟨_, rfl⟩
  have hbx := boxed_mk w #[.int .i64 3, .string (mkS b), .string (mkS k), dv, .int .i64 nn, .int .i64 a, .string (mkS pf), .string (mkS fr), .int .i64 fi, .int .i64 mo]
  rw [hW3] at hbx
  have hm3 := hm.below hbx.b
  obtain ⟨A1, q1, A2, q2, hcB, hcL, HG, HBc, HO⟩ := hm3.lay
  obtain ⟨n, hn⟩ : ∃ n, B.length = n := ⟨_, rfl⟩
  have hB := hok.hB
  rw [hn] at HG hcB hB
  obtain ⟨g0, g1⟩ := HG.out _ (Below.refl _ _)
  have hrB : RowG StrE 1 W3 F (.slice A1 n q1) B := hm3.rowB g0
  obtain ⟨nb, hnb, rnb⟩ := hrB
  have hnbl : nb.length = n * 1 := by rw [← hn]; exact rnb.1
  have HLb : Hid (LiesAt W3 (.slice A1 n q1) n nb) := by show LiesAt W3 _ n nb; have := hnb.lies; rwa [hn] at this
  have HOb : Hid (∀ u ∈ nb, u.oneCell' = true) := rg_ones rnb (by decide) (fun p c hp u hu => by rw [show c = _ from hp] at hu; simp at hu; subst hu; rfl)
  have HNb : Hid (nb = B.map fun s => Value.string (mkS s)) := reps_strs rnb
  have HN := Lib.hid hn
  have HM3 := Lib.hid hm3
  have HBX := Lib.hid hbx
  have HM := Lib.hid hm
  have HW3 := Lib.hid hW3
  obtain ⟨c0, c1, c2, c3, c4, c5, c6, c7, c8, c9⟩ := chAt_of hbx.k4
  clear c1 c2 c3 c4 c5 c6 c7 c8 c9
  clear hm hm3 hbx hW3 hn hnb rnb hok hb0 HG HBc HO
  go_enter Tryz.func14, Tryz.ntmps14
  go_upto_region 2 with (fail)
  rw [HW3.out]
  clear HW3
  go_upto_region 8 with (fail)
  go_wp2_with (first | (at_builtin; refine wpList_ap_lies (base := W3.heap.size) (n := 0) (m := n) (xs := []) (cs := nb) apS (by rfl) (.const (.slice none 0 0)) (.tmp 30) (by rfl) (by rfl) (own_nil _ _ _ _) (by rfl) HLb.out hnbl HOb.out (by omega) (Nat.le_refl _) ?_; intro v1 w1 hown1 hgr1 _; rw [Nat.zero_add, List.nil_append] at hown1; obtain ⟨p1, q9, rfl⟩ := own_slice hown1; have HO1 := Lib.hid hown1; have HB1 : Hid (Below W3.heap.size W3 w1) := (Below.refl _ _).grown hgr1 (Nat.le_refl _) (fun k hk => by cases hk); have HBo := Lib.hid (boxed_afterR HBX.out HM.out.qlt (Moved.of_below (Q := Q) HB1.out)); obtain ⟨z0, z1, z2, z3, z4, z5, z6, z7, z8, z9, z10⟩ := zeros_of HBo.out.2.1; have f10 := blk_frozen HBo.out.2.1 10; have HB6 : Hid (∀ u, (w1.setCell ⟨w.heap.size + 1 + 1, 10, none⟩ u).heap[w.heap.size + 1]? = some (.cells ans0 44 (0, 0))) := (fun u => blk_far HBo.out.1 (by simp) u); clear hown1 hgr1 g0 g1) | (refine wpList_store_row rfl 44 (.tmp 6) (.tmp 124) rfl (w.heap.size + 1) (ansN (.slice p1 n q9)) rfl rfl 44 _ (HB6.out _) (by kernel_rfl) rfl (by simp [Value.oneCell']) ?_))
  refine bodyPost_ret (results_single rfl (.cell (w.heap.size + 1) 44 (ansN (.slice p1 n q9)) (0, 0) _ rfl (setRow_heap _ _ _ _ _ _ (HB6.out _)) Tryz.underlying44 rfl (by kernel_rfl) .nil)) rfl ?_
  have hon : Only w.heap.size (w.heap.size + 3) w1 ((w1.setCell ⟨w.heap.size + 1 + 1, 10, none⟩ (.slice p1 n q9)).setRow (w.heap.size + 1) (ansN (.slice p1 n q9))) := ((Only.refl _ _ _).put 10 _ (by omega) (by omega)).row _ (by omega) (by omega)
  refine ⟨⟨_, rfl, ?_⟩, left_fin HM.out HBX.out (left_below HM3.out HB1.out) hon⟩
  have h1 := HO1.out
  rw [HBX.out.s, HNb.out] at h1
  rw [HN.out]
  exact own_at h1 fun j hj => hon.block j (own_lt h1 j hj) (.inr (own_ge h1 j hj))

set_option maxHeartbeats 2000000 in
set_option maxRecDepth 100000 in
theorem want_objs (w : World) (g : Nat) (B : List (List UInt8)) (L : List Ob) (b0 : Nat) (Q F : Nat → Prop) (b k pf fr : List UInt8) (dv : Value) (id nn a fi mo : Int) (hb : b.length ≤ 100000) (hk : k.length ≤ 100000) (hok : ROk B L) (hb0 : b0 ≤ w.heap.size) (hm : RefM w g B L b0 Q F) (hpf : pf.length ≤ 100000) (hfr : fr.length ≤ 100000) :
    Calls Tryz.prog 14 #[.pointer (some ⟨g, 0, none⟩), .agg #[.int .i64 9, .string (mkS b), .string (mkS k), dv, .int .i64 nn, .int .i64 a, .string (mkS pf), .string (mkS fr), .int .i64 fi, .int .i64 mo], .int .i64 id] w
      (WPg B L Q F g b0 b (askV pf fr fi mo) false w) := by
  obtain ⟨W3, hW3⟩ : ∃ W3, ((w.alloc (.cells #[.int .i64 9, .string (mkS b), .string (mkS k), dv, .int .i64 nn, .int .i64 a, .string (mkS pf), .string (mkS fr), .int .i64 fi, .int .i64 mo] 34)).alloc (.cells ans0 44)).alloc (.cells ans0 44) = W3 := ⟨_, rfl⟩
  have hbx := boxed_mk w #[.int .i64 9, .string (mkS b), .string (mkS k), dv, .int .i64 nn, .int .i64 a, .string (mkS pf), .string (mkS fr), .int .i64 fi, .int .i64 mo]
  rw [hW3] at hbx
  have hm3 := hm.below hbx.b
  have HC : Hid (Calls Tryz.prog 46 #[.pointer (some ⟨g, 0, none⟩), .string (mkS b), .agg #[.string (mkS pf), .string (mkS fr), .int .i64 fi, .int .i64 mo], .bool false] W3 (RPgOk B L b (askV pf fr fi mo) false W3)) :=
    rpage_is W3 g B L b0 Q F b (askV pf fr fi mo) false hb (by have := hok.hB; omega) hok.hL hok.hrs hok.hky (by show (mkS pf).size ≤ _; rw [mkS_size]; unfold maxLen; omega) (by show (mkS fr).size ≤ _; rw [mkS_size]; unfold maxLen; omega) hm3
  have HM3 := Lib.hid hm3
  have HBX := Lib.hid hbx
  have HM := Lib.hid hm
  have HW3 := Lib.hid hW3
  obtain ⟨c0, c1, c2, c3, c4, c5, c6, c7, c8, c9⟩ := chAt_of hbx.k4
  clear c2 c3 c4 c5
  clear hm hm3 hbx hW3 hok hb0
  go_enter Tryz.func14, Tryz.ntmps14
  go_upto_region 2 with (fail)
  rw [HW3.out]
  clear HW3
  go_wp2_with fail
  refine HC.out.mono ?_
  intro e w4 hpg
  obtain ⟨⟨p, nn9, cc, m, ky, i, er, o, rfl, hr4, hf4, ht4⟩, hb4⟩ := hpg
  have HR4 := Lib.hid hr4
  have HT4 := Lib.hid ht4
  have HF4 : Hid (∀ b f n c, Value.slice p nn9 cc = .slice (some ⟨b, f, none⟩) n c → w.heap.size + 3 ≤ b) := fun b f n c h => by
    have h1 := hf4 b f n c h
    have h3 := HBX.out.s
    omega
  have HB4 := Lib.hid hb4
  have HBo := Lib.hid (boxed_afterR HBX.out HM.out.qlt (Moved.of_below (Q := Q) hb4))
  obtain ⟨W8, HTH, hW8, ⟨z0, z1, z2, z3, z4, z5, z6, z7, z8, z9, z10⟩, HK7, HK6, HON⟩ := box_pg w w4 (.slice p nn9 cc) m ky i HBo.out.1 HBo.out.2.1 HBo.out.2.2
  have HW8 := Lib.hid hW8
  have HK6h := Lib.hid HK6
  have HTHh := Lib.hid HTH
  have HONh := Lib.hid HON
  have f0 := blk_frozen HK7 0
  clear hW8 HK6 HK7 HTH HON hf4 hb4 hr4 ht4 HC
  have HBs : Hid (∀ u, (W8.setCell ⟨w.heap.size + 1 + 1, 0, none⟩ u).heap[w.heap.size + 1]? = some (.cells ans0 44 (0, 0))) := fun u => blk_far HK6h.out (by simp) u
  go_wp2_with (first | (refine wpList_store_mid rfl 41 (.tmp 122) (.tmp 120) rfl (w.heap.size + 1 + 1) 6 (pgA (.slice p nn9 cc) m ky i) rfl rfl HTHh.out (by kernel_rfl) (by simp [Value.oneCell']) ?_; rw [HW8.out]) | (refine wpList_store_row rfl 44 (.tmp 6) (.tmp 124) rfl (w.heap.size + 1) (ansPg er (.slice p nn9 cc) m ky i) rfl rfl 44 _ (HBs.out _) (by kernel_rfl) rfl (by simp [Value.oneCell']) ?_))
  refine bodyPost_ret (results_single rfl (.cell (w.heap.size + 1) 44 (ansPg er (.slice p nn9 cc) m ky i) (0, 0) _ rfl (setRow_heap _ _ _ _ _ _ (HBs.out _)) Tryz.underlying44 rfl (by kernel_rfl) .nil)) rfl ?_
  have hon := (HONh.out.put 0 (.int .i64 er) (g := w.heap.size + 1 + 1) (by omega) (by omega)).row (g := w.heap.size + 1) (ansPg er (.slice p nn9 cc) m ky i) (by omega) (by omega)
  exact ⟨⟨er, _, m, ky, i, o, rfl, rowE_keep HR4.out (fun b f n c h hlt => hon.block b hlt (.inr (HF4.out b f n c h))) hon.size, HT4.out, fun b f n c h => by have := HF4.out b f n c h; omega⟩, left_fin HM.out HBX.out (left_below HM3.out HB4.out) hon⟩

set_option maxHeartbeats 2000000 in
set_option maxRecDepth 100000 in
theorem want_vers (w : World) (g : Nat) (B : List (List UInt8)) (L : List Ob) (b0 : Nat) (Q F : Nat → Prop) (b k pf fr : List UInt8) (dv : Value) (id nn a fi mo : Int) (hb : b.length ≤ 100000) (hk : k.length ≤ 100000) (hok : ROk B L) (hb0 : b0 ≤ w.heap.size) (hm : RefM w g B L b0 Q F) (hpf : pf.length ≤ 100000) (hfr : fr.length ≤ 100000) :
    Calls Tryz.prog 14 #[.pointer (some ⟨g, 0, none⟩), .agg #[.int .i64 10, .string (mkS b), .string (mkS k), dv, .int .i64 nn, .int .i64 a, .string (mkS pf), .string (mkS fr), .int .i64 fi, .int .i64 mo], .int .i64 id] w
      (WPg B L Q F g b0 b (askV pf fr fi mo) true w) := by
  obtain ⟨W3, hW3⟩ : ∃ W3, ((w.alloc (.cells #[.int .i64 10, .string (mkS b), .string (mkS k), dv, .int .i64 nn, .int .i64 a, .string (mkS pf), .string (mkS fr), .int .i64 fi, .int .i64 mo] 34)).alloc (.cells ans0 44)).alloc (.cells ans0 44) = W3 := ⟨_, rfl⟩
  have hbx := boxed_mk w #[.int .i64 10, .string (mkS b), .string (mkS k), dv, .int .i64 nn, .int .i64 a, .string (mkS pf), .string (mkS fr), .int .i64 fi, .int .i64 mo]
  rw [hW3] at hbx
  have hm3 := hm.below hbx.b
  have HC : Hid (Calls Tryz.prog 46 #[.pointer (some ⟨g, 0, none⟩), .string (mkS b), .agg #[.string (mkS pf), .string (mkS fr), .int .i64 fi, .int .i64 mo], .bool true] W3 (RPgOk B L b (askV pf fr fi mo) true W3)) :=
    rpage_is W3 g B L b0 Q F b (askV pf fr fi mo) true hb (by have := hok.hB; omega) hok.hL hok.hrs hok.hky (by show (mkS pf).size ≤ _; rw [mkS_size]; unfold maxLen; omega) (by show (mkS fr).size ≤ _; rw [mkS_size]; unfold maxLen; omega) hm3
  have HM3 := Lib.hid hm3
  have HBX := Lib.hid hbx
  have HM := Lib.hid hm
  have HW3 := Lib.hid hW3
  obtain ⟨c0, c1, c2, c3, c4, c5, c6, c7, c8, c9⟩ := chAt_of hbx.k4
  clear c2 c3 c4 c5
  clear hm hm3 hbx hW3 hok hb0
  go_enter Tryz.func14, Tryz.ntmps14
  go_upto_region 2 with (fail)
  rw [HW3.out]
  clear HW3
  go_wp2_with fail
  refine HC.out.mono ?_
  intro e w4 hpg
  obtain ⟨⟨p, nn9, cc, m, ky, i, er, o, rfl, hr4, hf4, ht4⟩, hb4⟩ := hpg
  have HR4 := Lib.hid hr4
  have HT4 := Lib.hid ht4
  have HF4 : Hid (∀ b f n c, Value.slice p nn9 cc = .slice (some ⟨b, f, none⟩) n c → w.heap.size + 3 ≤ b) := fun b f n c h => by
    have h1 := hf4 b f n c h
    have h3 := HBX.out.s
    omega
  have HB4 := Lib.hid hb4
  have HBo := Lib.hid (boxed_afterR HBX.out HM.out.qlt (Moved.of_below (Q := Q) hb4))
  obtain ⟨W8, HTH, hW8, ⟨z0, z1, z2, z3, z4, z5, z6, z7, z8, z9, z10⟩, HK7, HK6, HON⟩ := box_pg w w4 (.slice p nn9 cc) m ky i HBo.out.1 HBo.out.2.1 HBo.out.2.2
  have HW8 := Lib.hid hW8
  have HK6h := Lib.hid HK6
  have HTHh := Lib.hid HTH
  have HONh := Lib.hid HON
  have f0 := blk_frozen HK7 0
  clear hW8 HK6 HK7 HTH HON hf4 hb4 hr4 ht4 HC
  have HBs : Hid (∀ u, (W8.setCell ⟨w.heap.size + 1 + 1, 0, none⟩ u).heap[w.heap.size + 1]? = some (.cells ans0 44 (0, 0))) := fun u => blk_far HK6h.out (by simp) u
  go_wp2_with (first | (refine wpList_store_mid rfl 41 (.tmp 122) (.tmp 120) rfl (w.heap.size + 1 + 1) 6 (pgA (.slice p nn9 cc) m ky i) rfl rfl HTHh.out (by kernel_rfl) (by simp [Value.oneCell']) ?_; rw [HW8.out]) | (refine wpList_store_row rfl 44 (.tmp 6) (.tmp 124) rfl (w.heap.size + 1) (ansPg er (.slice p nn9 cc) m ky i) rfl rfl 44 _ (HBs.out _) (by kernel_rfl) rfl (by simp [Value.oneCell']) ?_))
  refine bodyPost_ret (results_single rfl (.cell (w.heap.size + 1) 44 (ansPg er (.slice p nn9 cc) m ky i) (0, 0) _ rfl (setRow_heap _ _ _ _ _ _ (HBs.out _)) Tryz.underlying44 rfl (by kernel_rfl) .nil)) rfl ?_
  have hon := (HONh.out.put 0 (.int .i64 er) (g := w.heap.size + 1 + 1) (by omega) (by omega)).row (g := w.heap.size + 1) (ansPg er (.slice p nn9 cc) m ky i) (by omega) (by omega)
  exact ⟨⟨er, _, m, ky, i, o, rfl, rowE_keep HR4.out (fun b f n c h hlt => hon.block b hlt (.inr (HF4.out b f n c h))) hon.size, HT4.out, fun b f n c h => by have := HF4.out b f n c h; omega⟩, left_fin HM.out HBX.out (left_below HM3.out HB4.out) hon⟩
end Go.Proofs.YtjbjcfnbgcloiaaGreatDoor

/- The document's own model: are two rows of bytes the same. -/
set_option linter.unusedSimpArgs false
set_option linter.unusedVariables false
namespace Go.Proofs.YtjbjcfnbgcloiaaGreatDoor
open Go.RowKit Nam YtjbjcfnbgcloiaaGreatDoorW.PrintWords Go.Shelf

def sameD (xs ys : List Kp) : Bool := decide (xs.map (·.dt) = ys.map (·.dt))
theorem sameD_take {xs ys : List Kp} {j : Nat} {x y : Kp} (h : (xs.take j).map (·.dt) = (ys.take j).map (·.dt)) (hx : xs[j]? = some x) (hy : ys[j]? = some y) (e : x.dt = y.dt) : (xs.take (j + 1)).map (·.dt) = (ys.take (j + 1)).map (·.dt) := by
  rw [List.take_add_one, List.take_add_one, hx, hy, List.map_append, List.map_append, h]
  simp [e]
theorem sameD_no {xs ys : List Kp} {j : Nat} {x y : Kp} (hx : xs[j]? = some x) (hy : ys[j]? = some y) (e : x.dt ≠ y.dt) : sameD xs ys = false := by
  refine decide_eq_false fun h => e ?_
  have := congrArg (fun l : List (List UInt8) => l[j]?) h
  simp only [List.getElem?_map, hx, hy, Option.map_some] at this
  injection this
set_option maxHeartbeats 2000000 in
set_option maxRecDepth 100000 in
theorem rsame_is (w : World) (xs ys : List Kp) (v u : Value) (F F2 : Nat → Prop) (hxl : xs.length ≤ 100000) (hx0 : RowG DatE 1 w F v xs) (hy0 : RowG DatE 1 w F2 u ys) :
    Calls Tryz.prog 75 #[v, u] w fun e w' => e = .returned (.bool (sameD xs ys)) ∧ ∃ k, w' = w.drewN k := by
  have hx : ∀ k, RowG DatE 1 (w.drewN k) F v xs := fun k => hx0.kept dat_stays (fun _ _ => rfl)
  have hy : ∀ k, RowG DatE 1 (w.drewN k) F2 u ys := fun k => hy0.kept dat_stays (fun _ _ => rfl)
  obtain ⟨A, c, rfl, hc⟩ := hx0.slice
  obtain ⟨A2, c2, rfl, hc2⟩ := hy0.slice
  clear hx0 hy0
  have HX := Lib.hid hx
  have HY := Lib.hid hy
  obtain ⟨n, hn⟩ : ∃ n, xs.length = n := ⟨_, rfl⟩
  obtain ⟨m, hm⟩ : ∃ m, ys.length = m := ⟨_, rfl⟩
  have HN := Lib.hid hn
  have HM := Lib.hid hm
  obtain ⟨q, hq⟩ : ∃ q, sameD xs ys = q := ⟨_, rfl⟩
  have HQ := Lib.hid hq
  rw [hn] at hc hxl ⊢
  rw [hm] at hc2 ⊢
  rw [hq]
  by_cases hnm : n = m
  · subst hnm
    clear hx hy hn hm hq
    go_enter Tryz.func75, Tryz.ntmps75
    go_wp2_with fail
    have HW0 : Hid (∃ k, w = w.drewN k) := ⟨0, rfl⟩
    go_loopw [5] (fun vi wr => ∃ (j : Nat), vi = .int .i64 j ∧ j ≤ n ∧ Hid (∃ k, wr = w.drewN k) ∧ Hid ((xs.take j).map (·.dt) = (ys.take j).map (·.dt))) (fun vi _ => n - (intOf vi).toNat)
    case atStart => exact ⟨0, rfl, Nat.zero_le _, HW0, by show _ = _; simp⟩
    case round =>
      clear HW0
      obtain ⟨j, rfl, hj, HW, HE⟩ := hrel
      obtain ⟨kw, hkw⟩ := HW.out
      by_cases hlt : j < n
      · have hltz : (j : Int) < (n : Int) := by omega
        obtain ⟨x, hx⟩ : ∃ x, xs[j]? = some x := ⟨_, List.getElem?_eq_getElem (by have := HN.out; omega)⟩
        obtain ⟨y, hy⟩ : ∃ y, ys[j]? = some y := ⟨_, List.getElem?_eq_getElem (by have := HM.out; omega)⟩
        obtain ⟨g, c', cs, e, _, ⟨A3, c3, e1, hc3, hd⟩, hcell⟩ := (hkw ▸ HX.out kw : RowG DatE 1 wr F _ xs).at_ j hx
        injection e with e _ e9
        subst e
        subst e9
        subst e1
        obtain ⟨g2, c2', cs2, e, _, ⟨A4, c4, e1, hc4, hd2⟩, hcell2⟩ := (hkw ▸ HY.out kw : RowG DatE 1 wr F2 _ ys).at_ j hy
        injection e with e _ e9
        subst e
        subst e9
        subst e1
        have a0 := hcell 0 _ (by omega) rfl
        have b0 := hcell2 0 _ (by omega) rfl
        rw [Nat.add_zero, Nat.mul_one] at a0 b0
        have k1 : (convert 30 9 (.slice A3 x.dt.length c3)).run Tryz.prog wr.drew = .ok (.string (mkS x.dt)) wr.drew := by
          have h := Kd.C_string (P := Tryz.prog) Tryz.underlying30 Tryz.underlying5 Tryz.underlying9 (c := c3) (hd wr.drew (fun _ _ => rfl))
          rwa [byN_str] at h
        have k2 : (convert 30 9 (.slice A4 y.dt.length c4)).run Tryz.prog wr.drew = .ok (.string (mkS y.dt)) wr.drew := by
          have h := Kd.C_string (P := Tryz.prog) Tryz.underlying30 Tryz.underlying5 Tryz.underlying9 (c := c4) (hd2 wr.drew (fun _ _ => rfl))
          rwa [byN_str] at h
        have hS : wr.drew.cell? ⟨g, j, none⟩ = some (.slice A3 x.dt.length c3) ∧ wr.drew.cell? ⟨g2, j, none⟩ = some (.slice A4 y.dt.length c4) ∧ (convert 30 9 (.slice A3 x.dt.length c3)).run Tryz.prog wr.drew = .ok (.string (mkS x.dt)) wr.drew ∧ (convert 30 9 (.slice A4 y.dt.length c4)).run Tryz.prog wr.drew = .ok (.string (mkS y.dt)) wr.drew := ⟨a0, b0, k1, k2⟩
        have HWd : Hid (∃ k, wr.drew = w.drewN k) := ⟨kw + 1, by rw [hkw]; rfl⟩
        clear hkw a0 b0 k1 k2
        clear hd hd2 hcell hcell2
        by_cases e1 : x.dt = y.dt
        · have q1 := streq_yes y.dt
          have HE2 := Lib.hid (sameD_take HE.out hx hy e1)
          rw [e1] at hS
          clear HE hx hy e1
          go_wp2_with fail
          go_region_held3 (fun V => V.cell? ⟨g, j, none⟩ = some (.slice A3 y.dt.length c3) ∧ V.cell? ⟨g2, j, none⟩ = some (.slice A4 y.dt.length c4) ∧ (convert 30 9 (.slice A3 y.dt.length c3)).run Tryz.prog V = .ok (.string (mkS y.dt)) V ∧ (convert 30 9 (.slice A4 y.dt.length c4)).run Tryz.prog V = .ok (.string (mkS y.dt)) V) (assumption) (fail)
          all_goals
            go_wp2_with fail
            go_roundw
            case rel => exact ⟨j + 1, by go_num, by omega, HWd, HE2⟩
            case measure => simp [intOf]; omega
        · have q1 := streq_no e1
          have hf : q = false := HQ.out.symm.trans (sameD_no hx hy e1)
          subst hf
          clear HE hx hy e1 HQ
          go_wp2_with fail
          go_region_held3 (fun V => V.cell? ⟨g, j, none⟩ = some (.slice A3 x.dt.length c3) ∧ V.cell? ⟨g2, j, none⟩ = some (.slice A4 y.dt.length c4) ∧ (convert 30 9 (.slice A3 x.dt.length c3)).run Tryz.prog V = .ok (.string (mkS x.dt)) V ∧ (convert 30 9 (.slice A4 y.dt.length c4)).run Tryz.prog V = .ok (.string (mkS y.dt)) V) (assumption) (fail)
          all_goals
            go_wp2_with fail
            go_ret
            exact ⟨rfl, HWd.out⟩
      · have hltz : ¬ (j : Int) < (n : Int) := by omega
        have hf : q = true := by
          have h := HE.out
          rw [List.take_of_length_le (by have := HN.out; omega), List.take_of_length_le (by have := HM.out; omega)] at h
          exact HQ.out.symm.trans (decide_eq_true h)
        subst hf
        clear HE HQ hkw
        go_wp2_with fail
        go_ret
        exact ⟨rfl, HW.out⟩
  · have hf : q = false := HQ.out.symm.trans (decide_eq_false fun h => hnm (by
      have := congrArg List.length h
      rw [List.length_map, List.length_map] at this
      rw [← HN.out, ← HM.out]
      exact this))
    subst hf
    have hnz : ¬ (n : Int) = (m : Int) := by omega
    clear hx hy hn hm hq HQ
    go_enter Tryz.func75, Tryz.ntmps75
    go_wp2_with fail
    go_ret
    exact ⟨rfl, 0, rfl⟩
end Go.Proofs.YtjbjcfnbgcloiaaGreatDoor

/- The document's own model: is all that one has in another, too. -/
set_option linter.unusedSimpArgs false
set_option linter.unusedVariables false
namespace Go.Proofs.YtjbjcfnbgcloiaaGreatDoor
open Go.RowKit Nam YtjbjcfnbgcloiaaGreatDoorW.PrintWords Go.Shelf

theorem all_snoc {α : Type} {p : α → Prop} {l : List α} {j : Nat} {x : α} (h : ∀ o ∈ l.take j, p o) (hx : l[j]? = some x) (hp : p x) : ∀ o ∈ l.take (j + 1), p o := fun o ho => by
  rw [List.take_add_one, hx] at ho
  rcases List.mem_append.1 ho with h1 | h1
  · exact h o h1
  · simp at h1
    rw [h1]
    exact hp
def VerEq (x y : Kp) : Prop := x.id = y.id ∧ x.mark = y.mark ∧ x.sz = y.sz ∧ x.sum = y.sum
theorem kps_eq : ∀ {xs ys : List Kp}, xs.map (·.dt) = ys.map (·.dt) → (∀ (i : Nat) (x y : Kp), xs[i]? = some x → ys[i]? = some y → VerEq x y) → xs = ys
  | [], [], _, _ => rfl
  | [], _ :: _, h, _ => by cases h
  | _ :: _, [], h, _ => by cases h
  | x :: xs, y :: ys, h, k => by
    simp only [List.map_cons, List.cons.injEq] at h
    obtain ⟨h1, h2, h3, h4⟩ := k 0 x y rfl rfl
    rw [kps_eq h.2 (fun i a b ha hb => k (i + 1) a b (by simpa using ha) (by simpa using hb))]
    obtain ⟨a1, a2, a3, a4, a5⟩ := x
    obtain ⟨b1, b2, b3, b4, b5⟩ := y
    simp only at h1 h2 h3 h4 h
    rw [h1, h2, h3, h4, h.1]
theorem neqV (x y : Kp) (w : World) : (binOp .neq 38 (.agg #[.int .i64 x.id, .bool x.mark, .int .i64 x.sz, .int .u32 x.sum]) (.agg #[.int .i64 y.id, .bool y.mark, .int .i64 y.sz, .int .u32 y.sum])).run Tryz.prog w = .ok (.bool (!(decide (x.id = y.id) && decide (x.mark = y.mark) && decide (x.sz = y.sz) && decide (x.sum = y.sum)))) w := by
  have u3 := Tryz.underlying3
  have a3 := Tryz.isAgg3
  have z3 := Tryz.sizeOf3
  have u4 := Tryz.underlying4
  have a4 := Tryz.isAgg4
  have z4 := Tryz.sizeOf4
  have u32 := Tryz.underlying36
  have a32 := Tryz.isAgg36
  have z32 := Tryz.sizeOf36
  have hS : Tryz.prog.underlying 38 = some (.struct (Tryz.prog.fieldsOf 38)) := by kernel_rfl
  have hp : Tryz.prog.stoodInHeld 38 = false := by kernel_rfl
  obtain ⟨a, m, c, e, d1⟩ := x
  obtain ⟨b, n, d, f, d2⟩ := y
  rw [run_neq_struct, show (10000 : Nat) = 9999 + 1 from rfl, run_equalIn_agg w 9999 38 _ _ hS hp]
  simp only [Program.fieldsOf, Tryz.underlying38]
  go_simp
  by_cases h1 : a = b <;> by_cases h2 : m = n <;> by_cases h3 : c = d <;> by_cases h4 : e = f <;> simp [h1, h2, h3, h4]
theorem verGuard : Tryz.prog.eqGuardType Tryz.prog.depth 38 = false := by kernel_rfl
set_option maxHeartbeats 2000000 in
set_option maxRecDepth 100000 in
theorem rwithin_is (w : World) (g g2 : Nat) (B : List (List UInt8)) (L : List Ob) (b0 : Nat) (Q F : Nat → Prop) (B2 : List (List UInt8)) (L2 : List Ob) (b02 : Nat) (Q2 F2 : Nat → Prop) (hB : B.length ≤ 100000) (hL : L.length ≤ 100000) (hB2 : B2.length ≤ 100000) (hL2 : L2.length ≤ 100000) (hrs : ∀ o ∈ L, o.rs.length ≤ 100000) (hm : RefM w g B L b0 Q F) (hm2 : RefM w g2 B2 L2 b02 Q2 F2) :
    Calls Tryz.prog 47 #[.pointer (some ⟨g, 0, none⟩), .pointer (some ⟨g2, 0, none⟩)] w fun e w' => e = .returned (.bool (withinB B L B2 L2)) ∧ Below w.heap.size w w' := by
  have HM := Lib.hid hm
  have HM2 := Lib.hid hm2
  have HRS := Lib.hid hrs
  obtain ⟨A, c, A2, c2, hcB, hcL, HG, HBc, HO⟩ := hm.lay
  obtain ⟨n, hn⟩ : ∃ n, B.length = n := ⟨_, rfl⟩
  obtain ⟨m, hmm⟩ : ∃ m, L.length = m := ⟨_, rfl⟩
  rw [hn, hmm] at HG
  rw [hn] at hcB hB
  rw [hmm] at hcL hL
  obtain ⟨A3, c3, A4, c4, hcB2, hcL2, HG2, _, HO2⟩ := hm2.lay
  obtain ⟨m2, hm2l⟩ : ∃ m2, L2.length = m2 := ⟨_, rfl⟩
  rw [hm2l] at HG2 hcL2 hL2
  have HNB := Lib.hid hn
  have HNL := Lib.hid hmm
  have HN2 := Lib.hid hm2l
  have HTh : Hid (∀ V s, Below w.heap.size w V → Calls Tryz.prog 65 #[.pointer (some ⟨g2, 0, none⟩), .string (mkS s)] V fun e w' => e = .returned (.bool (decide (s ∈ B2))) ∧ Below V.heap.size V w') := fun V s hV => rthere_is V g2 B2 L2 b02 Q2 F2 s hB2 (hm2.below hV)
  have HAt : Hid (∀ V b k, Below w.heap.size w V → Calls Tryz.prog 71 #[.pointer (some ⟨g2, 0, none⟩), .string (mkS b), .string (mkS k)] V fun e w' => e = .returned (.int .i64 (atI L2 b k)) ∧ Below V.heap.size V w') := fun V b k hV => rat_is V g2 B2 L2 b02 Q2 F2 b k (by rw [hm2l]; exact hL2) (hm2.below hV)
  obtain ⟨q, hq⟩ : ∃ q, withinB B L B2 L2 = q := ⟨_, rfl⟩
  have HQ := Lib.hid hq
  rw [hq]
  clear hm hm2 hrs hn hmm hm2l hq
  go_enter Tryz.func47, Tryz.ntmps47
  go_wp2_with fail
  have HW0 : Hid (Below w.heap.size w w) := Below.refl _ _
  go_loopw [5] (fun vi wr => ∃ (j : Nat), vi = .int .i64 j ∧ j ≤ n ∧ Hid (Below w.heap.size w wr) ∧ Hid (∀ b ∈ B.take j, b ∈ B2)) (fun vi _ => n - (intOf vi).toNat)
  case atStart => exact ⟨0, rfl, Nat.zero_le _, HW0, by show ∀ b ∈ B.take 0, _; simp⟩
  case round =>
    clear HW0
    obtain ⟨j, rfl, hj, HW, HE⟩ := hrel
    obtain ⟨g0, g1⟩ := HG.out _ HW.out
    by_cases hlt : j < n
    · have hltz : (j : Int) < (n : Int) := by omega
      obtain ⟨s, hs⟩ : ∃ s, B[j]? = some s := ⟨_, List.getElem?_eq_getElem (by have := HNB.out; omega)⟩
      obtain ⟨gb, rfl, hcell⟩ := HBc.out j s hs
      have a0 := hcell _ HW.out
      clear hcell
      go_wp2_with fail
      by_cases hmem : s ∈ B2
      · have HE2 := Lib.hid (all_snoc HE.out hs hmem)
        have dm : decide (s ∈ B2) = true := decide_eq_true hmem
        clear HE hmem
        refine (HTh.out _ s HW.out).mono ?_
        rintro e w1 ⟨rfl, hb1⟩
        have HW1 : Hid (Below w.heap.size w w1) := HW.out.trans (hb1.mono HW.out.size)
        clear hb1
        rw [dm]
        go_wp2_with fail
        go_roundw
        case rel => exact ⟨j + 1, by go_num, by omega, HW1, HE2⟩
        case measure => simp [intOf]; omega
      · have hf : q = false := HQ.out.symm.trans (within_no fun h => hmem (h.1 s (List.mem_of_getElem? hs)))
        have dm : decide (s ∈ B2) = false := decide_eq_false hmem
        subst hf
        clear HE hmem HQ
        refine (HTh.out _ s HW.out).mono ?_
        rintro e w1 ⟨rfl, hb1⟩
        have HW1 : Hid (Below w.heap.size w w1) := HW.out.trans (hb1.mono HW.out.size)
        clear hb1
        rw [dm]
        go_wp2_with fail
        go_ret
        exact ⟨rfl, HW1.out⟩
    · have hltz : ¬ (j : Int) < (n : Int) := by omega
      have HE1 : Hid (∀ b ∈ B, b ∈ B2) := by
        have h := HE.out
        rw [List.take_of_length_le (by have := HNB.out; omega)] at h
        exact h
      clear HE
      go_wp2_with fail
      clear hltz hlt hj g0 g1
      obtain ⟨wq, hwq⟩ : ∃ wq, wr = wq := ⟨_, rfl⟩
      rw [hwq] at HW ⊢
      clear hwq
      go_loopw [6] (fun vi wr => ∃ (j : Nat), vi = .int .i64 j ∧ j ≤ m ∧ Hid (Below w.heap.size w wr) ∧ Hid (∀ o ∈ L.take j, o.rs = [] ∨ rsOf L2 o.bk o.ky = o.rs)) (fun vi _ => m - (intOf vi).toNat)
      case atStart => exact ⟨0, rfl, Nat.zero_le _, HW, by show ∀ b ∈ L.take 0, _; simp⟩
      case round =>
        clear HW
        obtain ⟨j, rfl, hj, HW, HE⟩ := hrel
        obtain ⟨g0, g1⟩ := HG.out _ HW.out
        by_cases hlt : j < m
        · have hltz : (j : Int) < (m : Int) := by omega
          obtain ⟨o, ho⟩ : ∃ o, L[j]? = some o := ⟨_, List.getElem?_eq_getElem (by have := HNL.out; omega)⟩
          obtain ⟨gl, vs, ds, rfl, hv, hd, hcell⟩ := HO.out j o ho
          obtain ⟨a0, a1, a2, a3⟩ := hcell _ HW.out
          obtain ⟨r, hr⟩ : ∃ r, o.rs.length = r := ⟨_, rfl⟩
          obtain ⟨vp, vc, rfl, hvc⟩ := hv.slice
          obtain ⟨dp, dc, rfl, hdc⟩ := hd.slice
          rw [hr] at a2 a3 hvc hdc hv hd
          clear hcell
          obtain ⟨ob, hob⟩ : ∃ ob, wr.heap.size = ob := ⟨_, rfl⟩
          go_wp2_with fail
          obtain ⟨W3, hW3⟩ : ∃ W3, wr.alloc (.cells #[.string (mkS o.bk), .string (mkS o.ky), .slice vp r vc, .slice dp r dc] 71) = W3 := ⟨_, rfl⟩
          have k3 : W3.heap[ob]? = some (.cells #[.string (mkS o.bk), .string (mkS o.ky), .slice vp r vc, .slice dp r dc] 71 (0, 0)) := by rw [← hW3, ← hob]; exact blk_new wr _
          have HW3 : Hid (Below w.heap.size w W3) := by rw [← hW3]; exact HW.out.alloc HW.out.size _
          rw [hW3]
          clear hW3 a0 a1 a2 a3 g0 g1
          refine (HAt.out W3 o.bk o.ky HW3.out).mono ?_
          rintro e w2 ⟨rfl, hb2⟩
          have HW2 : Hid (Below w.heap.size w w2) := HW3.out.trans (hb2.mono HW3.out.size)
          have k2 := blk_below k3 hb2
          have b2 : w2.cell? ⟨ob, 2, none⟩ = some (.slice vp r vc) := blk_cell k2 2
          have b3 : w2.cell? ⟨ob, 3, none⟩ = some (.slice dp r dc) := blk_cell k2 3
          have HK2 := Lib.hid k2
          clear k3 k2 hb2 HW3
          by_cases h0 : r = 0
          · have hrn : o.rs = [] := List.length_eq_zero_iff.1 (by omega)
            have HE2 := Lib.hid (all_snoc HE.out ho (.inl hrn))
            subst h0
            clear HE hrn hr ho hv hd
            go_wp2_with fail
            go_roundw
            case rel => exact ⟨j + 1, by go_num, by omega, HW2, HE2⟩
            case measure => simp [intOf]; omega
          · have hrz : ¬ (r : Int) = 0 := by omega
            have hne : o.rs ≠ [] := fun e => h0 (by rw [← hr, e]; rfl)
            obtain ⟨rs2, hrs2⟩ : ∃ rs2, rsOf L2 o.bk o.ky = rs2 := ⟨_, rfl⟩
            have HNo : Hid (rs2 ≠ o.rs → q = false) := fun h => HQ.out.symm.trans (within_no fun h2 => by
              rcases h2.2 o (List.mem_of_getElem? ho) with e | e
              · exact hne e
              · exact h (hrs2 ▸ e))
            obtain ⟨k0, k1⟩ := HG2.out _ HW2.out
            have wj : IntKind.i64.wrap ((j : Int) + 1) = j + 1 := IntWalk.i64_in _ (by omega)
            clear wj
            have HRS2 := Lib.hid hrs2
            by_cases hz : rs2 = []
            · have hf : q = false := HNo.out (fun e => hne (e ▸ hz))
              subst hf
              rcases at_none (hrs2.trans hz) with e | ⟨j2, e, hj2⟩
              · rw [e]
                clear HE HQ HNo hrs2 hz e ho hv hd hr hne
                go_wp2_with fail
                go_quiet (fail)
                go_wp2_with fail
                go_ret
                exact ⟨rfl, HW2.out.drewN _⟩
              · rw [e]
                obtain ⟨gl2, vs2, ds2, rfl, hv2, hd2, hcell2⟩ := HO2.out j2 _ hj2
                obtain ⟨_, _, d2, d3⟩ := hcell2 _ HW2.out
                obtain ⟨vp2, vc2, rfl, _⟩ := hv2.slice
                have hj2l : (j2 : Int) < (m2 : Int) := by
                  have := (List.getElem?_eq_some_iff.1 hj2).1
                  have := HN2.out
                  omega
                have dz : decide ((j2 : Int) < 0) = false := by simp
                have hz2 : ¬ (0 : Int) = (r : Int) := by omega
                clear HE HQ HNo hrs2 hz e ho hv hd hr hne hcell2 hv2 hd2 hj2
                go_wp2_with fail
                go_quiet (fail)
                go_wp2_with fail
                go_ret
                exact ⟨rfl, HW2.out.drewN _⟩
            · obtain ⟨e, hj2, _⟩ := at_has (show rsOf L2 o.bk o.ky ≠ [] from hrs2 ▸ hz)
              obtain ⟨j2, hj2e⟩ : ∃ j2, (atL L2 o.bk o.ky).2 = j2 := ⟨_, rfl⟩
              rw [hj2e] at e hj2
              rw [hrs2] at hj2
              rw [e]
              obtain ⟨gl2, vs2, ds2, rfl, hv2, hd2, hcell2⟩ := HO2.out j2 _ hj2
              have hj2l : (j2 : Int) < (m2 : Int) := by
                have := (List.getElem?_eq_some_iff.1 hj2).1
                have := HN2.out
                omega
              obtain ⟨r2, hr2⟩ : ∃ r2, rs2.length = r2 := ⟨_, rfl⟩
              obtain ⟨vp2, vc2, e8, hvc2⟩ := hv2.slice
              obtain ⟨dp2, dc2, e9, _⟩ := hd2.slice
              rw [show (Ob.mk o.bk o.ky rs2).rs.length = r2 from hr2] at e8 e9
              subst e8
              subst e9
              obtain ⟨_, _, d2, d3⟩ := hcell2 _ HW2.out
              have dz : decide ((j2 : Int) < 0) = false := by simp
              by_cases hlen : r2 = r
              · subst hlen
                have hsdx : Hid (∀ k, Calls Tryz.prog 75 #[.slice dp2 r2 dc2, .slice dp r2 dc] (w2.drewN k) fun e w' => e = .returned (.bool (sameD rs2 o.rs)) ∧ ∃ m, w' = (w2.drewN k).drewN m) := fun k => by
                  have h1 : FKept F w (w2.drewN k) := fun i hi => HW2.out.block i (isC_lt (HM.out.ic i (.inr hi)))
                  have h2 : FKept F2 w (w2.drewN k) := fun i hi => HW2.out.block i (isC_lt (HM2.out.ic i (.inr hi)))
                  exact rsame_is (w2.drewN k) rs2 o.rs _ _ F2 F (by rw [hr2, ← hr]; exact HRS.out o (List.mem_of_getElem? ho)) (hd2.kept dat_stays h2) (hd.kept dat_stays h1)
                obtain ⟨sd, hsd⟩ : ∃ sd, sameD rs2 o.rs = sd := ⟨_, rfl⟩
                rw [hsd] at hsdx
                cases sd with
                | false =>
                  have hf : q = false := HNo.out (fun e => by
                    have := of_decide_eq_false hsd
                    exact this (by rw [e]))
                  subst hf
                  clear HE HQ HNo hrs2 hz e ho hv hd hr hne hv2 hd2 hj2 hcell2 hr2 hj2e hvc2 hsd
                  go_wp2_with fail
                  go_quiet ((go_at_call 75; exact Calls.quiet_of (hsdx.out _)))
                  go_wp2_with fail
                  go_ret
                  exact ⟨rfl, HW2.out.drewN _⟩
                | true =>
                  have HSd : Hid (rs2.map (·.dt) = o.rs.map (·.dt)) := Lib.hid (of_decide_eq_true hsd)
                  have HV := Lib.hid hv
                  have HV2 : Hid (RowG VerE 4 w F2 (.slice vp2 r2 vc2) rs2) := hv2
                  have HC2 := Lib.hid hcell2
                  have HR := Lib.hid hr
                  have HR2 := Lib.hid hr2
                  have HOo := Lib.hid ho
                  have HNe := Lib.hid hne
                  have hr2b : r2 ≤ 100000 := by rw [← hr]; exact HRS.out o (List.mem_of_getElem? ho)
                  clear hrs2 hz e ho hv hd hr hne hv2 hd2 hj2 hcell2 hr2 hj2e hsd
                  go_wp2_with fail
                  go_quiet ((go_at_call 75; exact Calls.quiet_of (hsdx.out _)))
                  go_wp2_with fail
                  clear d2 d3 k0 k1 b2 b3 hsdx
                  have HK3 : Hid ((w2.drewN nq).heap[ob]? = some (.cells #[.string (mkS o.bk), .string (mkS o.ky), .slice vp r2 vc, .slice dp r2 dc] 71 (0, 0))) := HK2.out
                  have HW4 : Hid (Below w.heap.size w (w2.drewN nq)) := HW2.out.drewN _
                  obtain ⟨W4, hW4⟩ : ∃ W4, w2.drewN nq = W4 := ⟨_, rfl⟩
                  rw [hW4] at HK3 HW4 ⊢
                  clear hW4 HK2 HW2
                  go_loopw [9] (fun vi wr => ∃ (i : Nat), vi = .int .i64 i ∧ i ≤ r2 ∧ Hid (Below w.heap.size w wr) ∧ Hid (wr.heap[ob]? = some (.cells #[.string (mkS o.bk), .string (mkS o.ky), .slice vp r2 vc, .slice dp r2 dc] 71 (0, 0))) ∧ Hid (∀ (i' : Nat) (x y : Kp), i' < i → rs2[i']? = some x → o.rs[i']? = some y → VerEq x y)) (fun vi _ => r2 - (intOf vi).toNat)
                  case atStart => exact ⟨0, rfl, Nat.zero_le _, HW4, HK3, fun i' x y hi => by omega⟩
                  case round =>
                    clear HW4 HK3
                    obtain ⟨i, rfl, hi, HW5, HK5, HEi⟩ := hrel
                    have b2 : wr.cell? ⟨ob, 2, none⟩ = some (.slice vp r2 vc) := blk_cell HK5.out 2
                    by_cases hlt2 : i < r2
                    · have hltz2 : (i : Int) < (r2 : Int) := by omega
                      obtain ⟨x, hx⟩ : ∃ x, rs2[i]? = some x := ⟨_, List.getElem?_eq_getElem (by have := HR2.out; omega)⟩
                      obtain ⟨y, hy⟩ : ∃ y, o.rs[i]? = some y := ⟨_, List.getElem?_eq_getElem (by have := HR.out; omega)⟩
                      have HW6 : Hid (∀ k, Below w.heap.size w (wr.drewN k)) := fun k => HW5.out.drewN k
                      have HK6 : Hid (∀ k, (wr.drewN k).heap[ob]? = some (.cells #[.string (mkS o.bk), .string (mkS o.ky), .slice vp r2 vc, .slice dp r2 dc] 71 (0, 0))) := fun k => HK5.out
                      obtain ⟨k0, k1⟩ := HG2.out _ HW5.out
                      obtain ⟨_, _, d2, _⟩ := HC2.out _ HW5.out
                      obtain ⟨gv, c5, cs, e, _, e2, hc5⟩ := HV2.out.at_ i hx
                      rw [show cs = [Value.int .i64 x.id, .bool x.mark, .int .i64 x.sz, .int .u32 x.sum] from e2] at hc5
                      injection e with e e6 e7
                      subst e
                      subst e7
                      obtain ⟨gv2, c6, cs, e, _, e2, hc6⟩ := HV.out.at_ i hy
                      rw [show cs = [Value.int .i64 y.id, .bool y.mark, .int .i64 y.sz, .int .u32 y.sum] from e2] at hc6
                      injection e with e e8 e9
                      subst e
                      subst e9
                      have n0 := pw_cell_below HW5.out (hc5 0 _ (by omega) rfl)
                      have n1 := pw_cell_below HW5.out (hc5 1 _ (by omega) rfl)
                      have n2 := pw_cell_below HW5.out (hc5 2 _ (by omega) rfl)
                      have n3 := pw_cell_below HW5.out (hc5 3 _ (by omega) rfl)
                      have o0 := pw_cell_below HW5.out (hc6 0 _ (by omega) rfl)
                      have o1 := pw_cell_below HW5.out (hc6 1 _ (by omega) rfl)
                      have o2 := pw_cell_below HW5.out (hc6 2 _ (by omega) rfl)
                      have o3 := pw_cell_below HW5.out (hc6 3 _ (by omega) rfl)
                      rw [Nat.add_zero] at n0 o0
                      clear hc5 hc6 e6 e8 e2
                      have hg := verGuard
                      clear HW5 HK5
                      by_cases hve : VerEq x y
                      · have HE3 : Hid (∀ (i' : Nat) (x y : Kp), i' < i + 1 → rs2[i']? = some x → o.rs[i']? = some y → VerEq x y) := fun i' a b hi' ha hb => by
                          by_cases hii : i' < i
                          · exact HEi.out i' a b hii ha hb
                          · obtain rfl : i' = i := by omega
                            rw [hx] at ha
                            rw [hy] at hb
                            injection ha with ha
                            injection hb with hb
                            rw [← ha, ← hb]
                            exact hve
                        have nq0 : ∀ W : World, (binOp .neq 38 (.agg #[.int .i64 y.id, .bool y.mark, .int .i64 y.sz, .int .u32 y.sum]) (.agg #[.int .i64 y.id, .bool y.mark, .int .i64 y.sz, .int .u32 y.sum])).run Tryz.prog W = .ok (.bool false) W := fun W => by rw [neqV y y W]; simp
                        obtain ⟨v1, v2, v3, v4⟩ := hve
                        rw [v1] at n0
                        rw [v2] at n1
                        rw [v3] at n2
                        rw [v4] at n3
                        clear v1 v2 v3 v4 hx hy HEi
                        go_wp2_with fail
                        go_quiet (fail)
                        go_wp2_with fail
                        go_roundw
                        case rel => exact ⟨i + 1, by go_num, by omega, HW6.out _, HK6.out _, HE3⟩
                        case measure => simp [intOf]; omega
                      · have nq0 : ∀ W : World, (binOp .neq 38 (.agg #[.int .i64 x.id, .bool x.mark, .int .i64 x.sz, .int .u32 x.sum]) (.agg #[.int .i64 y.id, .bool y.mark, .int .i64 y.sz, .int .u32 y.sum])).run Tryz.prog W = .ok (.bool true) W := fun W => by
                          rw [neqV x y W]
                          have : (decide (x.id = y.id) && decide (x.mark = y.mark) && decide (x.sz = y.sz) && decide (x.sum = y.sum)) = false := by
                            cases hh : (decide (x.id = y.id) && decide (x.mark = y.mark) && decide (x.sz = y.sz) && decide (x.sum = y.sum)) with
                            | false => rfl
                            | true =>
                              simp only [Bool.and_eq_true, decide_eq_true_eq] at hh
                              exact absurd ⟨hh.1.1.1, hh.1.1.2, hh.1.2, hh.2⟩ hve
                          rw [this]
                          rfl
                        have hf : q = false := HNo.out (fun e => by
                          rw [e, hy] at hx
                          injection hx with hx
                          subst hx
                          exact hve ⟨rfl, rfl, rfl, rfl⟩)
                        subst hf
                        clear hx hy HEi hve HQ HNo
                        go_wp2_with fail
                        go_quiet (fail)
                        go_wp2_with fail
                        go_ret
                        exact ⟨rfl, HW6.out _⟩
                    · have hltz2 : ¬ (i : Int) < (r2 : Int) := by omega
                      have hri : i = r2 := by omega
                      have HOk : Hid (∀ o ∈ L.take (j + 1), o.rs = [] ∨ rsOf L2 o.bk o.ky = o.rs) := all_snoc HE.out HOo.out (.inr (by
                        rw [HRS2.out]
                        refine kps_eq HSd.out fun i' x y ha hb => HEi.out i' x y ?_ ha hb
                        have := (List.getElem?_eq_some_iff.1 ha).1
                        have := HR2.out
                        omega))
                      clear hri HEi HE
                      go_wp2_with fail
                      go_roundw
                      case rel => exact ⟨j + 1, by go_num, by omega, HW5, HOk⟩
                      case measure => simp [intOf]; omega
              · have hf : q = false := HNo.out (fun e => hlen (by rw [← hr2, ← hr, e]))
                subst hf
                have dn : ¬ (r2 : Int) = (r : Int) := by omega
                clear HE HQ HNo hrs2 hz e ho hv hd hr hne hv2 hd2 hj2 hcell2 hr2 hj2e hvc2
                go_wp2_with fail
                go_quiet (fail)
                go_wp2_with fail
                go_ret
                exact ⟨rfl, HW2.out.drewN _⟩
        · have hltz : ¬ (j : Int) < (m : Int) := by omega
          have hf : q = true := by
            have h := HE.out
            rw [List.take_of_length_le (by have := HNL.out; omega)] at h
            exact HQ.out.symm.trans (within_yes ⟨HE1.out, h⟩)
          subst hf
          clear HE HQ
          go_wp2_with fail
          go_ret
          exact ⟨rfl, HW.out⟩
end Go.Proofs.YtjbjcfnbgcloiaaGreatDoor

/- The same answers: merged (pgm.py). -/
namespace Go.Proofs.YtjbjcfnbgcloiaaGreatDoor
open Go.Shelf Go.RowKit Go.Lib

theorem neqE (x y : Ent) (w : World) : (binOp .neq 111 (.agg #[.string x.key, .int .i64 x.id, .bool x.mark, .int .i64 x.size, .int .u32 x.sum, .bool x.latest]) (.agg #[.string y.key, .int .i64 y.id, .bool y.mark, .int .i64 y.size, .int .u32 y.sum, .bool y.latest])).run Tryz.prog w = .ok (.bool (!decide (x = y))) w := by
  have u3 := Tryz.underlying3
  have a3 := Tryz.isAgg3
  have z3 := Tryz.sizeOf3
  have u9 := Tryz.underlying9
  have a9 := Tryz.isAgg9
  have z9 := Tryz.sizeOf9
  have u4 := Tryz.underlying4
  have a4 := Tryz.isAgg4
  have z4 := Tryz.sizeOf4
  have u32 := Tryz.underlying36
  have a32 := Tryz.isAgg36
  have z32 := Tryz.sizeOf36
  have a48 := Tryz.isAgg38
  have z48 := Tryz.sizeOf38
  have hS : Tryz.prog.underlying 111 = some (.struct (Tryz.prog.fieldsOf 111)) := by kernel_rfl
  have hp : Tryz.prog.stoodInHeld 111 = false := by kernel_rfl
  have hS2 : Tryz.prog.underlying 38 = some (.struct (Tryz.prog.fieldsOf 38)) := by kernel_rfl
  have hp2 : Tryz.prog.stoodInHeld 38 = false := by kernel_rfl
  have v : ∀ (W : World) (a b : Int) (m n : Bool) (c d : Int) (e f : Int), (Op.equalIn 9999 38 (.agg #[.int .i64 a, .bool m, .int .i64 c, .int .u32 e]) (.agg #[.int .i64 b, .bool n, .int .i64 d, .int .u32 f])).run Tryz.prog W = .ok (decide (a = b) && decide (m = n) && decide (c = d) && decide (e = f)) W := by
    intro W a b m n c d e f
    rw [show (9999 : Nat) = 9998 + 1 from rfl, run_equalIn_agg W 9998 38 _ _ hS2 hp2]
    simp only [Program.fieldsOf, Tryz.underlying38]
    go_simp
    by_cases h1 : a = b <;> by_cases h2 : m = n <;> by_cases h3 : c = d <;> by_cases h4 : e = f <;> simp [h1, h2, h3, h4]
  obtain ⟨k1, i1, m1, s1, x1, l1⟩ := x
  obtain ⟨k2, i2, m2, s2, x2, l2⟩ := y
  rw [run_neq_struct, show (10000 : Nat) = 9999 + 1 from rfl, run_equalIn_agg w 9999 111 _ _ hS hp]
  simp only [Program.fieldsOf, Tryz.underlying111]
  have hk : (k1.toList == k2.toList) = decide (k1 = k2) := by
    rw [Bool.eq_iff_iff, beq_iff_eq, decide_eq_true_eq]
    exact ⟨list_inj_data, fun h => by rw [h]⟩
  go_simp
  by_cases h1 : k1 = k2 <;> by_cases h2 : i1 = i2 <;> by_cases h3 : m1 = m2 <;> by_cases h4 : s1 = s2 <;> by_cases h5 : x1 = x2 <;> by_cases h6 : l1 = l2 <;> simp [h1, h2, h3, h4, h5, h6]
theorem entGuard : Tryz.prog.eqGuardType Tryz.prog.depth 111 = false := by kernel_rfl
end Go.Proofs.YtjbjcfnbgcloiaaGreatDoor

namespace Go.Proofs.YtjbjcfnbgcloiaaGreatDoor
open Go.Shelf Go.RowKit Go.Lib Nam

set_option maxHeartbeats 4000000 in
set_option maxRecDepth 100000 in
theorem sameans_yes (sv su : Value) (L : List Ent) (mo : Bool) (ke : ByteArray) (ci : Int) (hL : L.length ≤ 1000000) (w : World) (h : RowE w sv L) (h' : RowE w su L) :
    Calls Tryz.prog 30 #[.agg #[sv, .bool mo, .string ke, .int .i64 ci], .agg #[su, .bool mo, .string ke, .int .i64 ci]] w fun e w' => e = .returned (.bool true) ∧ Below w.heap.size w w' := by
  obtain ⟨p, c, rfl, hp⟩ := len_of_row h
  obtain ⟨p', c', rfl, hp'⟩ := len_of_row h'
  clear h h'
  have HP := Lib.hid hp; clear hp
  have HP' := Lib.hid hp'; clear hp'
  have b1 : (mo != mo) = false := by simp
  have b2 : (ke.toList != ke.toList) = false := by simp
  have b3 : (ci != ci) = false := by simp
  have b4 : ((L.length : Int) != (L.length : Int)) = false := by simp
  go_enter Tryz.func30, Tryz.ntmps30
  go_wp2_with fail
  obtain ⟨W2, hW2⟩ : ∃ W2, (w.alloc (.cells #[.slice p L.length c, .bool mo, .string ke, .int .i64 ci] 41)).alloc (.cells #[.slice p' L.length c', .bool mo, .string ke, .int .i64 ci] 41) = W2 := ⟨_, rfl⟩
  rw [hW2]
  have hb2 : Below w.heap.size w W2 := by rw [← hW2]; exact ((Below.refl _ _).alloc (Nat.le_refl _) _).alloc (by simp) _
  have k0 : W2.cell? ⟨w.heap.size, 0, none⟩ = some (.slice p L.length c) := by
    refine (cells_of_heap (t := 41) (cs := #[.slice p L.length c, .bool mo, .string ke, .int .i64 ci]) ?_).1 0 _ rfl
    rw [← hW2, heap_alloc_old _ _ (by simp), heap_alloc_new]
  have k1 : W2.cell? ⟨w.heap.size + 1, 0, none⟩ = some (.slice p' L.length c') := by
    refine (cells_of_heap (t := 41) (cs := #[.slice p' L.length c', .bool mo, .string ke, .int .i64 ci]) ?_).1 0 _ rfl
    rw [← hW2]
    have := heap_alloc_new (w.alloc (.cells #[.slice p L.length c, .bool mo, .string ke, .int .i64 ci] 41)) (.cells #[.slice p' L.length c', .bool mo, .string ke, .int .i64 ci] 41)
    simpa using this
  have HB2 := Lib.hid hb2; clear hb2 hW2
  go_loopw [5] (fun v wr => ∃ i q : Nat, v = .int .i64 i ∧ i ≤ L.length ∧ wr = W2.drewN q) (fun v _ => L.length - (intOf v).toNat)
  case atStart => exact ⟨0, 0, rfl, Nat.zero_le _, rfl⟩
  case round =>
    obtain ⟨i, q, rfl, hi, rfl⟩ := hrel
    by_cases hpi : i < L.length
    · have hpz : (i : Int) < (L.length : Int) := by omega
      obtain ⟨b, o, rfl, hbl, hc⟩ := HP.out (by omega)
      obtain ⟨b', o', rfl, hbl', hc'⟩ := HP'.out (by omega)
      obtain ⟨a0, a1, a2, a3, a4, a5⟩ := at_of (W := W2) (fun j u hj => by rw [HB2.out.cell (p := ⟨b, o + j, none⟩) hbl]; exact hc j u hj) i hpi
      obtain ⟨d0, d1, d2, d3, d4, d5⟩ := at_of (W := W2) (fun j u hj => by rw [HB2.out.cell (p := ⟨b', o' + j, none⟩) hbl']; exact hc' j u hj) i hpi
      clear hc hc'
      have nq := fun W => neqE L[i] L[i] W
      obtain ⟨x, hx⟩ : ∃ x, L[i] = x := ⟨_, rfl⟩
      rw [hx] at a0 a1 a2 a3 a4 a5 d0 d1 d2 d3 d4 d5 nq
      clear hx
      have hg := entGuard
      have nq2 : ∀ W : World, (binOp .neq 111 (.agg #[.string x.key, .int .i64 x.id, .bool x.mark, .int .i64 x.size, .int .u32 x.sum, .bool x.latest]) (.agg #[.string x.key, .int .i64 x.id, .bool x.mark, .int .i64 x.size, .int .u32 x.sum, .bool x.latest])).run Tryz.prog W = .ok (.bool false) W := fun W => by rw [nq W, decide_eq_true rfl]; rfl
      clear nq
      go_wp2_with fail
      go_quiet (fail)
      go_wp2
      go_roundw
      case rel => exact ⟨i + 1, q + nq, by go_num, by omega, by first | rfl | rw [World.drewN_drewN]⟩
      case measure => simp [intOf]; omega
    · have hpz : (L.length : Int) ≤ (i : Int) := by omega
      go_wp2
      go_ret
      exact ⟨rfl, HB2.out.drewN _⟩
end Go.Proofs.YtjbjcfnbgcloiaaGreatDoor

/- Two answers of the same parts are the same (strongboxref23.Same). -/
set_option linter.unusedSimpArgs false
set_option linter.unusedVariables false
namespace Go.Proofs.YtjbjcfnbgcloiaaGreatDoor
open Go.RowKit Nam YtjbjcfnbgcloiaaGreatDoorW.PrintWords Go.Lib

def StrRow (w : World) (v : Value) (B : List (List UInt8)) : Prop :=
  ∃ A c, v = .slice A B.length c ∧ B.length ≤ c ∧ ∀ (j : Nat) (s : List UInt8), B[j]? = some s → ∃ g, A = some ⟨g, 0, none⟩ ∧ g < w.heap.size ∧ w.cell? ⟨g, j, none⟩ = some (.string (mkS s))
theorem strRow_nil (w : World) : StrRow w (.slice none 0 0) [] := ⟨none, 0, rfl, Nat.le_refl _, fun j s h => by cases h⟩
theorem strRow_own {w : World} {base n : Nat} {v : Value} {B : List (List UInt8)} (h : w.ownsRow base 9 1 v n (B.map fun s => Value.string (mkS s))) (hn : n = B.length) : StrRow w v B := by
  subst hn
  rcases h.2 with ⟨h1, h2⟩ | ⟨g, cap, cur, h1, h2, h3, h4, h5⟩
  · refine ⟨none, 0, by rw [h1, h2], by omega, fun j s hj => ?_⟩
    rw [List.length_eq_zero_iff] at h2
    rw [h2] at hj
    cases hj
  · subst h1
    refine ⟨_, cap, rfl, by omega, fun j s hj => ⟨g, rfl, blk_lt h3, ?_⟩⟩
    have h6 := h.cells rfl j (.string (mkS s)) (by rw [List.getElem?_map, hj]; rfl)
    rw [add_plain] at h6
    simpa using h6
def DatRow (w : World) (v : Value) (l : List UInt8) : Prop := ∃ A c, v = .slice A l.length c ∧ ∀ V, Below w.heap.size w V → (Kd.int .u8).C V A l.length (byN l)
abbrev ansAll (er : Int) (y : Kp) (dv sv : Value) (m : Bool) (k : ByteArray) (i : Int) (nv : Value) : Array Value := #[.int .i64 er, .int .i64 y.id, .bool y.mark, .int .i64 y.sz, .int .u32 y.sum, dv, sv, .bool m, .string k, .int .i64 i, nv]
set_option maxHeartbeats 4000000 in
set_option maxRecDepth 100000 in
theorem rsamea_is (w : World) (er : Int) (y : Kp) (l : List UInt8) (dv dv' sv sv' nv nv' : Value) (o : List Ent) (m : Bool) (k : ByteArray) (i : Int) (B : List (List UInt8)) (ho : o.length ≤ 1000000) (hB : B.length ≤ 100000)
    (hd : DatRow w dv l) (hd' : DatRow w dv' l) (hs : RowE w sv o) (hs' : RowE w sv' o) (hn : StrRow w nv B) (hn' : StrRow w nv' B) :
    Calls Tryz.prog 12 #[.agg (ansAll er y dv sv m k i nv), .agg (ansAll er y dv' sv' m k i nv')] w fun e w' => e = .returned (.bool true) ∧ Below w.heap.size w w' := by
  obtain ⟨A, c, rfl, hA⟩ := hd
  obtain ⟨A', c', rfl, hA'⟩ := hd'
  obtain ⟨p, q, rfl, -⟩ := len_of_row hs
  obtain ⟨p', q', rfl, -⟩ := len_of_row hs'
  obtain ⟨An, cn, rfl, hcn, hcell⟩ := hn
  obtain ⟨An', cn', rfl, hcn', hcell'⟩ := hn'
  obtain ⟨n, hnl⟩ : ∃ n, B.length = n := ⟨_, rfl⟩
  obtain ⟨r, hr⟩ : ∃ r, o.length = r := ⟨_, rfl⟩
  obtain ⟨W2, hW2⟩ : ∃ W2, (w.alloc (.cells (ansAll er y (.slice A l.length c) (.slice p r q) m k i (.slice An n cn)) 44)).alloc (.cells (ansAll er y (.slice A' l.length c') (.slice p' r q') m k i (.slice An' n cn')) 44) = W2 := ⟨_, rfl⟩
  have hb2 : Below w.heap.size w W2 := by rw [← hW2]; exact ((Below.refl _ _).alloc (Nat.le_refl _) _).alloc (by simp) _
  have h20 : W2.heap[w.heap.size]? = some (.cells (ansAll er y (.slice A l.length c) (.slice p r q) m k i (.slice An n cn)) 44 (0, 0)) := by rw [← hW2, heap_alloc_old _ _ (by simp), heap_alloc_new]
  have h21 : W2.heap[w.heap.size + 1]? = some (.cells (ansAll er y (.slice A' l.length c') (.slice p' r q') m k i (.slice An' n cn')) 44 (0, 0)) := by
    rw [← hW2]
    have := heap_alloc_new (w.alloc (.cells (ansAll er y (.slice A l.length c) (.slice p r q) m k i (.slice An n cn)) 44)) (.cells (ansAll er y (.slice A' l.length c') (.slice p' r q') m k i (.slice An' n cn')) 44)
    simpa using this
  have k1 : ∀ V, Below w.heap.size w V → (convert 30 9 (.slice A l.length c)).run Tryz.prog V = .ok (.string (mkS l)) V := fun V hV => by
    have h := Kd.C_string (P := Tryz.prog) Tryz.underlying30 Tryz.underlying5 Tryz.underlying9 (c := c) (hA V hV)
    rwa [byN_str] at h
  have k2 : ∀ V, Below w.heap.size w V → (convert 30 9 (.slice A' l.length c')).run Tryz.prog V = .ok (.string (mkS l)) V := fun V hV => by
    have h := Kd.C_string (P := Tryz.prog) Tryz.underlying30 Tryz.underlying5 Tryz.underlying9 (c := c') (hA' V hV)
    rwa [byN_str] at h
  have cv1 := k1 W2 hb2
  have cv2 := k2 W2 hb2
  have HSA : Hid (Calls Tryz.prog 30 #[.agg #[.slice p r q, .bool m, .string k, .int .i64 i], .agg #[.slice p' r q', .bool m, .string k, .int .i64 i]] W2 fun e w' => e = .returned (.bool true) ∧ Below w.heap.size w w' ∧ w'.heap[w.heap.size]? = some (.cells (ansAll er y (.slice A l.length c) (.slice p r q) m k i (.slice An n cn)) 44 (0, 0)) ∧ w'.heap[w.heap.size + 1]? = some (.cells (ansAll er y (.slice A' l.length c') (.slice p' r q') m k i (.slice An' n cn')) 44 (0, 0))) := by
    have := sameans_yes (.slice p r q) (.slice p' r q') o m k i ho W2 (by rw [← hr]; exact hs.below hb2) (by rw [← hr]; exact hs'.below hb2)
    exact this.mono fun e w' ⟨he, hb⟩ => ⟨he, hb2.trans (hb.mono hb2.size), (hb.block _ (blk_lt h20)).trans h20, (hb.block _ (blk_lt h21)).trans h21⟩
  have HCe : Hid (∀ V, Below w.heap.size w V → ∀ (j : Nat) (s : List UInt8), B[j]? = some s → ∃ g g', An = some ⟨g, 0, none⟩ ∧ An' = some ⟨g', 0, none⟩ ∧ V.cell? ⟨g, j, none⟩ = some (.string (mkS s)) ∧ V.cell? ⟨g', j, none⟩ = some (.string (mkS s))) := fun V hV j s hj => by
    obtain ⟨g, e, hlt, hc⟩ := hcell j s hj
    obtain ⟨g', e', hlt', hc'⟩ := hcell' j s hj
    exact ⟨g, g', e, e', (hV.cell (p := ⟨g, j, none⟩) hlt).trans hc, (hV.cell (p := ⟨g', j, none⟩) hlt').trans hc'⟩
  have nq0 : ∀ W : World, (binOp .neq 38 (.agg #[.int .i64 y.id, .bool y.mark, .int .i64 y.sz, .int .u32 y.sum]) (.agg #[.int .i64 y.id, .bool y.mark, .int .i64 y.sz, .int .u32 y.sum])).run Tryz.prog W = .ok (.bool false) W := fun W => by rw [neqV y y W]; simp
  have hg := verGuard
  have e0 : (er != er) = false := by simp
  have e1 : ((mkS l).toList != (mkS l).toList) = false := by simp
  have HN := Lib.hid hnl
  have HW := Lib.hid hW2
  have a0 := blk_cell h20 0
  have a1 := blk_cell h20 1
  have a2 := blk_cell h20 2
  have a3 := blk_cell h20 3
  have a4 := blk_cell h20 4
  have a5 := blk_cell h20 5
  have a6 := blk_cell h20 6
  have a7 := blk_cell h20 7
  have a8 := blk_cell h20 8
  have a9 := blk_cell h20 9
  have b0 := blk_cell h21 0
  have b1 := blk_cell h21 1
  have b2 := blk_cell h21 2
  have b3 := blk_cell h21 3
  have b4 := blk_cell h21 4
  have b5 := blk_cell h21 5
  have b6 := blk_cell h21 6
  have b7 := blk_cell h21 7
  have b8 := blk_cell h21 8
  have b9 := blk_cell h21 9
  simp only [List.getElem?_toArray, List.getElem?_cons_zero, List.getElem?_cons_succ] at a0 a1 a2 a3 a4 a5 a6 a7 a8 a9 b0 b1 b2 b3 b4 b5 b6 b7 b8 b9
  rw [hnl] at hcn hcn' hB ⊢
  rw [hr]
  clear hnl hr hW2 h20 h21 hb2 k1 k2 hA hA' hs hs' hcell hcell' ho
  go_enter Tryz.func12, Tryz.ntmps12
  go_upto_region 1 with (fail)
  rw [show (w.alloc (.cells (ansAll er y (.slice A l.length c) (.slice p r q) m k i (.slice An n cn)) 44)).alloc (.cells (ansAll er y (.slice A' l.length c') (.slice p' r q') m k i (.slice An' n cn')) 44) = W2 from HW.out]
  go_wp2_with fail
  refine HSA.out.mono ?_
  rintro e w3 ⟨rfl, hb3, h30, h31⟩
  have HB3 := Lib.hid hb3
  have d0 : w3.cell? ⟨w.heap.size, 10, none⟩ = some (.slice An n cn) := blk_cell h30 10
  have d1 : w3.cell? ⟨w.heap.size + 1, 10, none⟩ = some (.slice An' n cn') := blk_cell h31 10
  clear hb3 h30 h31 a0 a1 a2 a3 a4 a5 a6 a7 a8 a9 b0 b1 b2 b3 b4 b5 b6 b7 b8 b9 cv1 cv2 HSA
  go_wp2_with fail
  go_loopw [5] (fun v wr => ∃ j q : Nat, v = .int .i64 j ∧ j ≤ n ∧ Hid (wr = w3.drewN q)) (fun v _ => n - (intOf v).toNat)
  case atStart => exact ⟨0, 0, rfl, Nat.zero_le _, rfl⟩
  case round =>
    obtain ⟨j, kd, rfl, hj, HQ⟩ := hrel
    have hwr := HQ.out
    subst hwr
    by_cases hlt : j < n
    · have hltz : (j : Int) < (n : Int) := by omega
      obtain ⟨s, hs⟩ : ∃ s, B[j]? = some s := ⟨_, List.getElem?_eq_getElem (by have := HN.out; omega)⟩
      obtain ⟨g, g', rfl, rfl, x0, x1⟩ := HCe.out w3 HB3.out j s hs
      have q1 : ((mkS s).toList != (mkS s).toList) = false := by simp
      clear hs
      go_wp2_with fail
      go_quiet (fail)
      go_wp2_with fail
      go_roundw
      case rel => exact ⟨j + 1, kd + nq, by go_num, by omega, by show _ = _; first | rfl | rw [World.drewN_drewN]⟩
      case measure => simp [intOf]; omega
    · have hltz : ¬ (j : Int) < (n : Int) := by omega
      go_wp2_with fail
      go_ret
      exact ⟨rfl, HB3.out.drewN _⟩
end Go.Proofs.YtjbjcfnbgcloiaaGreatDoor

/- ModelLists plainly: what lists tell is what Heads tell. -/
set_option linter.unusedSimpArgs false
set_option linter.unusedVariables false
namespace Go.Proofs.YtjbjcfnbgcloiaaGreatDoor
open Go.RowKit Nam YtjbjcfnbgcloiaaGreatDoorW.PrintWords Go.Lib Go.Shelf

theorem entsOf_mem {f : List UInt8 → List Kp} {ks : List (List UInt8)} {x : Ent} (h : x ∈ entsOf f ks) : ∃ k i y, (f k)[i]? = some y ∧ x = entK k (f k).length y i := by
  unfold entsOf at h
  obtain ⟨k, _, hx⟩ := List.mem_flatMap.1 h
  obtain ⟨i, hi⟩ := List.mem_iff_getElem?.1 hx
  have hlt : i < (f k).length := by
    have := (List.getElem?_eq_some_iff.1 hi).1
    rwa [entsK_length] at this
  refine ⟨k, i, (f k)[i], List.getElem?_eq_getElem hlt, ?_⟩
  rw [entsK_at k (f k) i _ (List.getElem?_eq_getElem hlt)] at hi
  injection hi with hi
  exact hi.symm
theorem last_le {l : List Kp} (h : l.Pairwise (fun x y => x.id < y.id)) {z : Kp} (hz : l.getLast? = some z) : ∀ y ∈ l, y.id ≤ z.id := by
  rcases List.eq_nil_or_concat l with e | ⟨l', y, e⟩
  · subst e; cases hz
  · subst e
    rw [List.concat_eq_append] at h hz ⊢
    rw [List.getLast?_append] at hz
    simp at hz
    subst hz
    intro a ha
    rcases List.mem_append.1 ha with ha | ha
    · exact Int.le_of_lt ((List.pairwise_append.1 h).2.2 a ha y (by simp))
    · rw [List.mem_singleton] at ha
      subst ha
      exact Int.le_refl _
theorem more_up {l : List Kp} {x : Kp} (h : l.Pairwise (fun x y => x.id < y.id)) (hm : moreE l x = 0) : (l ++ [x]).Pairwise (fun x y => x.id < y.id) ∧ 1 ≤ x.id := by
  unfold moreE at hm
  split at hm
  · cases hm
  split at hm
  · cases hm
  rename_i h1 h2
  refine ⟨List.pairwise_append.2 ⟨h, List.pairwise_singleton _ _, fun a ha b hb => ?_⟩, by omega⟩
  rw [List.mem_singleton] at hb
  subst hb
  cases hl : l.getLast? with
  | none =>
    rw [List.getLast?_eq_none_iff] at hl
    subst hl
    cases ha
  | some z =>
    rw [hl] at hm
    have h3 := last_le h hl a ha
    by_cases c : b.id ≤ z.id
    · have hm' : (if b.id ≤ z.id then (1 : Int) else 0) = 0 := hm
      rw [if_pos c] at hm'
      cases hm'
    · omega
theorem idx_up {l : List Kp} (h : l.Pairwise (fun x y => x.id < y.id)) (h1 : ∀ y ∈ l, 1 ≤ y.id) {i : Nat} {y : Kp} (hy : l[i]? = some y) : idxK y.id l = (i : Int) := by
  obtain ⟨hi, hyi⟩ := List.getElem?_eq_some_iff.1 hy
  have hy1 := h1 y (List.mem_of_getElem? hy)
  unfold idxK
  rw [if_neg (by omega)]
  unfold Lib.idxBy
  rw [Lib.idxByFrom_hit _ _ l i 0 hi (by rw [getElem!_pos l i hi, hyi]; simp) (fun j hj => ?_), Nat.zero_add]
  have hjl : j < l.length := by omega
  rw [getElem!_pos l j hjl]
  have := List.pairwise_iff_getElem.1 h j i hjl hi hj
  rw [hyi] at this
  simp
  omega
end Go.Proofs.YtjbjcfnbgcloiaaGreatDoor

/- ModelPlays, plainly: what both models answer is one answer. -/
set_option linter.unusedSimpArgs false
set_option linter.unusedVariables false
namespace Go.Proofs.YtjbjcfnbgcloiaaGreatDoor
open Go.RowKit Nam Go.Lib Go.Shelf

theorem less_lt : ∀ a b : List UInt8, Op.bytesLess a b = true ↔ a < b
  | [], [] => by simp [Op.bytesLess]
  | [], _ :: _ => by simp [Op.bytesLess]
  | _ :: _, [] => by simp [less_nil]
  | x :: a, y :: b => by
    rw [less_cons, List.cons_lt_cons_iff, ← less_lt a b]
    simp
theorem sorted_less {B : List (List UInt8)} (h : B.Pairwise (fun a b => Op.bytesLess a b = true)) {ss : List (List UInt8)} (hp : ss.Perm B) : ss.mergeSort (fun x y => decide (x ≤ y)) = B := by
  have h1 : (ss.mergeSort (fun x y => decide (x ≤ y))).Pairwise (fun x y => decide (x ≤ y) = true) := List.pairwise_mergeSort (fun a b c h1 h2 => by simp at *; exact List.le_trans h1 h2) (fun a b => by simp; exact List.le_total a b) ss
  have h2 : B.Pairwise (fun x y => decide (x ≤ y) = true) := h.imp fun {a b} hab => by
    simp
    exact List.le_of_lt ((less_lt a b).1 hab)
  refine List.Perm.eq_of_pairwise (fun a b _ _ h1 h2 => ?_) h1 h2 ((List.mergeSort_perm ss _).trans hp)
  simp at h1 h2
  exact List.le_antisymm h1 h2

structure Ans where
  er : Int
  y : Kp
  l : List UInt8
  o : List Ent
  m : Bool
  k : ByteArray
  i : Int
  B : List (List UInt8)
def plainA (er : Int) (y : Kp) (l : List UInt8) : Ans := ⟨er, y, l, [], false, ⟨#[]⟩, 0, []⟩
def getA (f : Int) (g : Int) (z : Option Kp) (data : Bool) (a : Ans) : Prop :=
  (f ≠ 0 ∧ a = plainA g kp0 []) ∨ (f = 0 ∧ ∃ y, z = some y ∧ a = plainA g y (if data && !y.mark then y.dt else []))
def AR (S : St) (x : Ch) (id : Int) (a : Ans) : Prop :=
  if x.d = 1 then a = plainA (S.make x.bk).2 kp0 []
  else if x.d = 2 then a = plainA (S.remove x.bk).2 kp0 []
  else if x.d = 3 then ∃ ss : List (List UInt8), ss.Perm S.B ∧ a = ⟨0, kp0, [], [], false, ⟨#[]⟩, 0, ss.mergeSort (fun x y => decide (x ≤ y))⟩
  else if x.d = 4 then a = plainA (S.putE id x.bk x.ky x.dt) (if S.putE id x.bk x.ky x.dt = 0 then kpOf id x.dt else kp0) []
  else if x.d = 5 then getA (S.findE x.bk x.ky x.n 0) (S.getE x.bk x.ky x.n) (S.getK x.bk x.ky x.n) true a
  else if x.d = 6 then getA (S.findE x.bk x.ky x.n 0) (S.getE x.bk x.ky x.n) (S.getK x.bk x.ky x.n) false a
  else if x.d = 7 then a = plainA (S.delE id x.bk x.ky) (if S.delE id x.bk x.ky = 0 then kpDel id else kp0) []
  else if x.d = 8 then a = plainA (S.findE x.bk x.ky x.n 1) kp0 []
  else if x.d = 9 then a.y = kp0 ∧ a.l = [] ∧ a.B = [] ∧ Tells S x.bk (askV x.pf x.fr x.fi x.mo) (ObjR (askV x.pf x.fr x.fi x.mo)) a.er a.o a.m a.k a.i
  else if x.d = 10 then a.y = kp0 ∧ a.l = [] ∧ a.B = [] ∧ Tells S x.bk (askV x.pf x.fr x.fi x.mo) (VerR (askV x.pf x.fr x.fi x.mo)) a.er a.o a.m a.k a.i
  else a = plainA 0 kp0 []
noncomputable def AW (B : List (List UInt8)) (L : List Ob) (x : Ch) (id : Int) (a : Ans) : Prop :=
  if x.d = 1 then a = plainA (rMake B x.bk).2 kp0 []
  else if x.d = 2 then a = plainA (rRemove B L x.bk).2.2 kp0 []
  else if x.d = 3 then a = ⟨0, kp0, [], [], false, ⟨#[]⟩, 0, B⟩
  else if x.d = 4 then a = plainA (rPutE B L id x.bk x.ky x.dt) (if rPutE B L id x.bk x.ky x.dt = 0 then kpOf id x.dt else kp0) []
  else if x.d = 5 then getA (rFindE B L x.bk x.ky x.n) (rGetE B L x.bk x.ky x.n) (rGetK L x.bk x.ky x.n) true a
  else if x.d = 6 then getA (rFindE B L x.bk x.ky x.n) (rGetE B L x.bk x.ky x.n) (rGetK L x.bk x.ky x.n) false a
  else if x.d = 7 then a = plainA (rDelE B L id x.bk x.ky) (if rDelE B L id x.bk x.ky = 0 then kpDel id else kp0) []
  else if x.d = 8 then a = plainA (rFindE B L x.bk x.ky (rEraI x.n)) kp0 []
  else if x.d = 9 then a.y = kp0 ∧ a.l = [] ∧ a.B = [] ∧ RTells B L x.bk (askV x.pf x.fr x.fi x.mo) false a.er a.o a.m a.k a.i
  else if x.d = 10 then a.y = kp0 ∧ a.l = [] ∧ a.B = [] ∧ RTells B L x.bk (askV x.pf x.fr x.fi x.mo) true a.er a.o a.m a.k a.i
  else a = plainA 0 kp0 []
noncomputable def rStB (B : List (List UInt8)) (L : List Ob) (x : Ch) : List (List UInt8) := if x.d = 1 then (rMake B x.bk).1 else if x.d = 2 then (rRemove B L x.bk).1 else B
noncomputable def rStL (B : List (List UInt8)) (L : List Ob) (x : Ch) (id : Int) : List Ob :=
  if x.d = 1 then L else if x.d = 2 then (rRemove B L x.bk).2.1 else if x.d = 4 then rPutL B L id x.bk x.ky x.dt else if x.d = 7 then rDelL B L id x.bk x.ky else if x.d = 8 then rEraL B L x.bk x.ky x.n else L

structure Up (S : St) : Prop where
  up : ∀ b k, (S.V b k).Pairwise (fun x y => x.id < y.id)
  id : ∀ b k, ∀ y ∈ S.V b k, 1 ≤ y.id
theorem up_new : Up St.new := ⟨fun _ _ => List.Pairwise.nil, fun _ _ y h => (List.not_mem_nil h).elim⟩
theorem up_put {S : St} (h : Up S) (b k : List UInt8) (l : List Kp) (h1 : l.Pairwise (fun x y => x.id < y.id)) (h2 : ∀ y ∈ l, 1 ≤ y.id) : Up (S.put b k l) := by
  refine ⟨fun b' k' => ?_, fun b' k' => ?_⟩
  · show List.Pairwise _ (if b' = b ∧ k' = k then l else S.V b' k')
    split
    · exact h1
    · exact h.up b' k'
  · show ∀ y ∈ (if b' = b ∧ k' = k then l else S.V b' k'), 1 ≤ y.id
    split
    · exact h2
    · exact h.id b' k'
theorem up_snoc {S : St} (h : Up S) (b k : List UInt8) (x : Kp) (hm : moreE (S.V b k) x = 0) : Up (S.put b k (S.V b k ++ [x])) := by
  obtain ⟨h1, h2⟩ := more_up (h.up b k) hm
  refine up_put h b k _ h1 fun y hy => ?_
  rcases List.mem_append.1 hy with hy | hy
  · exact h.id b k y hy
  · rw [List.mem_singleton] at hy
    rw [hy]; exact h2
theorem up_all {S : St} (h : Up S) (x : Ch) (id : Int) : Up (S.allS x id) := by
  unfold St.allS
  split
  · unfold St.make
    split
    · exact h
    · split
      · exact h
      · split
        · exact h
        · exact ⟨h.up, h.id⟩
  · split
    · unfold St.remove
      split
      · exact h
      · split
        · exact h
        · split
          · exact h
          · exact ⟨h.up, h.id⟩
    · unfold St.callS
      split
      · unfold St.doPut
        split
        · rename_i hp
          exact up_snoc h _ _ _ (putE_more hp).1
        · exact h
      · split
        · unfold St.doDel
          split
          · rename_i hp
            exact up_snoc h _ _ _ (delE_more hp).2
          · exact h
        · split
          · unfold St.doEra
            split
            · unfold St.eraL
              refine up_put h _ _ _ ?_ fun y hy => ?_
              · refine List.Pairwise.sublist ?_ (h.up x.bk x.ky)
                have hh : ((S.V x.bk x.ky).take (idxK x.n (S.V x.bk x.ky)).toNat ++ (S.V x.bk x.ky).drop ((idxK x.n (S.V x.bk x.ky)).toNat + 1)).Sublist ((S.V x.bk x.ky).take (idxK x.n (S.V x.bk x.ky)).toNat ++ (S.V x.bk x.ky).drop (idxK x.n (S.V x.bk x.ky)).toNat) :=
                  List.Sublist.append_left (List.drop_sublist_drop_left _ (Nat.le_succ _)) _
                rwa [List.take_append_drop] at hh
              · rcases List.mem_append.1 hy with hy | hy
                · exact h.id _ _ y (List.mem_of_mem_take hy)
                · exact h.id _ _ y (List.mem_of_mem_drop hy)
            · exact h
          · exact h
theorem uniqE {S : St} (h : Up S) (b : List UInt8) {ks : List (List UInt8)} : ∀ x ∈ entsOf (S.V b) ks, ∀ y ∈ entsOf (S.V b) ks, x.key = y.key → x.id = y.id → x = y := by
  intro x hx y hy hk hid
  obtain ⟨k, i, a, ha, rfl⟩ := entsOf_mem hx
  obtain ⟨k', i', c, hc, rfl⟩ := entsOf_mem hy
  have e : k = k' := mkS_inj.1 hk
  subst e
  have e1 := idx_up (h.up b k) (h.id b k) ha
  have e2 := idx_up (h.up b k) (h.id b k) hc
  have hid' : a.id = c.id := hid
  rw [hid', e2] at e1
  have e3 : i' = i := by omega
  subst e3
  rw [ha] at hc
  injection hc with hc
  rw [hc]

theorem tells_one {S : St} {B : List (List UInt8)} {L : List Ob} {n : Nat} (h : RelM S B L n) (hU : Up S) {s : List UInt8} {q : AskV} {vs : Bool} {Res : List Ent → List Ent → Bool → ByteArray → Int → Prop}
    (hR : ∀ l o m k i, Res l o m k i → ∃ l', l'.Perm l ∧ SortedE l' ∧ o = (selE (pgB vs q) q l').take q.most.toNat ∧ m = decide (q.most.toNat < (selE (pgB vs q) q l').length) ∧ k = cutKey q.most.toNat (selE (pgB vs q) q l') ∧ i = pgId vs q.most.toNat (selE (pgB vs q) q l'))
    {er er' : Int} {o o' : List Ent} {m m' : Bool} {k k' : ByteArray} {i i' : Int} (h1 : Tells S s q Res er o m k i) (h2 : RTells B L s q vs er' o' m' k' i') : er = er' ∧ o = o' ∧ m = m' ∧ k = k' ∧ i = i' := by
  unfold Tells at h1
  unfold RTells at h2
  by_cases c1 : bucketB s = false
  · rw [if_pos c1] at h1 h2
    obtain ⟨a1, a2, a3, a4, a5⟩ := h1
    obtain ⟨b1, b2, b3, b4, b5⟩ := h2
    exact ⟨a1.trans b1.symm, a2.trans b2.symm, a3.trans b3.symm, a4.trans b4.symm, a5.trans b5.symm⟩
  rw [if_neg c1] at h1 h2
  by_cases c2 : okA q = false
  · rw [if_pos c2] at h1 h2
    obtain ⟨a1, a2, a3, a4, a5⟩ := h1
    obtain ⟨b1, b2, b3, b4, b5⟩ := h2
    exact ⟨a1.trans b1.symm, a2.trans b2.symm, a3.trans b3.symm, a4.trans b4.symm, a5.trans b5.symm⟩
  rw [if_neg c2] at h1 h2
  by_cases c3 : s ∈ B
  · rw [if_neg (show ¬ ¬ s ∈ S.B from fun e => e ((h.mem s).2 c3))] at h1
    rw [if_neg (show ¬ ¬ s ∈ B from fun e => e c3)] at h2
    obtain ⟨a1, ks, hk, hr⟩ := h1
    obtain ⟨b1, l2, p2, s2, b2, b3, b4, b5⟩ := h2
    obtain ⟨l1, p1, s1, a2, a3, a4, a5⟩ := hR _ _ _ _ _ hr
    have hp : l2.Perm (entsOf (S.V s) ks) := p2.trans (refE_perm h s hk)
    obtain rfl : l1 = l2 := sortedE_unique (fun x hx y hy => uniqE hU s x (p1.mem_iff.1 hx) y (p1.mem_iff.1 hy)) (p1.trans hp.symm) s1 s2
    exact ⟨a1.trans b1.symm, a2.trans b2.symm, a3.trans b3.symm, a4.trans b4.symm, a5.trans b5.symm⟩
  · rw [if_pos (show ¬ s ∈ S.B from fun e => c3 ((h.mem s).1 e))] at h1
    rw [if_pos c3] at h2
    obtain ⟨a1, a2, a3, a4, a5⟩ := h1
    obtain ⟨b1, b2, b3, b4, b5⟩ := h2
    exact ⟨a1.trans b1.symm, a2.trans b2.symm, a3.trans b3.symm, a4.trans b4.symm, a5.trans b5.symm⟩
theorem ans_eq {a a' : Ans} (h : a.er = a'.er ∧ a.o = a'.o ∧ a.m = a'.m ∧ a.k = a'.k ∧ a.i = a'.i) (h1 : a.y = kp0 ∧ a.l = [] ∧ a.B = []) (h2 : a'.y = kp0 ∧ a'.l = [] ∧ a'.B = []) : a = a' := by
  obtain ⟨x1, x2, x3, x4, x5, x6, x7, x8⟩ := a
  obtain ⟨y1, y2, y3, y4, y5, y6, y7, y8⟩ := a'
  simp only at h h1 h2
  obtain ⟨r1, r2, r3, r4, r5⟩ := h
  obtain ⟨s1, s2, s3⟩ := h1
  obtain ⟨t1, t2, t3⟩ := h2
  rw [r1, r2, r3, r4, r5, s1, s2, s3, t1, t2, t3]
theorem getA_one {f g : Int} {z : Option Kp} {d : Bool} {a a' : Ans} (h : getA f g z d a) (h' : getA f g z d a') : a = a' := by
  rcases h with ⟨h1, h2⟩ | ⟨h1, y, h2, h3⟩
  · rcases h' with ⟨k1, k2⟩ | ⟨k1, _⟩
    · rw [h2, k2]
    · exact absurd k1 h1
  · rcases h' with ⟨k1, _⟩ | ⟨k1, y', k2, k3⟩
    · exact absurd h1 k1
    · rw [h2] at k2
      injection k2 with k2
      rw [h3, k3, k2]
theorem one_ans {S : St} {B : List (List UInt8)} {L : List Ob} {n : Nat} (h : RelM S B L n) (hU : Up S) (x : Ch) (id : Int) {a a' : Ans} (h1 : AR S x id a) (h2 : AW B L x id a') : a = a' := by
  unfold AR at h1
  unfold AW at h2
  by_cases d1 : x.d = 1
  · rw [if_pos d1] at h1 h2
    rw [h1, h2, (h.makeE x.bk).1]
  rw [if_neg d1] at h1 h2
  by_cases d2 : x.d = 2
  · rw [if_pos d2] at h1 h2
    rw [h1, h2, (h.removeE x.bk).1]
  rw [if_neg d2] at h1 h2
  by_cases d3 : x.d = 3
  · rw [if_pos d3] at h1 h2
    obtain ⟨ss, hp, h1⟩ := h1
    have hpB : S.B.Perm B := (List.perm_ext_iff_of_nodup h.nd (h.srt.imp fun {a c} hac e => by subst e; rw [less_irrefl] at hac; cases hac)).2 h.mem
    rw [h1, h2, sorted_less h.srt (hp.trans hpB)]
  rw [if_neg d3] at h1 h2
  by_cases d4 : x.d = 4
  · rw [if_pos d4] at h1 h2
    rw [h1, h2, h.putE]
  rw [if_neg d4] at h1 h2
  by_cases d5 : x.d = 5
  · rw [if_pos d5] at h1 h2
    rw [h.findE, (h.getE x.bk x.ky x.n).1, (h.getE x.bk x.ky x.n).2] at h2
    exact getA_one h1 h2
  rw [if_neg d5] at h1 h2
  by_cases d6 : x.d = 6
  · rw [if_pos d6] at h1 h2
    rw [h.findE, (h.getE x.bk x.ky x.n).1, (h.getE x.bk x.ky x.n).2] at h2
    exact getA_one h1 h2
  rw [if_neg d6] at h1 h2
  by_cases d7 : x.d = 7
  · rw [if_pos d7] at h1 h2
    rw [h1, h2, h.delE]
  rw [if_neg d7] at h1 h2
  by_cases d8 : x.d = 8
  · rw [if_pos d8] at h1 h2
    rw [h1, h2, h.findE1]
  rw [if_neg d8] at h1 h2
  by_cases d9 : x.d = 9
  · rw [if_pos d9] at h1 h2
    exact ans_eq (tells_one h hU (vs := false) (fun l o m k i hr => by
      obtain ⟨l', p1, p2, p3, p4, p5, p6⟩ := hr
      exact ⟨l', p1, p2, p3, p4, p5, p6⟩) h1.2.2.2 h2.2.2.2) ⟨h1.1, h1.2.1, h1.2.2.1⟩ ⟨h2.1, h2.2.1, h2.2.2.1⟩
  rw [if_neg d9] at h1 h2
  by_cases d10 : x.d = 10
  · rw [if_pos d10] at h1 h2
    exact ans_eq (tells_one h hU (vs := true) (fun l o m k i hr => by
      obtain ⟨l', p1, p2, p3, p4, p5, p6⟩ := hr
      exact ⟨l', p1, p2, p3, p4, p5, p6⟩) h1.2.2.2 h2.2.2.2) ⟨h1.1, h1.2.1, h1.2.2.1⟩ ⟨h2.1, h2.2.1, h2.2.2.1⟩
  rw [if_neg d10] at h1 h2
  rw [h1, h2]
theorem rel_step {S : St} {B : List (List UInt8)} {L : List Ob} {n : Nat} (h : RelM S B L n) (x : Ch) (id : Int) : RelM (S.allS x id) (rStB B L x) (rStL B L x id) (n + 1) := by
  unfold St.allS rStB rStL
  by_cases d1 : x.d = 1
  · rw [if_pos d1, if_pos d1, if_pos d1]
    exact (h.makeE x.bk).2.mono (by omega)
  rw [if_neg d1, if_neg d1, if_neg d1]
  by_cases d2 : x.d = 2
  · rw [if_pos d2, if_pos d2, if_pos d2]
    exact (h.removeE x.bk).2.mono (by omega)
  rw [if_neg d2, if_neg d2, if_neg d2]
  unfold St.callS
  by_cases d4 : x.d = 4
  · rw [if_pos d4, if_pos d4]
    exact h.doPut id x.bk x.ky x.dt
  rw [if_neg d4, if_neg d4]
  by_cases d7 : x.d = 7
  · rw [if_pos d7, if_pos d7]
    exact h.doDel id x.bk x.ky
  rw [if_neg d7, if_neg d7]
  by_cases d8 : x.d = 8
  · rw [if_pos d8, if_pos d8]
    exact h.doEra x.bk x.ky x.n
  rw [if_neg d8, if_neg d8]
  exact h.mono (by omega)
structure Tiny (B : List (List UInt8)) (L : List Ob) : Prop where
  B : ∀ t ∈ B, t.length ≤ 300
  L : ∀ o ∈ L, o.ky.length ≤ 300
theorem tiny_new : Tiny [] [] := ⟨fun _ h => (List.not_mem_nil h).elim, fun _ h => (List.not_mem_nil h).elim⟩
theorem tiny_at {B : List (List UInt8)} {L : List Ob} (h : Tiny B L) (b : List UInt8) {k : List UInt8} (hk : k.length ≤ 300) : ∀ o ∈ (atL L b k).1, o.ky.length ≤ 300 := by
  rcases atL_form L b k with e | ⟨e, _⟩
  · rw [e]; exact h.L
  · rw [e]
    intro o ho
    rcases List.mem_append.1 ho with ho | ho
    · exact h.L o ho
    · rw [List.mem_singleton] at ho
      rw [ho]; exact hk
theorem tiny_more {B : List (List UInt8)} {L : List Ob} (h : Tiny B L) (b : List UInt8) {k : List UInt8} (hk : k.length ≤ 300) (y : Kp) : ∀ o ∈ rMoreL L b k y, o.ky.length ≤ 300 := by
  unfold rMoreL
  split
  · intro o ho
    rcases List.mem_or_eq_of_mem_set ho with ho | rfl
    · exact tiny_at h b hk o ho
    · exact hk
  · exact tiny_at h b hk
theorem tiny_step {B : List (List UInt8)} {L : List Ob} (h : Tiny B L) (x : Ch) (id : Int) (hx : x.Short) : Tiny (rStB B L x) (rStL B L x id) := by
  unfold rStB rStL
  by_cases d1 : x.d = 1
  · rw [if_pos d1, if_pos d1]
    refine ⟨?_, h.L⟩
    unfold rMake
    split
    · exact h.B
    · split
      · exact h.B
      · split
        · exact h.B
        · intro t ht
          rcases (mem_ins _).1 ht with rfl | ht
          · exact hx.bk
          · exact h.B t ht
  rw [if_neg d1, if_neg d1]
  by_cases d2 : x.d = 2
  · rw [if_pos d2, if_pos d2]
    unfold rRemove
    split
    · exact h
    · split
      · exact h
      · split
        · exact h
        · exact ⟨fun t ht => h.B t (List.mem_filter.1 ht).1, fun o ho => h.L o (List.mem_filter.1 ho).1⟩
  rw [if_neg d2, if_neg d2]
  refine ⟨h.B, ?_⟩
  by_cases d4 : x.d = 4
  · rw [if_pos d4]
    unfold rPutL
    split
    · exact h.L
    · split
      · exact h.L
      · split
        · exact h.L
        · exact tiny_more h _ hx.ky _
  rw [if_neg d4]
  by_cases d7 : x.d = 7
  · rw [if_pos d7]
    unfold rDelL
    split
    · exact h.L
    · split
      · exact h.L
      · exact tiny_more h _ hx.ky _
  rw [if_neg d7]
  by_cases d8 : x.d = 8
  · rw [if_pos d8]
    unfold rEraL
    split
    · intro o ho
      rcases List.mem_or_eq_of_mem_set ho with ho | rfl
      · exact h.L o ho
      · exact hx.ky
    · exact h.L
  rw [if_neg d8]
  exact h.L
end Go.Proofs.YtjbjcfnbgcloiaaGreatDoor
