/- Call of the statements of layer 22: one choice on a model. -/
import Derived.Test.YtjbjcfnbgcloiaaGreatDoorMoX
import Derived.Test.YtjbjcfnbgcloiaaGreatDoorMoN
import Derived.Deep.MidRow

set_option linter.unusedSimpArgs false
set_option linter.unusedVariables false
namespace Go.Proofs.YtjbjcfnbgcloiaaGreatDoor
open Go.RowKit Nam YtjbjcfnbgcloiaaGreatDoorW.PrintWords

/-- An answer's cells. -/
def ansL (err : Int) (y : Kp) (dv : Value) : List Value := [.int .i64 err, .int .i64 y.id, .bool y.mark, .int .i64 y.sz, .int .u32 y.sum, dv, .slice none 0 0, .bool false, .string ⟨#[]⟩, .int .i64 0, .slice none 0 0]
abbrev ans0 : Array Value := #[.int .i64 0, .int .i64 0, .bool false, .int .i64 0, .int .u32 0, .slice none 0 0, .slice none 0 0, .bool false, .string ⟨#[]⟩, .int .i64 0, .slice none 0 0]
def AnsIs (P : Kp → Value → World → Prop) (S' : St) (n : Nat) (Q F : Nat → Prop) (g : Nat) (err : Int) (w : World) (e : Ending) (w' : World) : Prop :=
  (∃ y dv, e = .returned (.agg (ansL err y dv).toArray) ∧ P y dv w') ∧ (∃ F', HasM w' g S' (n + 1) Q F' ∧ ∀ j, F' j → F j ∨ w.heap.size ≤ j) ∧ Moved Q w w'

/-- The boxes of Call, as its choice begins. -/
structure Boxed (w W : World) (cs : Array Value) : Prop where
  b : Below w.heap.size w W
  s : W.heap.size = w.heap.size + 3
  k4 : W.heap[w.heap.size]? = some (.cells cs 34 (0, 0))
  k6 : W.heap[w.heap.size + 1]? = some (.cells ans0 44 (0, 0))
  k7 : W.heap[w.heap.size + 2]? = some (.cells ans0 44 (0, 0))
theorem boxed_mk (w : World) (cs : Array Value) : Boxed w (((w.alloc (.cells cs 34)).alloc (.cells ans0 44)).alloc (.cells ans0 44)) cs := by
  obtain ⟨W1, h1⟩ : ∃ W1, w.alloc (.cells cs 34) = W1 := ⟨_, rfl⟩
  obtain ⟨W2, h2⟩ : ∃ W2, W1.alloc (.cells ans0 44) = W2 := ⟨_, rfl⟩
  have s1 : W1.heap.size = w.heap.size + 1 := by rw [← h1]; simp
  have s2 : W2.heap.size = w.heap.size + 2 := by rw [← h2]; simp [s1]
  have b1 : Below w.heap.size w W1 := by rw [← h1]; exact (Below.refl _ _).alloc (Nat.le_refl _) _
  have b2 : Below W1.heap.size W1 W2 := by rw [← h2]; exact (Below.refl _ _).alloc (Nat.le_refl _) _
  have b3 : Below W2.heap.size W2 (W2.alloc (.cells ans0 44)) := (Below.refl _ _).alloc (Nat.le_refl _) _
  rw [h1, h2]
  refine ⟨(b1.trans (b2.mono b1.size)).trans (b3.mono (by omega)), by simp [s2], ?_, ?_, ?_⟩
  · rw [b3.block _ (by omega), b2.block _ (by omega), ← h1]
    exact heap_alloc_new w _
  · rw [b3.block _ (by omega), ← s1, ← h2]
    exact heap_alloc_new W1 _
  · rw [← s2]
    exact heap_alloc_new W2 _

/-- Only the blocks from B to C, and new ones, are others. -/
structure Only (B C : Nat) (w V : World) : Prop where
  os : V.os = w.os
  tape : V.tape = w.tape
  output : V.output = w.output
  size : w.heap.size ≤ V.heap.size
  block : ∀ k, k < w.heap.size → (k < B ∨ C ≤ k) → V.heap[k]? = w.heap[k]?
theorem Only.refl (B C : Nat) (w : World) : Only B C w w := ⟨rfl, rfl, rfl, Nat.le_refl _, fun _ _ _ => rfl⟩
theorem Only.of_below {B C : Nat} {w a V : World} (h : Only B C w a) (hb : Below a.heap.size a V) : Only B C w V :=
  ⟨hb.os.trans h.os, hb.tape.trans h.tape, hb.output.trans h.output, Nat.le_trans h.size hb.size, fun k hk hh => (hb.block k (Nat.lt_of_lt_of_le hk h.size)).trans (h.block k hk hh)⟩
theorem Only.put {B C : Nat} {w a : World} (h : Only B C w a) {g : Nat} (i : Nat) (u : Value) (h1 : B ≤ g) (h2 : g < C ∨ w.heap.size ≤ g) : Only B C w (a.setCell ⟨g, i, none⟩ u) := by
  refine ⟨by simpa [World.setCell] using h.os, by simpa [World.setCell] using h.tape, by simpa [World.setCell] using h.output, by simpa [World.setCell] using h.size, fun k hk hh => ?_⟩
  rw [Below.heap_setCell a ⟨g, i, none⟩ u k (by show k ≠ g; omega)]
  exact h.block k hk hh
theorem Only.row {B C : Nat} {w a : World} (h : Only B C w a) {g : Nat} (cs : Array Value) (h1 : B ≤ g) (h2 : g < C ∨ w.heap.size ≤ g) : Only B C w (a.setRow g cs) := by
  refine ⟨h.os, h.tape, h.output, by simpa [World.setRow] using h.size, fun k hk hh => ?_⟩
  rw [setRow_other _ _ _ _ (by omega)]
  exact h.block k hk hh
/-- What the call of the model has left, and the boxes; then only the boxes turn. -/
theorem ans_fin {w W3 w4 V : World} {g n n' : Nat} {S S' : St} {Q F : Nat → Prop} {cs : Array Value} (hm : HasM w g S n' Q F) (hbx : Boxed w W3 cs) (hf : ∃ F', HasM w4 g S' (n + 1) Q F' ∧ ∀ j, F' j → F j ∨ W3.heap.size ≤ j) (hmv : Moved Q W3 w4) (ho : Only w.heap.size (w.heap.size + 3) w4 V) :
    (∃ F', HasM V g S' (n + 1) Q F' ∧ ∀ j, F' j → F j ∨ w.heap.size ≤ j) ∧ Moved Q w V := by
  obtain ⟨F', h1, h2⟩ := hf
  have hs := hbx.s
  refine ⟨⟨F', h1.kept (fun k hk => ho.block k (isC_lt (h1.f k hk)) ?_) (fun k hk => ho.block k (isM_lt (h1.q k hk)) (.inl (isM_lt (hm.q k hk)))), fun j hj => (h2 j hj).imp_right fun e => by omega⟩, ?_⟩
  · rcases h2 k hk with h | h
    · exact .inl (isC_lt (hm.f k h))
    · exact .inr (by omega)
  · refine ⟨ho.os.trans (hmv.os.trans hbx.b.os), ho.tape.trans (hmv.tape.trans hbx.b.tape), ho.output.trans (hmv.output.trans hbx.b.output), Nat.le_trans hbx.b.size (Nat.le_trans hmv.size ho.size), fun k hk hn => ?_⟩
    rw [ho.block k (by have := hmv.size; omega) (.inl hk), hmv.block k (by omega) hn, hbx.b.block k hk]
/-- The boxes behind the call. -/
theorem boxed_after {w W3 w4 : World} {Q : Nat → Prop} {cs : Array Value} (hbx : Boxed w W3 cs) (hq : ∀ k, Q k → IsM w k) (hmv : Moved Q W3 w4) :
    w4.heap[w.heap.size + 1]? = some (.cells ans0 44 (0, 0)) ∧ w4.heap[w.heap.size + 1 + 1]? = some (.cells ans0 44 (0, 0)) ∧ w.heap.size + 3 ≤ w4.heap.size := by
  have hs := hbx.s
  refine ⟨?_, ?_, by have := hmv.size; omega⟩
  · rw [hmv.block _ (by omega) (fun h => by have := isM_lt (hq _ h); omega)]
    exact hbx.k6
  · rw [hmv.block _ (by omega) (fun h => by have := isM_lt (hq _ h); omega)]
    exact hbx.k7

/-- An empty answer's cells. -/
structure Zeros (w : World) (g : Nat) : Prop where
  z0 : w.cell? ⟨g, 0, none⟩ = some (.int .i64 0)
  z1 : w.cell? ⟨g, 1, none⟩ = some (.int .i64 0)
  z2 : w.cell? ⟨g, 2, none⟩ = some (.bool false)
  z3 : w.cell? ⟨g, 3, none⟩ = some (.int .i64 0)
  z4 : w.cell? ⟨g, 4, none⟩ = some (.int .u32 0)
  z5 : w.cell? ⟨g, 5, none⟩ = some (.slice none 0 0)
  z6 : w.cell? ⟨g, 6, none⟩ = some (.slice none 0 0)
  z7 : w.cell? ⟨g, 7, none⟩ = some (.bool false)
  z8 : w.cell? ⟨g, 8, none⟩ = some (.string ⟨#[]⟩)
  z9 : w.cell? ⟨g, 9, none⟩ = some (.int .i64 0)
  z10 : w.cell? ⟨g, 10, none⟩ = some (.slice none 0 0)
theorem zeros_of {w : World} {g : Nat} (h : w.heap[g]? = some (.cells ans0 44 (0, 0))) : Zeros w g :=
  ⟨(blk_cell h 0).trans rfl, (blk_cell h 1).trans rfl, (blk_cell h 2).trans rfl, (blk_cell h 3).trans rfl, (blk_cell h 4).trans rfl, (blk_cell h 5).trans rfl, (blk_cell h 6).trans rfl, (blk_cell h 7).trans rfl, (blk_cell h 8).trans rfl, (blk_cell h 9).trans rfl, (blk_cell h 10).trans rfl⟩
/-- A choice's cells. -/
structure ChAt (w : World) (g : Nat) (d : Int) (bk ky : List UInt8) (dv : Value) (n a : Int) (pf fr : List UInt8) (fi mo : Int) : Prop where
  c0 : w.cell? ⟨g, 0, none⟩ = some (.int .i64 d)
  c1 : w.cell? ⟨g, 1, none⟩ = some (.string (mkS bk))
  c2 : w.cell? ⟨g, 2, none⟩ = some (.string (mkS ky))
  c3 : w.cell? ⟨g, 3, none⟩ = some dv
  c4 : w.cell? ⟨g, 4, none⟩ = some (.int .i64 n)
  c5 : w.cell? ⟨g, 5, none⟩ = some (.int .i64 a)
  c6 : w.cell? ⟨g, 6, none⟩ = some (.string (mkS pf))
  c7 : w.cell? ⟨g, 7, none⟩ = some (.string (mkS fr))
  c8 : w.cell? ⟨g, 8, none⟩ = some (.int .i64 fi)
  c9 : w.cell? ⟨g, 9, none⟩ = some (.int .i64 mo)
theorem chAt_of {w : World} {g : Nat} {d : Int} {bk ky : List UInt8} {dv : Value} {n a : Int} {pf fr : List UInt8} {fi mo : Int}
    (h : w.heap[g]? = some (.cells #[.int .i64 d, .string (mkS bk), .string (mkS ky), dv, .int .i64 n, .int .i64 a, .string (mkS pf), .string (mkS fr), .int .i64 fi, .int .i64 mo] 34 (0, 0))) : ChAt w g d bk ky dv n a pf fr fi mo :=
  ⟨(blk_cell h 0).trans rfl, (blk_cell h 1).trans rfl, (blk_cell h 2).trans rfl, (blk_cell h 3).trans rfl, (blk_cell h 4).trans rfl, (blk_cell h 5).trans rfl, (blk_cell h 6).trans rfl, (blk_cell h 7).trans rfl, (blk_cell h 8).trans rfl, (blk_cell h 9).trans rfl⟩

set_option maxHeartbeats 2000000 in
set_option maxRecDepth 100000 in
theorem call_era (w : World) (g : Nat) (S : St) (n : Nat) (Q F : Nat → Prop) (b k pf fr : List UInt8) (dv : Value) (id nn a fi mo : Int) (hb : b.length ≤ 100000) (hk : k.length ≤ 100000) (hl : (S.V b k).length ≤ 1000) (hn : n ≤ 100000) (hm : HasM w g S n Q F) (hT : Tabs w) :
    Calls Tryz.prog 13 #[.pointer (some ⟨g, 0, none⟩), .agg #[.int .i64 8, .string (mkS b), .string (mkS k), dv, .int .i64 nn, .int .i64 a, .string (mkS pf), .string (mkS fr), .int .i64 fi, .int .i64 mo], .int .i64 id] w
      (AnsIs (fun y dv _ => y = kp0 ∧ dv = .slice none 0 0) (S.doEra b k nn) n Q F g (S.findE b k nn 1) w) := by
  obtain ⟨W3, hW3⟩ : ∃ W3, ((w.alloc (.cells #[.int .i64 8, .string (mkS b), .string (mkS k), dv, .int .i64 nn, .int .i64 a, .string (mkS pf), .string (mkS fr), .int .i64 fi, .int .i64 mo] 34)).alloc (.cells ans0 44)).alloc (.cells ans0 44) = W3 := ⟨_, rfl⟩
  have hbx := boxed_mk w #[.int .i64 8, .string (mkS b), .string (mkS k), dv, .int .i64 nn, .int .i64 a, .string (mkS pf), .string (mkS fr), .int .i64 fi, .int .i64 mo]
  rw [hW3] at hbx
  have HC : Hid (Calls Tryz.prog 35 #[.pointer (some ⟨g, 0, none⟩), .string (mkS b), .string (mkS k), .int .i64 nn] W3 fun e w' => e = .returned (.int .i64 (S.findE b k nn 1)) ∧ Hid ((∃ F', HasM w' g (S.doEra b k nn) (n + 1) Q F' ∧ ∀ j, F' j → F j ∨ W3.heap.size ≤ j) ∧ Moved Q W3 w') ∧ Hid (w'.heap[w.heap.size + 1]? = some (.cells ans0 44 (0, 0)) ∧ w'.heap[w.heap.size + 1 + 1]? = some (.cells ans0 44 (0, 0)) ∧ w.heap.size + 3 ≤ w'.heap.size)) :=
    (erase_is W3 g S n Q F b k nn hb hk hl hn (hm.below hbx.b) (hT.below hbx.b)).mono fun e w' ⟨h1, h2, h3⟩ => ⟨h1, ⟨h2, h3⟩, boxed_after hbx hm.q h3⟩
  have HBX := Lib.hid hbx
  have HM := Lib.hid hm
  have HW3 := Lib.hid hW3
  obtain ⟨c0, c1, c2, c3, c4, c5, c6, c7, c8, c9⟩ := chAt_of hbx.k4
  clear c3 c5 c6 c7 c8 c9
  obtain ⟨er, her⟩ : ∃ er, S.findE b k nn 1 = er := ⟨_, rfl⟩
  rw [her] at HC ⊢
  clear hm hT hl hbx hW3 her
  go_enter Tryz.func13, Tryz.ntmps13
  go_upto_region 2 with (fail)
  rw [HW3.out]
  clear HW3
  go_wp2_with fail
  refine HC.out.mono ?_
  rintro e w4 ⟨rfl, HF, HB⟩
  obtain ⟨z0, z1, z2, z3, z4, z5, z6, z7, z8, z9, z10⟩ := zeros_of HB.out.2.1
  have f0 := blk_frozen HB.out.2.1 0
  have HB6 : Hid (∀ u, (w4.setCell ⟨w.heap.size + 1 + 1, 0, none⟩ u).heap[w.heap.size + 1]? = some (.cells ans0 44 (0, 0))) := fun u => blk_far HB.out.1 (by simp) u
  go_wp2_with (refine wpList_store_row rfl 44 (.tmp 6) (.tmp 159) rfl (w.heap.size + 1) (ansL er kp0 (.slice none 0 0)).toArray rfl rfl 44 _ (HB6.out _) (by kernel_rfl) rfl (by simp [ansL, Value.oneCell']) ?_)
  refine bodyPost_ret (results_single rfl (.cell (w.heap.size + 1) 44 (ansL er kp0 (.slice none 0 0)).toArray (0, 0) _ rfl (setRow_heap _ _ _ _ _ _ (HB6.out _)) Tryz.underlying44 rfl (by kernel_rfl) .nil)) rfl ?_
  exact ⟨⟨kp0, .slice none 0 0, rfl, rfl, rfl⟩, ans_fin HM.out HBX.out HF.out.1 HF.out.2 (((Only.refl _ _ _).put 0 _ (by omega) (by omega)).row _ (by omega) (by omega))⟩
end Go.Proofs.YtjbjcfnbgcloiaaGreatDoor

/- Call of the statements of layer 22: put, get, head, delete. -/
namespace Go.Proofs.YtjbjcfnbgcloiaaGreatDoor
open Go.RowKit Nam YtjbjcfnbgcloiaaGreatDoorW.PrintWords

abbrev verA (y : Kp) : Array Value := #[.int .i64 y.id, .bool y.mark, .int .i64 y.sz, .int .u32 y.sum]
structure AnsAt (w : World) (g : Nat) (y : Kp) : Prop where
  z0 : w.cell? ⟨g, 0, none⟩ = some (.int .i64 0)
  z1 : w.cell? ⟨g, 1, none⟩ = some (.int .i64 y.id)
  z2 : w.cell? ⟨g, 2, none⟩ = some (.bool y.mark)
  z3 : w.cell? ⟨g, 3, none⟩ = some (.int .i64 y.sz)
  z4 : w.cell? ⟨g, 4, none⟩ = some (.int .u32 y.sum)
  z5 : w.cell? ⟨g, 5, none⟩ = some (.slice none 0 0)
  z6 : w.cell? ⟨g, 6, none⟩ = some (.slice none 0 0)
  z7 : w.cell? ⟨g, 7, none⟩ = some (.bool false)
  z8 : w.cell? ⟨g, 8, none⟩ = some (.string ⟨#[]⟩)
  z9 : w.cell? ⟨g, 9, none⟩ = some (.int .i64 0)
  z10 : w.cell? ⟨g, 10, none⟩ = some (.slice none 0 0)
structure VerAt (w : World) (g : Nat) (y : Kp) : Prop where
  v0 : w.cell? ⟨g, 0, none⟩ = some (.int .i64 y.id)
  v1 : w.cell? ⟨g, 1, none⟩ = some (.bool y.mark)
  v2 : w.cell? ⟨g, 2, none⟩ = some (.int .i64 y.sz)
  v3 : w.cell? ⟨g, 3, none⟩ = some (.int .u32 y.sum)
/-- The version's box, and the version in the answer's. -/
theorem box_ver (w w4 : World) (y : Kp) (k6 : w4.heap[w.heap.size + 1]? = some (.cells ans0 44 (0, 0))) (k7 : w4.heap[w.heap.size + 1 + 1]? = some (.cells ans0 44 (0, 0))) (hs : w.heap.size + 3 ≤ w4.heap.size) :
    ∃ W5 W6, w4.alloc (.cells #[.int .i64 y.id, .bool y.mark, .int .i64 y.sz, .int .u32 y.sum] 38) = W5 ∧ VerAt W5 w4.heap.size y ∧ W5.there (w.heap.size + 1 + 1) 1 4 ∧ W5.setCells (w.heap.size + 1 + 1) 1 (verA y).toList = W6 ∧ AnsAt W6 (w.heap.size + 1 + 1) y ∧
      W6.heap[w.heap.size + 1 + 1]? = some (.cells (ansL 0 y (.slice none 0 0)).toArray 44 (0, 0)) ∧ W6.heap[w.heap.size + 1]? = some (.cells ans0 44 (0, 0)) ∧ Only w.heap.size (w.heap.size + 3) w4 W6 := by
  have hb5 : Below w4.heap.size w4 (w4.alloc (.cells #[.int .i64 y.id, .bool y.mark, .int .i64 y.sz, .int .u32 y.sum] 38)) := (Below.refl _ _).alloc (Nat.le_refl _) _
  have hn := blk_new w4 (.cells #[.int .i64 y.id, .bool y.mark, .int .i64 y.sz, .int .u32 y.sum] 38)
  generalize w4.alloc (.cells #[.int .i64 y.id, .bool y.mark, .int .i64 y.sz, .int .u32 y.sum] 38) = W5 at hb5 hn
  have q6 := blk_below k6 hb5
  have q7 := blk_below k7 hb5
  obtain ⟨cur, h1, h2, h3⟩ := setCells_row (verA y).toList 1 W5 ans0 q7 (by show 1 + 4 ≤ 11; omega)
  have h4 : cur = (ansL 0 y (.slice none 0 0)).toArray := Array.toList_inj.1 h3
  subst h4
  refine ⟨W5, _, rfl, ⟨(blk_cell hn 0).trans rfl, (blk_cell hn 1).trans rfl, (blk_cell hn 2).trans rfl, (blk_cell hn 3).trans rfl⟩, fun j hj => ⟨?_, blk_frozen q7 _⟩, rfl,
    ⟨(blk_cell h1 0).trans rfl, (blk_cell h1 1).trans rfl, (blk_cell h1 2).trans rfl, (blk_cell h1 3).trans rfl, (blk_cell h1 4).trans rfl, (blk_cell h1 5).trans rfl, (blk_cell h1 6).trans rfl, (blk_cell h1 7).trans rfl, (blk_cell h1 8).trans rfl, (blk_cell h1 9).trans rfl, (blk_cell h1 10).trans rfl⟩, h1, ?_, ?_⟩
  · rw [blk_cell q7]
    have : j = 0 ∨ j = 1 ∨ j = 2 ∨ j = 3 := by omega
    rcases this with rfl | rfl | rfl | rfl <;> rfl
  · rw [setCells_far _ _ _ (by omega)]
    exact q6
  · have hh := setCells_same (w.heap.size + 1 + 1) (verA y).toList 1 W5
    refine ⟨hh.1.trans hb5.os, hh.2.1.trans hb5.tape, hh.2.2.1.trans hb5.output, by rw [hh.2.2.2]; exact hb5.size, fun k hk hc => ?_⟩
    rw [setCells_far _ _ _ (by omega)]
    exact hb5.block k hk

set_option maxHeartbeats 2000000 in
set_option maxRecDepth 100000 in
theorem call_put (w : World) (g : Nat) (S : St) (n : Nat) (Q F : Nat → Prop) (b k d pf fr : List UInt8) (A : Option Addr) (c : Nat) (id nn a fi mo : Int) (hb : b.length ≤ 100000) (hk : k.length ≤ 100000) (hd : d.length ≤ 1000000) (hn : n ≤ 100000) (hm : HasM w g S n Q F)
    (hC : ∀ V, Below w.heap.size w V → (Kd.int .u8).C V A d.length (byN d)) (hT : Tabs w) :
    Calls Tryz.prog 13 #[.pointer (some ⟨g, 0, none⟩), .agg #[.int .i64 4, .string (mkS b), .string (mkS k), .slice A d.length c, .int .i64 nn, .int .i64 a, .string (mkS pf), .string (mkS fr), .int .i64 fi, .int .i64 mo], .int .i64 id] w
      (AnsIs (fun y dv _ => y = (if S.putE id b k d = 0 then kpOf id d else kp0) ∧ dv = .slice none 0 0) (S.doPut id b k d) n Q F g (S.putE id b k d) w) := by
  obtain ⟨W3, hW3⟩ : ∃ W3, ((w.alloc (.cells #[.int .i64 4, .string (mkS b), .string (mkS k), .slice A d.length c, .int .i64 nn, .int .i64 a, .string (mkS pf), .string (mkS fr), .int .i64 fi, .int .i64 mo] 34)).alloc (.cells ans0 44)).alloc (.cells ans0 44) = W3 := ⟨_, rfl⟩
  have hbx := boxed_mk w #[.int .i64 4, .string (mkS b), .string (mkS k), .slice A d.length c, .int .i64 nn, .int .i64 a, .string (mkS pf), .string (mkS fr), .int .i64 fi, .int .i64 mo]
  rw [hW3] at hbx
  obtain ⟨y, hy⟩ : ∃ y, (if S.putE id b k d = 0 then kpOf id d else kp0) = y := ⟨_, rfl⟩
  obtain ⟨er, her⟩ : ∃ er, S.putE id b k d = er := ⟨_, rfl⟩
  have HC : Hid (Calls Tryz.prog 17 #[.pointer (some ⟨g, 0, none⟩), .int .i64 id, .string (mkS b), .string (mkS k), .slice A d.length c] W3 fun e w' => e = .returned (.tuple #[.agg #[.int .i64 y.id, .bool y.mark, .int .i64 y.sz, .int .u32 y.sum], .int .i64 er]) ∧ Hid ((∃ F', HasM w' g (S.doPut id b k d) (n + 1) Q F' ∧ ∀ j, F' j → F j ∨ W3.heap.size ≤ j) ∧ Moved Q W3 w') ∧ Hid (w'.heap[w.heap.size + 1]? = some (.cells ans0 44 (0, 0)) ∧ w'.heap[w.heap.size + 1 + 1]? = some (.cells ans0 44 (0, 0)) ∧ w.heap.size + 3 ≤ w'.heap.size)) :=
    (put_is W3 g S n Q F id b k d A c hb hk hd hn (hm.below hbx.b) (hC _ hbx.b) (hT.below hbx.b)).mono fun e w' ⟨h1, h2, h3⟩ => ⟨by rw [h1, hy, her]; rfl, ⟨h2, h3⟩, boxed_after hbx hm.q h3⟩
  rw [her] at hy ⊢
  rw [hy]
  have HBX := Lib.hid hbx
  have HM := Lib.hid hm
  have HW3 := Lib.hid hW3
  obtain ⟨c0, c1, c2, c3, c4, c5, c6, c7, c8, c9⟩ := chAt_of hbx.k4
  clear c5 c6 c7 c8 c9
  clear hm hT hbx hW3 hy her hC
  go_enter Tryz.func13, Tryz.ntmps13
  go_upto_region 2 with (fail)
  rw [HW3.out]
  clear HW3
  go_wp2_with fail
  refine HC.out.mono ?_
  rintro e w4 ⟨rfl, HF, HB⟩
  obtain ⟨W5, W6, hW5, ⟨v0, v1, v2, v3⟩, HTH, hW6, HAA, HK7, HK6, HON⟩ := box_ver w w4 y HB.out.1 HB.out.2.1 HB.out.2.2
  have HW5 := Lib.hid hW5
  have HW6 := Lib.hid hW6
  clear hW5 hW6 HC
  go_upto_region 11 with (fail)
  rw [HW5.out]
  clear HW5
  have HK6h := Lib.hid HK6
  have HK7h := Lib.hid HK7
  have HTHh := Lib.hid HTH
  obtain ⟨z0, z1, z2, z3, z4, z5, z6, z7, z8, z9, z10⟩ := HAA
  have f0 := blk_frozen HK7 0
  have f5 := blk_frozen HK7 5
  clear HK6 HK7 HTH
  have HB6 : Hid (∀ u, (W6.setCell ⟨w.heap.size + 1 + 1, 0, none⟩ u).heap[w.heap.size + 1]? = some (.cells ans0 44 (0, 0))) := fun u => blk_far HK6h.out (by simp) u
  go_wp2_with (first | (refine wpList_store_mid rfl 38 (.tmp 59) (.tmp 57) rfl (w.heap.size + 1 + 1) 1 (verA y) rfl rfl HTHh.out (by kernel_rfl) (by simp [Value.oneCell']) ?_; rw [HW6.out]) | (refine wpList_store_row rfl 44 (.tmp 6) (.tmp 159) rfl (w.heap.size + 1) (ansL er y (.slice none 0 0)).toArray rfl rfl 44 _ (HB6.out _) (by kernel_rfl) rfl (by simp [ansL, Value.oneCell']) ?_))
  refine bodyPost_ret (results_single rfl (.cell (w.heap.size + 1) 44 (ansL er y (.slice none 0 0)).toArray (0, 0) _ rfl (setRow_heap _ _ _ _ _ _ (HB6.out _)) Tryz.underlying44 rfl (by kernel_rfl) .nil)) rfl ?_
  exact ⟨⟨y, .slice none 0 0, rfl, rfl, rfl⟩, ans_fin HM.out HBX.out HF.out.1 HF.out.2 ((HON.put 0 _ (by omega) (by omega)).row _ (by omega) (by omega))⟩

set_option maxHeartbeats 2000000 in
set_option maxRecDepth 100000 in
theorem call_del (w : World) (g : Nat) (S : St) (n : Nat) (Q F : Nat → Prop) (b k pf fr : List UInt8) (dv : Value) (id nn a fi mo : Int) (hb : b.length ≤ 100000) (hk : k.length ≤ 100000) (hl : (S.V b k).length ≤ 100000) (hn : n ≤ 100000) (hm : HasM w g S n Q F) (hT : Tabs w) :
    Calls Tryz.prog 13 #[.pointer (some ⟨g, 0, none⟩), .agg #[.int .i64 7, .string (mkS b), .string (mkS k), dv, .int .i64 nn, .int .i64 a, .string (mkS pf), .string (mkS fr), .int .i64 fi, .int .i64 mo], .int .i64 id] w
      (AnsIs (fun y dv _ => y = (if S.delE id b k = 0 then kpDel id else kp0) ∧ dv = .slice none 0 0) (S.doDel id b k) n Q F g (S.delE id b k) w) := by
  obtain ⟨W3, hW3⟩ : ∃ W3, ((w.alloc (.cells #[.int .i64 7, .string (mkS b), .string (mkS k), dv, .int .i64 nn, .int .i64 a, .string (mkS pf), .string (mkS fr), .int .i64 fi, .int .i64 mo] 34)).alloc (.cells ans0 44)).alloc (.cells ans0 44) = W3 := ⟨_, rfl⟩
  have hbx := boxed_mk w #[.int .i64 7, .string (mkS b), .string (mkS k), dv, .int .i64 nn, .int .i64 a, .string (mkS pf), .string (mkS fr), .int .i64 fi, .int .i64 mo]
  rw [hW3] at hbx
  obtain ⟨y, hy⟩ : ∃ y, (if S.delE id b k = 0 then kpDel id else kp0) = y := ⟨_, rfl⟩
  obtain ⟨er, her⟩ : ∃ er, S.delE id b k = er := ⟨_, rfl⟩
  have HC : Hid (Calls Tryz.prog 34 #[.pointer (some ⟨g, 0, none⟩), .int .i64 id, .string (mkS b), .string (mkS k)] W3 fun e w' => e = .returned (.tuple #[.agg #[.int .i64 y.id, .bool y.mark, .int .i64 y.sz, .int .u32 y.sum], .int .i64 er]) ∧ Hid ((∃ F', HasM w' g (S.doDel id b k) (n + 1) Q F' ∧ ∀ j, F' j → F j ∨ W3.heap.size ≤ j) ∧ Moved Q W3 w') ∧ Hid (w'.heap[w.heap.size + 1]? = some (.cells ans0 44 (0, 0)) ∧ w'.heap[w.heap.size + 1 + 1]? = some (.cells ans0 44 (0, 0)) ∧ w.heap.size + 3 ≤ w'.heap.size)) :=
    (delete_is W3 g S n Q F id b k hb hk hl hn (hm.below hbx.b) (hT.below hbx.b)).mono fun e w' ⟨h1, h2, h3⟩ => ⟨by rw [h1, hy, her]; rfl, ⟨h2, h3⟩, boxed_after hbx hm.q h3⟩
  rw [her] at hy ⊢
  rw [hy]
  have HBX := Lib.hid hbx
  have HM := Lib.hid hm
  have HW3 := Lib.hid hW3
  obtain ⟨c0, c1, c2, c3, c4, c5, c6, c7, c8, c9⟩ := chAt_of hbx.k4
  clear c5 c6 c7 c8 c9
  clear hm hT hbx hW3 hy her hl
  go_enter Tryz.func13, Tryz.ntmps13
  go_upto_region 2 with (fail)
  rw [HW3.out]
  clear HW3
  go_wp2_with fail
  refine HC.out.mono ?_
  rintro e w4 ⟨rfl, HF, HB⟩
  obtain ⟨W5, W6, hW5, ⟨v0, v1, v2, v3⟩, HTH, hW6, HAA, HK7, HK6, HON⟩ := box_ver w w4 y HB.out.1 HB.out.2.1 HB.out.2.2
  have HW5 := Lib.hid hW5
  have HW6 := Lib.hid hW6
  clear hW5 hW6 HC
  go_upto_region 20 with (fail)
  rw [HW5.out]
  clear HW5
  have HK6h := Lib.hid HK6
  have HK7h := Lib.hid HK7
  have HTHh := Lib.hid HTH
  obtain ⟨z0, z1, z2, z3, z4, z5, z6, z7, z8, z9, z10⟩ := HAA
  have f0 := blk_frozen HK7 0
  have f5 := blk_frozen HK7 5
  clear HK6 HK7 HTH
  have HB6 : Hid (∀ u, (W6.setCell ⟨w.heap.size + 1 + 1, 0, none⟩ u).heap[w.heap.size + 1]? = some (.cells ans0 44 (0, 0))) := fun u => blk_far HK6h.out (by simp) u
  go_wp2_with (first | (refine wpList_store_mid rfl 38 (.tmp 112) (.tmp 110) rfl (w.heap.size + 1 + 1) 1 (verA y) rfl rfl HTHh.out (by kernel_rfl) (by simp [Value.oneCell']) ?_; rw [HW6.out]) | (refine wpList_store_row rfl 44 (.tmp 6) (.tmp 159) rfl (w.heap.size + 1) (ansL er y (.slice none 0 0)).toArray rfl rfl 44 _ (HB6.out _) (by kernel_rfl) rfl (by simp [ansL, Value.oneCell']) ?_))
  refine bodyPost_ret (results_single rfl (.cell (w.heap.size + 1) 44 (ansL er y (.slice none 0 0)).toArray (0, 0) _ rfl (setRow_heap _ _ _ _ _ _ (HB6.out _)) Tryz.underlying44 rfl (by kernel_rfl) .nil)) rfl ?_
  exact ⟨⟨y, .slice none 0 0, rfl, rfl, rfl⟩, ans_fin HM.out HBX.out HF.out.1 HF.out.2 ((HON.put 0 _ (by omega) (by omega)).row _ (by omega) (by omega))⟩

set_option maxHeartbeats 2000000 in
set_option maxRecDepth 100000 in
theorem call_get (w : World) (g : Nat) (S : St) (n : Nat) (Q F : Nat → Prop) (b k pf fr : List UInt8) (dv : Value) (id nn a fi mo : Int) (hb : b.length ≤ 100000) (hk : k.length ≤ 100000) (hl : (S.V b k).length ≤ 100000) (hd : ∀ y ∈ S.V b k, y.dt.length ≤ 1000000) (hm : HasM w g S n Q F) (hT : Tabs w) :
    Calls Tryz.prog 13 #[.pointer (some ⟨g, 0, none⟩), .agg #[.int .i64 5, .string (mkS b), .string (mkS k), dv, .int .i64 nn, .int .i64 a, .string (mkS pf), .string (mkS fr), .int .i64 fi, .int .i64 mo], .int .i64 id] w
      (AnsIs (fun y dv w' => (S.findE b k nn 0 ≠ 0 ∧ y = kp0 ∧ dv = .slice none 0 0) ∨ (S.findE b k nn 0 = 0 ∧ S.getK b k nn = some y ∧ S.getE b k nn = 16 ∧ y.mark = true ∧ dv = .slice none 0 0) ∨ (S.findE b k nn 0 = 0 ∧ S.getK b k nn = some y ∧ S.getE b k nn = 0 ∧ y.mark = false ∧ ∃ (A : Option Addr) (c : Nat), dv = .slice A y.dt.length c ∧ y.dt.length ≤ c ∧ ∃ Fb, DatF w' Fb A y.dt ∧ ∀ j, Fb j → IsC w' j ∧ w.heap.size ≤ j)) S n Q F g (S.getE b k nn) w) := by
  obtain ⟨W3, hW3⟩ : ∃ W3, ((w.alloc (.cells #[.int .i64 5, .string (mkS b), .string (mkS k), dv, .int .i64 nn, .int .i64 a, .string (mkS pf), .string (mkS fr), .int .i64 fi, .int .i64 mo] 34)).alloc (.cells ans0 44)).alloc (.cells ans0 44) = W3 := ⟨_, rfl⟩
  have hbx := boxed_mk w #[.int .i64 5, .string (mkS b), .string (mkS k), dv, .int .i64 nn, .int .i64 a, .string (mkS pf), .string (mkS fr), .int .i64 fi, .int .i64 mo]
  rw [hW3] at hbx
  obtain ⟨er, her⟩ : ∃ er, S.getE b k nn = er := ⟨_, rfl⟩
  have HC : Hid (Calls Tryz.prog 20 #[.pointer (some ⟨g, 0, none⟩), .string (mkS b), .string (mkS k), .int .i64 nn] W3 fun e w' => (∃ (y : Kp) (A9 : Option Addr) (m9 c9 : Nat), e = .returned (.tuple #[.agg #[.int .i64 y.id, .bool y.mark, .int .i64 y.sz, .int .u32 y.sum], .slice A9 m9 c9, .int .i64 er]) ∧ Hid ((S.findE b k nn 0 ≠ 0 ∧ y = kp0 ∧ Value.slice A9 m9 c9 = .slice none 0 0) ∨ (S.findE b k nn 0 = 0 ∧ S.getK b k nn = some y ∧ er = 16 ∧ y.mark = true ∧ Value.slice A9 m9 c9 = .slice none 0 0) ∨
        (S.findE b k nn 0 = 0 ∧ S.getK b k nn = some y ∧ er = 0 ∧ y.mark = false ∧ ∃ (A : Option Addr) (c : Nat), Value.slice A9 m9 c9 = .slice A y.dt.length c ∧ y.dt.length ≤ c ∧ ∃ Fb, DatF w' Fb A y.dt ∧ ∀ j, Fb j → IsC w' j ∧ W3.heap.size < j))) ∧ Hid ((∃ F', HasM w' g (S) (n + 1) Q F' ∧ ∀ j, F' j → F j ∨ W3.heap.size ≤ j) ∧ Moved Q W3 w') ∧ Hid (w'.heap[w.heap.size + 1]? = some (.cells ans0 44 (0, 0)) ∧ w'.heap[w.heap.size + 1 + 1]? = some (.cells ans0 44 (0, 0)) ∧ w.heap.size + 3 ≤ w'.heap.size)) :=
    (get_is W3 g S n Q F b k nn hb hk hl hd (hm.below hbx.b) (hT.below hbx.b)).mono fun e w' ⟨⟨y, v, h1, h4⟩, h3⟩ => by
      refine ⟨?_, ⟨⟨F, ((hm.below hbx.b).below h3).mono (by omega), fun j hj => .inl hj⟩, Moved.of_below h3⟩, boxed_after hbx hm.q (Moved.of_below (Q := Q) h3)⟩
      rw [her] at h1 h4
      rcases h4 with ⟨q1, q2, rfl⟩ | ⟨q1, q2, q3, q4, rfl⟩ | ⟨q1, q2, q3, q4, A, c, rfl, q5, q6⟩
      · exact ⟨y, none, 0, 0, h1, .inl ⟨q1, q2, rfl⟩⟩
      · exact ⟨y, none, 0, 0, h1, .inr (.inl ⟨q1, q2, q3, q4, rfl⟩)⟩
      · exact ⟨y, A, y.dt.length, c, h1, .inr (.inr ⟨q1, q2, q3, q4, A, c, rfl, q5, q6⟩)⟩
  rw [her]
  have HBX := Lib.hid hbx
  have HM := Lib.hid hm
  have HW3 := Lib.hid hW3
  obtain ⟨c0, c1, c2, c3, c4, c5, c6, c7, c8, c9⟩ := chAt_of hbx.k4
  clear c5 c6 c7 c8 c9
  clear hm hT hbx hW3 her hl hd
  go_enter Tryz.func13, Tryz.ntmps13
  go_upto_region 2 with (fail)
  rw [HW3.out]
  clear HW3
  go_wp2_with fail
  refine HC.out.mono ?_
  rintro e w4 ⟨⟨y, A9, m9, c9, rfl, HY⟩, HF, HB⟩
  obtain ⟨W5, W6, hW5, ⟨v0, v1, v2, v3⟩, HTH, hW6, HAA, HK7, HK6, HON⟩ := box_ver w w4 y HB.out.1 HB.out.2.1 HB.out.2.2
  have HW5 := Lib.hid hW5
  have HW6 := Lib.hid hW6
  clear hW5 hW6 HC
  go_upto_region 14 with (fail)
  rw [HW5.out]
  clear HW5
  have HK6h := Lib.hid HK6
  have HK7h := Lib.hid HK7
  have HTHh := Lib.hid HTH
  obtain ⟨z0, z1, z2, z3, z4, z5, z6, z7, z8, z9, z10⟩ := HAA
  have f0 := blk_frozen HK7 0
  have f5 := blk_frozen HK7 5
  clear HK6 HK7 HTH
  have HB6 : Hid (∀ u u', ((W6.setCell ⟨w.heap.size + 1 + 1, 5, none⟩ u).setCell ⟨w.heap.size + 1 + 1, 0, none⟩ u').heap[w.heap.size + 1]? = some (.cells ans0 44 (0, 0))) := fun u u' => blk_far (blk_far HK6h.out (by simp) u) (by simp) u'
  go_wp2_with (first | (refine wpList_store_mid rfl 38 (.tmp 78) (.tmp 75) rfl (w.heap.size + 1 + 1) 1 (verA y) rfl rfl HTHh.out (by kernel_rfl) (by simp [Value.oneCell']) ?_; rw [HW6.out]) | (refine wpList_store_row rfl 44 (.tmp 6) (.tmp 159) rfl (w.heap.size + 1) (ansL er y (.slice A9 m9 c9)).toArray rfl rfl 44 _ (HB6.out _ _) (by kernel_rfl) rfl (by simp [ansL, Value.oneCell']) ?_))
  refine bodyPost_ret (results_single rfl (.cell (w.heap.size + 1) 44 (ansL er y (.slice A9 m9 c9)).toArray (0, 0) _ rfl (setRow_heap _ _ _ _ _ _ (HB6.out _ _)) Tryz.underlying44 rfl (by kernel_rfl) .nil)) rfl ?_
  have hon : Only w.heap.size (w.heap.size + 3) w4 (((W6.setCell ⟨w.heap.size + 1 + 1, 5, none⟩ (.slice A9 m9 c9)).setCell ⟨w.heap.size + 1 + 1, 0, none⟩ (.int .i64 er)).setRow (w.heap.size + 1) (ansL er y (.slice A9 m9 c9)).toArray) := (((HON.put 5 _ (by omega) (by omega)).put 0 _ (by omega) (by omega)).row _ (by omega) (by omega))
  refine ⟨⟨y, .slice A9 m9 c9, rfl, ?_⟩, ans_fin HM.out HBX.out HF.out.1 HF.out.2 hon⟩
  have hs3 := HBX.out.s
  rcases HY.out with h | h | ⟨q1, q2, q3, q4, A, c, q5, q6, Fb, q7, q8⟩
  · exact .inl h
  · exact .inr (.inl h)
  · have hk : ∀ j, Fb j → _ := fun j hj => hon.block j (isC_lt (q8 j hj).1) (.inr (by have := (q8 j hj).2; omega))
    refine .inr (.inr ⟨q1, q2, q3, q4, A, c, q5, q6, Fb, q7.kept hk, fun j hj => ⟨?_, by have := (q8 j hj).2; omega⟩⟩)
    obtain ⟨a1, b1, c1, hh⟩ := (q8 j hj).1
    exact ⟨a1, b1, c1, (hk j hj).trans hh⟩

set_option maxHeartbeats 2000000 in
set_option maxRecDepth 100000 in
theorem call_head (w : World) (g : Nat) (S : St) (n : Nat) (Q F : Nat → Prop) (b k pf fr : List UInt8) (dv : Value) (id nn a fi mo : Int) (hb : b.length ≤ 100000) (hk : k.length ≤ 100000) (hl : (S.V b k).length ≤ 100000) (hd : ∀ y ∈ S.V b k, y.dt.length ≤ 1000000) (hm : HasM w g S n Q F) (hT : Tabs w) :
    Calls Tryz.prog 13 #[.pointer (some ⟨g, 0, none⟩), .agg #[.int .i64 6, .string (mkS b), .string (mkS k), dv, .int .i64 nn, .int .i64 a, .string (mkS pf), .string (mkS fr), .int .i64 fi, .int .i64 mo], .int .i64 id] w
      (AnsIs (fun y dv _ => ((S.findE b k nn 0 ≠ 0 ∧ y = kp0) ∨ (S.findE b k nn 0 = 0 ∧ S.getK b k nn = some y)) ∧ dv = .slice none 0 0) S n Q F g (S.getE b k nn) w) := by
  obtain ⟨W3, hW3⟩ : ∃ W3, ((w.alloc (.cells #[.int .i64 6, .string (mkS b), .string (mkS k), dv, .int .i64 nn, .int .i64 a, .string (mkS pf), .string (mkS fr), .int .i64 fi, .int .i64 mo] 34)).alloc (.cells ans0 44)).alloc (.cells ans0 44) = W3 := ⟨_, rfl⟩
  have hbx := boxed_mk w #[.int .i64 6, .string (mkS b), .string (mkS k), dv, .int .i64 nn, .int .i64 a, .string (mkS pf), .string (mkS fr), .int .i64 fi, .int .i64 mo]
  rw [hW3] at hbx
  obtain ⟨er, her⟩ : ∃ er, S.getE b k nn = er := ⟨_, rfl⟩
  have HC : Hid (Calls Tryz.prog 33 #[.pointer (some ⟨g, 0, none⟩), .string (mkS b), .string (mkS k), .int .i64 nn] W3 fun e w' => (∃ y : Kp, e = .returned (.tuple #[.agg #[.int .i64 y.id, .bool y.mark, .int .i64 y.sz, .int .u32 y.sum], .int .i64 er]) ∧ Hid ((S.findE b k nn 0 ≠ 0 ∧ y = kp0) ∨ (S.findE b k nn 0 = 0 ∧ S.getK b k nn = some y))) ∧ Hid ((∃ F', HasM w' g (S) (n + 1) Q F' ∧ ∀ j, F' j → F j ∨ W3.heap.size ≤ j) ∧ Moved Q W3 w') ∧ Hid (w'.heap[w.heap.size + 1]? = some (.cells ans0 44 (0, 0)) ∧ w'.heap[w.heap.size + 1 + 1]? = some (.cells ans0 44 (0, 0)) ∧ w.heap.size + 3 ≤ w'.heap.size)) :=
    (head_is W3 g S n Q F b k nn hb hk hl hd (hm.below hbx.b) (hT.below hbx.b)).mono fun e w' ⟨⟨y, h1, h4⟩, h3⟩ => ⟨⟨y, by rw [h1, her]; rfl, h4⟩, ⟨⟨F, ((hm.below hbx.b).below h3).mono (by omega), fun j hj => .inl hj⟩, Moved.of_below h3⟩, boxed_after hbx hm.q (Moved.of_below (Q := Q) h3)⟩
  rw [her]
  have HBX := Lib.hid hbx
  have HM := Lib.hid hm
  have HW3 := Lib.hid hW3
  obtain ⟨c0, c1, c2, c3, c4, c5, c6, c7, c8, c9⟩ := chAt_of hbx.k4
  clear c5 c6 c7 c8 c9
  clear hm hT hbx hW3 her hl hd
  go_enter Tryz.func13, Tryz.ntmps13
  go_upto_region 2 with (fail)
  rw [HW3.out]
  clear HW3
  go_wp2_with fail
  refine HC.out.mono ?_
  rintro e w4 ⟨⟨y, rfl, HY⟩, HF, HB⟩
  obtain ⟨W5, W6, hW5, ⟨v0, v1, v2, v3⟩, HTH, hW6, HAA, HK7, HK6, HON⟩ := box_ver w w4 y HB.out.1 HB.out.2.1 HB.out.2.2
  have HW5 := Lib.hid hW5
  have HW6 := Lib.hid hW6
  clear hW5 hW6 HC
  go_upto_region 17 with (fail)
  rw [HW5.out]
  clear HW5
  have HK6h := Lib.hid HK6
  have HK7h := Lib.hid HK7
  have HTHh := Lib.hid HTH
  obtain ⟨z0, z1, z2, z3, z4, z5, z6, z7, z8, z9, z10⟩ := HAA
  have f0 := blk_frozen HK7 0
  have f5 := blk_frozen HK7 5
  clear HK6 HK7 HTH
  have HB6 : Hid (∀ u, (W6.setCell ⟨w.heap.size + 1 + 1, 0, none⟩ u).heap[w.heap.size + 1]? = some (.cells ans0 44 (0, 0))) := fun u => blk_far HK6h.out (by simp) u
  go_wp2_with (first | (refine wpList_store_mid rfl 38 (.tmp 96) (.tmp 94) rfl (w.heap.size + 1 + 1) 1 (verA y) rfl rfl HTHh.out (by kernel_rfl) (by simp [Value.oneCell']) ?_; rw [HW6.out]) | (refine wpList_store_row rfl 44 (.tmp 6) (.tmp 159) rfl (w.heap.size + 1) (ansL er y (.slice none 0 0)).toArray rfl rfl 44 _ (HB6.out _) (by kernel_rfl) rfl (by simp [ansL, Value.oneCell']) ?_))
  refine bodyPost_ret (results_single rfl (.cell (w.heap.size + 1) 44 (ansL er y (.slice none 0 0)).toArray (0, 0) _ rfl (setRow_heap _ _ _ _ _ _ (HB6.out _)) Tryz.underlying44 rfl (by kernel_rfl) .nil)) rfl ?_
  exact ⟨⟨y, .slice none 0 0, rfl, HY.out, rfl⟩, ans_fin HM.out HBX.out HF.out.1 HF.out.2 ((HON.put 0 _ (by omega) (by omega)).row _ (by omega) (by omega))⟩
end Go.Proofs.YtjbjcfnbgcloiaaGreatDoor
