/- Call of the statements of layer 22: one choice on a model. -/
import Derived.Test.YtjbjcfnbgcloiaaDoorCb2
import Derived.Deep.MidRow
import Derived.Laws.EntriesVeiled
set_option linter.unusedSimpArgs false
set_option linter.unusedVariables false


set_option linter.unusedSimpArgs false
set_option linter.unusedVariables false
namespace Go.Proofs.YtjbjcfnbgcloiaaDoor
open Go.RowKit Nam YtjbjcfnbgcloiaaDoorW.PrintWords

/-- An answer's cells. -/
def ansL (err : Int) (y : Kp) (dv : Value) : List Value := [.int .i64 err, .int .i64 y.id, .bool y.mark, .int .i64 y.sz, .int .u32 y.sum, dv, .slice none 0 0, .bool false, .string ⟨#[]⟩, .int .i64 0, .slice none 0 0]
abbrev ans0 : Array Value := #[.int .i64 0, .int .i64 0, .bool false, .int .i64 0, .int .u32 0, .slice none 0 0, .slice none 0 0, .bool false, .string ⟨#[]⟩, .int .i64 0, .slice none 0 0]
def AnsIs (P : Kp → Value → World → Prop) (S' : St) (n : Nat) (Q F : Nat → Prop) (g : Nat) (err : Int) (w : World) (e : Ending) (w' : World) : Prop :=
  (∃ y dv, e = .returned (.agg (ansL err y dv).toArray) ∧ P y dv w') ∧ (∃ F', HasM w' g S' (n + 1) Q F' ∧ ∀ j, F' j → F j ∨ w.heap.size ≤ j) ∧ Moved Q w w'

/-- The boxes of Call, as its choice begins. -/
structure Boxed (w W : World) (cs : Array Value) : Prop where
  b : Below w.heap.size w W
  s : W.heap.size = w.heap.size + 3
  k4 : W.heap[w.heap.size]? = some (.cells cs 33 (0, 0))
  k6 : W.heap[w.heap.size + 1]? = some (.cells ans0 42 (0, 0))
  k7 : W.heap[w.heap.size + 2]? = some (.cells ans0 42 (0, 0))
theorem boxed_mk (w : World) (cs : Array Value) : Boxed w (((w.alloc (.cells cs 33)).alloc (.cells ans0 42)).alloc (.cells ans0 42)) cs := by
  obtain ⟨W1, h1⟩ : ∃ W1, w.alloc (.cells cs 33) = W1 := ⟨_, rfl⟩
  obtain ⟨W2, h2⟩ : ∃ W2, W1.alloc (.cells ans0 42) = W2 := ⟨_, rfl⟩
  have s1 : W1.heap.size = w.heap.size + 1 := by rw [← h1]; simp
  have s2 : W2.heap.size = w.heap.size + 2 := by rw [← h2]; simp [s1]
  have b1 : Below w.heap.size w W1 := by rw [← h1]; exact (Below.refl _ _).alloc (Nat.le_refl _) _
  have b2 : Below W1.heap.size W1 W2 := by rw [← h2]; exact (Below.refl _ _).alloc (Nat.le_refl _) _
  have b3 : Below W2.heap.size W2 (W2.alloc (.cells ans0 42)) := (Below.refl _ _).alloc (Nat.le_refl _) _
  rw [h1, h2]
  refine ⟨(b1.trans (b2.mono b1.size)).trans (b3.mono (by omega)), by simp [s2], ?_, ?_, ?_⟩
  · rw [b3.block _ (by omega), b2.block _ (by omega), ← h1]
    exact heap_alloc_new w _
  · rw [b3.block _ (by omega), ← s1, ← h2]
    exact heap_alloc_new W1 _
  · rw [← s2]
    exact heap_alloc_new W2 _

/-- Only the blocks from B to C, and new ones, are others. -/
structure Only (B C : Nat) (w V : World) : Prop where
  os : V.os = w.os
  tape : V.tape = w.tape
  output : V.output = w.output
  size : w.heap.size ≤ V.heap.size
  block : ∀ k, k < w.heap.size → (k < B ∨ C ≤ k) → V.heap[k]? = w.heap[k]?
theorem Only.refl (B C : Nat) (w : World) : Only B C w w := ⟨rfl, rfl, rfl, Nat.le_refl _, fun _ _ _ => rfl⟩
theorem Only.of_below {B C : Nat} {w a V : World} (h : Only B C w a) (hb : Below a.heap.size a V) : Only B C w V :=
  ⟨hb.os.trans h.os, hb.tape.trans h.tape, hb.output.trans h.output, Nat.le_trans h.size hb.size, fun k hk hh => (hb.block k (Nat.lt_of_lt_of_le hk h.size)).trans (h.block k hk hh)⟩
theorem Only.put {B C : Nat} {w a : World} (h : Only B C w a) {g : Nat} (i : Nat) (u : Value) (h1 : B ≤ g) (h2 : g < C ∨ w.heap.size ≤ g) : Only B C w (a.setCell ⟨g, i, none⟩ u) := by
  refine ⟨by simpa [World.setCell] using h.os, by simpa [World.setCell] using h.tape, by simpa [World.setCell] using h.output, by simpa [World.setCell] using h.size, fun k hk hh => ?_⟩
  rw [Below.heap_setCell a ⟨g, i, none⟩ u k (by show k ≠ g; omega)]
  exact h.block k hk hh
theorem Only.row {B C : Nat} {w a : World} (h : Only B C w a) {g : Nat} (cs : Array Value) (h1 : B ≤ g) (h2 : g < C ∨ w.heap.size ≤ g) : Only B C w (a.setRow g cs) := by
  refine ⟨h.os, h.tape, h.output, by simpa [World.setRow] using h.size, fun k hk hh => ?_⟩
  rw [setRow_other _ _ _ _ (by omega)]
  exact h.block k hk hh
/-- What the call of the model has left, and the boxes; then only the boxes turn. -/
theorem ans_fin {w W3 w4 V : World} {g n n' : Nat} {S S' : St} {Q F : Nat → Prop} {cs : Array Value} (hm : HasM w g S n' Q F) (hbx : Boxed w W3 cs) (hf : ∃ F', HasM w4 g S' (n + 1) Q F' ∧ ∀ j, F' j → F j ∨ W3.heap.size ≤ j) (hmv : Moved Q W3 w4) (ho : Only w.heap.size (w.heap.size + 3) w4 V) :
    (∃ F', HasM V g S' (n + 1) Q F' ∧ ∀ j, F' j → F j ∨ w.heap.size ≤ j) ∧ Moved Q w V := by
  obtain ⟨F', h1, h2⟩ := hf
  have hs := hbx.s
  refine ⟨⟨F', h1.kept (fun k hk => ho.block k (isC_lt (h1.f k hk)) ?_) (fun k hk => ho.block k (isM_lt (h1.q k hk)) (.inl (isM_lt (hm.q k hk)))), fun j hj => (h2 j hj).imp_right fun e => by omega⟩, ?_⟩
  · rcases h2 k hk with h | h
    · exact .inl (isC_lt (hm.f k h))
    · exact .inr (by omega)
  · refine ⟨ho.os.trans (hmv.os.trans hbx.b.os), ho.tape.trans (hmv.tape.trans hbx.b.tape), ho.output.trans (hmv.output.trans hbx.b.output), Nat.le_trans hbx.b.size (Nat.le_trans hmv.size ho.size), fun k hk hn => ?_⟩
    rw [ho.block k (by have := hmv.size; omega) (.inl hk), hmv.block k (by omega) hn, hbx.b.block k hk]
/-- The boxes behind the call. -/
theorem boxed_after {w W3 w4 : World} {Q : Nat → Prop} {cs : Array Value} (hbx : Boxed w W3 cs) (hq : ∀ k, Q k → IsM w k) (hmv : Moved Q W3 w4) :
    w4.heap[w.heap.size + 1]? = some (.cells ans0 42 (0, 0)) ∧ w4.heap[w.heap.size + 1 + 1]? = some (.cells ans0 42 (0, 0)) ∧ w.heap.size + 3 ≤ w4.heap.size := by
  have hs := hbx.s
  refine ⟨?_, ?_, by have := hmv.size; omega⟩
  · rw [hmv.block _ (by omega) (fun h => by have := isM_lt (hq _ h); omega)]
    exact hbx.k6
  · rw [hmv.block _ (by omega) (fun h => by have := isM_lt (hq _ h); omega)]
    exact hbx.k7

/-- An empty answer's cells. -/
structure Zeros (w : World) (g : Nat) : Prop where
  z0 : w.cell? ⟨g, 0, none⟩ = some (.int .i64 0)
  z1 : w.cell? ⟨g, 1, none⟩ = some (.int .i64 0)
  z2 : w.cell? ⟨g, 2, none⟩ = some (.bool false)
  z3 : w.cell? ⟨g, 3, none⟩ = some (.int .i64 0)
  z4 : w.cell? ⟨g, 4, none⟩ = some (.int .u32 0)
  z5 : w.cell? ⟨g, 5, none⟩ = some (.slice none 0 0)
  z6 : w.cell? ⟨g, 6, none⟩ = some (.slice none 0 0)
  z7 : w.cell? ⟨g, 7, none⟩ = some (.bool false)
  z8 : w.cell? ⟨g, 8, none⟩ = some (.string ⟨#[]⟩)
  z9 : w.cell? ⟨g, 9, none⟩ = some (.int .i64 0)
  z10 : w.cell? ⟨g, 10, none⟩ = some (.slice none 0 0)
theorem zeros_of {w : World} {g : Nat} (h : w.heap[g]? = some (.cells ans0 42 (0, 0))) : Zeros w g :=
  ⟨(blk_cell h 0).trans rfl, (blk_cell h 1).trans rfl, (blk_cell h 2).trans rfl, (blk_cell h 3).trans rfl, (blk_cell h 4).trans rfl, (blk_cell h 5).trans rfl, (blk_cell h 6).trans rfl, (blk_cell h 7).trans rfl, (blk_cell h 8).trans rfl, (blk_cell h 9).trans rfl, (blk_cell h 10).trans rfl⟩
/-- A choice's cells. -/
structure ChAt (w : World) (g : Nat) (d : Int) (bk ky : List UInt8) (dv : Value) (n a : Int) (pf fr : List UInt8) (fi mo : Int) : Prop where
  c0 : w.cell? ⟨g, 0, none⟩ = some (.int .i64 d)
  c1 : w.cell? ⟨g, 1, none⟩ = some (.string (mkS bk))
  c2 : w.cell? ⟨g, 2, none⟩ = some (.string (mkS ky))
  c3 : w.cell? ⟨g, 3, none⟩ = some dv
  c4 : w.cell? ⟨g, 4, none⟩ = some (.int .i64 n)
  c5 : w.cell? ⟨g, 5, none⟩ = some (.int .i64 a)
  c6 : w.cell? ⟨g, 6, none⟩ = some (.string (mkS pf))
  c7 : w.cell? ⟨g, 7, none⟩ = some (.string (mkS fr))
  c8 : w.cell? ⟨g, 8, none⟩ = some (.int .i64 fi)
  c9 : w.cell? ⟨g, 9, none⟩ = some (.int .i64 mo)
theorem chAt_of {w : World} {g : Nat} {d : Int} {bk ky : List UInt8} {dv : Value} {n a : Int} {pf fr : List UInt8} {fi mo : Int}
    (h : w.heap[g]? = some (.cells #[.int .i64 d, .string (mkS bk), .string (mkS ky), dv, .int .i64 n, .int .i64 a, .string (mkS pf), .string (mkS fr), .int .i64 fi, .int .i64 mo] 33 (0, 0))) : ChAt w g d bk ky dv n a pf fr fi mo :=
  ⟨(blk_cell h 0).trans rfl, (blk_cell h 1).trans rfl, (blk_cell h 2).trans rfl, (blk_cell h 3).trans rfl, (blk_cell h 4).trans rfl, (blk_cell h 5).trans rfl, (blk_cell h 6).trans rfl, (blk_cell h 7).trans rfl, (blk_cell h 8).trans rfl, (blk_cell h 9).trans rfl⟩

set_option maxHeartbeats 2000000 in
set_option maxRecDepth 100000 in
theorem call_era (w : World) (g : Nat) (S : St) (n : Nat) (Q F : Nat → Prop) (b k pf fr : List UInt8) (dv : Value) (id nn a fi mo : Int) (hb : b.length ≤ 100000) (hk : k.length ≤ 100000) (hl : (S.V b k).length ≤ 1000) (hn : n ≤ 100000) (hm : HasM w g S n Q F) (hT : Tabs w) :
    Calls Tryd.prog 10 #[.pointer (some ⟨g, 0, none⟩), .agg #[.int .i64 8, .string (mkS b), .string (mkS k), dv, .int .i64 nn, .int .i64 a, .string (mkS pf), .string (mkS fr), .int .i64 fi, .int .i64 mo], .int .i64 id] w
      (AnsIs (fun y dv _ => y = kp0 ∧ dv = .slice none 0 0) (S.doEra b k nn) n Q F g (S.findE b k nn 1) w) := by
  obtain ⟨W3, hW3⟩ : ∃ W3, ((w.alloc (.cells #[.int .i64 8, .string (mkS b), .string (mkS k), dv, .int .i64 nn, .int .i64 a, .string (mkS pf), .string (mkS fr), .int .i64 fi, .int .i64 mo] 33)).alloc (.cells ans0 42)).alloc (.cells ans0 42) = W3 := ⟨_, rfl⟩
  have hbx := boxed_mk w #[.int .i64 8, .string (mkS b), .string (mkS k), dv, .int .i64 nn, .int .i64 a, .string (mkS pf), .string (mkS fr), .int .i64 fi, .int .i64 mo]
  rw [hW3] at hbx
  have HC : Hid (Calls Tryd.prog 24 #[.pointer (some ⟨g, 0, none⟩), .string (mkS b), .string (mkS k), .int .i64 nn] W3 fun e w' => e = .returned (.int .i64 (S.findE b k nn 1)) ∧ Hid ((∃ F', HasM w' g (S.doEra b k nn) (n + 1) Q F' ∧ ∀ j, F' j → F j ∨ W3.heap.size ≤ j) ∧ Moved Q W3 w') ∧ Hid (w'.heap[w.heap.size + 1]? = some (.cells ans0 42 (0, 0)) ∧ w'.heap[w.heap.size + 1 + 1]? = some (.cells ans0 42 (0, 0)) ∧ w.heap.size + 3 ≤ w'.heap.size)) :=
    (erase_is W3 g S n Q F b k nn hb hk hl hn (hm.below hbx.b) (hT.below hbx.b)).mono fun e w' ⟨h1, h2, h3⟩ => ⟨h1, ⟨h2, h3⟩, boxed_after hbx hm.q h3⟩
  have HBX := Lib.hid hbx
  have HM := Lib.hid hm
  have HW3 := Lib.hid hW3
  obtain ⟨c0, c1, c2, c3, c4, c5, c6, c7, c8, c9⟩ := chAt_of hbx.k4
  clear c3 c5 c6 c7 c8 c9
  obtain ⟨er, her⟩ : ∃ er, S.findE b k nn 1 = er := ⟨_, rfl⟩
  rw [her] at HC ⊢
  clear hm hT hl hbx hW3 her
  go_enter Tryd.func10, Tryd.ntmps10
  go_upto_region 2 with (fail)
  rw [HW3.out]
  clear HW3
  go_wp2_with fail
  refine HC.out.mono ?_
  rintro e w4 ⟨rfl, HF, HB⟩
  obtain ⟨z0, z1, z2, z3, z4, z5, z6, z7, z8, z9, z10⟩ := zeros_of HB.out.2.1
  have f0 := blk_frozen HB.out.2.1 0
  have HB6 : Hid (∀ u, (w4.setCell ⟨w.heap.size + 1 + 1, 0, none⟩ u).heap[w.heap.size + 1]? = some (.cells ans0 42 (0, 0))) := fun u => blk_far HB.out.1 (by simp) u
  go_wp2_with (refine wpList_store_row rfl 42 (.tmp 6) (.tmp 159) rfl (w.heap.size + 1) (ansL er kp0 (.slice none 0 0)).toArray rfl rfl 42 _ (HB6.out _) (by kernel_rfl) rfl (by simp [ansL, Value.oneCell']) ?_)
  refine bodyPost_ret (results_single rfl (.cell (w.heap.size + 1) 42 (ansL er kp0 (.slice none 0 0)).toArray (0, 0) _ rfl (setRow_heap _ _ _ _ _ _ (HB6.out _)) Tryd.underlying42 rfl (by kernel_rfl) .nil)) rfl ?_
  exact ⟨⟨kp0, .slice none 0 0, rfl, rfl, rfl⟩, ans_fin HM.out HBX.out HF.out.1 HF.out.2 (((Only.refl _ _ _).put 0 _ (by omega) (by omega)).row _ (by omega) (by omega))⟩
end Go.Proofs.YtjbjcfnbgcloiaaDoor

/- Call of the statements of layer 22: put, get, head, delete. -/
namespace Go.Proofs.YtjbjcfnbgcloiaaDoor
open Go.RowKit Nam YtjbjcfnbgcloiaaDoorW.PrintWords

abbrev verA (y : Kp) : Array Value := #[.int .i64 y.id, .bool y.mark, .int .i64 y.sz, .int .u32 y.sum]
structure AnsAt (w : World) (g : Nat) (y : Kp) : Prop where
  z0 : w.cell? ⟨g, 0, none⟩ = some (.int .i64 0)
  z1 : w.cell? ⟨g, 1, none⟩ = some (.int .i64 y.id)
  z2 : w.cell? ⟨g, 2, none⟩ = some (.bool y.mark)
  z3 : w.cell? ⟨g, 3, none⟩ = some (.int .i64 y.sz)
  z4 : w.cell? ⟨g, 4, none⟩ = some (.int .u32 y.sum)
  z5 : w.cell? ⟨g, 5, none⟩ = some (.slice none 0 0)
  z6 : w.cell? ⟨g, 6, none⟩ = some (.slice none 0 0)
  z7 : w.cell? ⟨g, 7, none⟩ = some (.bool false)
  z8 : w.cell? ⟨g, 8, none⟩ = some (.string ⟨#[]⟩)
  z9 : w.cell? ⟨g, 9, none⟩ = some (.int .i64 0)
  z10 : w.cell? ⟨g, 10, none⟩ = some (.slice none 0 0)
structure VerAt (w : World) (g : Nat) (y : Kp) : Prop where
  v0 : w.cell? ⟨g, 0, none⟩ = some (.int .i64 y.id)
  v1 : w.cell? ⟨g, 1, none⟩ = some (.bool y.mark)
  v2 : w.cell? ⟨g, 2, none⟩ = some (.int .i64 y.sz)
  v3 : w.cell? ⟨g, 3, none⟩ = some (.int .u32 y.sum)
/-- The version's box, and the version in the answer's. -/
theorem box_ver (w w4 : World) (y : Kp) (k6 : w4.heap[w.heap.size + 1]? = some (.cells ans0 42 (0, 0))) (k7 : w4.heap[w.heap.size + 1 + 1]? = some (.cells ans0 42 (0, 0))) (hs : w.heap.size + 3 ≤ w4.heap.size) :
    ∃ W5 W6, w4.alloc (.cells #[.int .i64 y.id, .bool y.mark, .int .i64 y.sz, .int .u32 y.sum] 36) = W5 ∧ VerAt W5 w4.heap.size y ∧ W5.there (w.heap.size + 1 + 1) 1 4 ∧ W5.setCells (w.heap.size + 1 + 1) 1 (verA y).toList = W6 ∧ AnsAt W6 (w.heap.size + 1 + 1) y ∧
      W6.heap[w.heap.size + 1 + 1]? = some (.cells (ansL 0 y (.slice none 0 0)).toArray 42 (0, 0)) ∧ W6.heap[w.heap.size + 1]? = some (.cells ans0 42 (0, 0)) ∧ Only w.heap.size (w.heap.size + 3) w4 W6 := by
  have hb5 : Below w4.heap.size w4 (w4.alloc (.cells #[.int .i64 y.id, .bool y.mark, .int .i64 y.sz, .int .u32 y.sum] 36)) := (Below.refl _ _).alloc (Nat.le_refl _) _
  have hn := blk_new w4 (.cells #[.int .i64 y.id, .bool y.mark, .int .i64 y.sz, .int .u32 y.sum] 36)
  generalize w4.alloc (.cells #[.int .i64 y.id, .bool y.mark, .int .i64 y.sz, .int .u32 y.sum] 36) = W5 at hb5 hn
  have q6 := blk_below k6 hb5
  have q7 := blk_below k7 hb5
  obtain ⟨cur, h1, h2, h3⟩ := setCells_row (verA y).toList 1 W5 ans0 q7 (by show 1 + 4 ≤ 11; omega)
  have h4 : cur = (ansL 0 y (.slice none 0 0)).toArray := Array.toList_inj.1 h3
  subst h4
  refine ⟨W5, _, rfl, ⟨(blk_cell hn 0).trans rfl, (blk_cell hn 1).trans rfl, (blk_cell hn 2).trans rfl, (blk_cell hn 3).trans rfl⟩, fun j hj => ⟨?_, blk_frozen q7 _⟩, rfl,
    ⟨(blk_cell h1 0).trans rfl, (blk_cell h1 1).trans rfl, (blk_cell h1 2).trans rfl, (blk_cell h1 3).trans rfl, (blk_cell h1 4).trans rfl, (blk_cell h1 5).trans rfl, (blk_cell h1 6).trans rfl, (blk_cell h1 7).trans rfl, (blk_cell h1 8).trans rfl, (blk_cell h1 9).trans rfl, (blk_cell h1 10).trans rfl⟩, h1, ?_, ?_⟩
  · rw [blk_cell q7]
    have : j = 0 ∨ j = 1 ∨ j = 2 ∨ j = 3 := by omega
    rcases this with rfl | rfl | rfl | rfl <;> rfl
  · rw [setCells_far _ _ _ (by omega)]
    exact q6
  · have hh := setCells_same (w.heap.size + 1 + 1) (verA y).toList 1 W5
    refine ⟨hh.1.trans hb5.os, hh.2.1.trans hb5.tape, hh.2.2.1.trans hb5.output, by rw [hh.2.2.2]; exact hb5.size, fun k hk hc => ?_⟩
    rw [setCells_far _ _ _ (by omega)]
    exact hb5.block k hk

set_option maxHeartbeats 2000000 in
set_option maxRecDepth 100000 in
theorem call_put (w : World) (g : Nat) (S : St) (n : Nat) (Q F : Nat → Prop) (b k d pf fr : List UInt8) (A : Option Addr) (c : Nat) (id nn a fi mo : Int) (hb : b.length ≤ 100000) (hk : k.length ≤ 100000) (hd : d.length ≤ 1000000) (hn : n ≤ 100000) (hm : HasM w g S n Q F)
    (hC : ∀ V, Below w.heap.size w V → (Kd.int .u8).C V A d.length (byN d)) (hT : Tabs w) :
    Calls Tryd.prog 10 #[.pointer (some ⟨g, 0, none⟩), .agg #[.int .i64 4, .string (mkS b), .string (mkS k), .slice A d.length c, .int .i64 nn, .int .i64 a, .string (mkS pf), .string (mkS fr), .int .i64 fi, .int .i64 mo], .int .i64 id] w
      (AnsIs (fun y dv _ => y = (if S.putE id b k d = 0 then kpOf id d else kp0) ∧ dv = .slice none 0 0) (S.doPut id b k d) n Q F g (S.putE id b k d) w) := by
  obtain ⟨W3, hW3⟩ : ∃ W3, ((w.alloc (.cells #[.int .i64 4, .string (mkS b), .string (mkS k), .slice A d.length c, .int .i64 nn, .int .i64 a, .string (mkS pf), .string (mkS fr), .int .i64 fi, .int .i64 mo] 33)).alloc (.cells ans0 42)).alloc (.cells ans0 42) = W3 := ⟨_, rfl⟩
  have hbx := boxed_mk w #[.int .i64 4, .string (mkS b), .string (mkS k), .slice A d.length c, .int .i64 nn, .int .i64 a, .string (mkS pf), .string (mkS fr), .int .i64 fi, .int .i64 mo]
  rw [hW3] at hbx
  obtain ⟨y, hy⟩ : ∃ y, (if S.putE id b k d = 0 then kpOf id d else kp0) = y := ⟨_, rfl⟩
  obtain ⟨er, her⟩ : ∃ er, S.putE id b k d = er := ⟨_, rfl⟩
  have HC : Hid (Calls Tryd.prog 17 #[.pointer (some ⟨g, 0, none⟩), .int .i64 id, .string (mkS b), .string (mkS k), .slice A d.length c] W3 fun e w' => e = .returned (.tuple #[.agg #[.int .i64 y.id, .bool y.mark, .int .i64 y.sz, .int .u32 y.sum], .int .i64 er]) ∧ Hid ((∃ F', HasM w' g (S.doPut id b k d) (n + 1) Q F' ∧ ∀ j, F' j → F j ∨ W3.heap.size ≤ j) ∧ Moved Q W3 w') ∧ Hid (w'.heap[w.heap.size + 1]? = some (.cells ans0 42 (0, 0)) ∧ w'.heap[w.heap.size + 1 + 1]? = some (.cells ans0 42 (0, 0)) ∧ w.heap.size + 3 ≤ w'.heap.size)) :=
    (put_is W3 g S n Q F id b k d A c hb hk hd hn (hm.below hbx.b) (hC _ hbx.b) (hT.below hbx.b)).mono fun e w' ⟨h1, h2, h3⟩ => ⟨by rw [h1, hy, her]; rfl, ⟨h2, h3⟩, boxed_after hbx hm.q h3⟩
  rw [her] at hy ⊢
  rw [hy]
  have HBX := Lib.hid hbx
  have HM := Lib.hid hm
  have HW3 := Lib.hid hW3
  obtain ⟨c0, c1, c2, c3, c4, c5, c6, c7, c8, c9⟩ := chAt_of hbx.k4
  clear c5 c6 c7 c8 c9
  clear hm hT hbx hW3 hy her hC
  go_enter Tryd.func10, Tryd.ntmps10
  go_upto_region 2 with (fail)
  rw [HW3.out]
  clear HW3
  go_wp2_with fail
  refine HC.out.mono ?_
  rintro e w4 ⟨rfl, HF, HB⟩
  obtain ⟨W5, W6, hW5, ⟨v0, v1, v2, v3⟩, HTH, hW6, HAA, HK7, HK6, HON⟩ := box_ver w w4 y HB.out.1 HB.out.2.1 HB.out.2.2
  have HW5 := Lib.hid hW5
  have HW6 := Lib.hid hW6
  clear hW5 hW6 HC
  go_upto_region 11 with (fail)
  rw [HW5.out]
  clear HW5
  have HK6h := Lib.hid HK6
  have HK7h := Lib.hid HK7
  have HTHh := Lib.hid HTH
  obtain ⟨z0, z1, z2, z3, z4, z5, z6, z7, z8, z9, z10⟩ := HAA
  have f0 := blk_frozen HK7 0
  have f5 := blk_frozen HK7 5
  clear HK6 HK7 HTH
  have HB6 : Hid (∀ u, (W6.setCell ⟨w.heap.size + 1 + 1, 0, none⟩ u).heap[w.heap.size + 1]? = some (.cells ans0 42 (0, 0))) := fun u => blk_far HK6h.out (by simp) u
  go_wp2_with (first | (refine wpList_store_mid rfl 36 (.tmp 59) (.tmp 57) rfl (w.heap.size + 1 + 1) 1 (verA y) rfl rfl HTHh.out (by kernel_rfl) (by simp [Value.oneCell']) ?_; rw [HW6.out]) | (refine wpList_store_row rfl 42 (.tmp 6) (.tmp 159) rfl (w.heap.size + 1) (ansL er y (.slice none 0 0)).toArray rfl rfl 42 _ (HB6.out _) (by kernel_rfl) rfl (by simp [ansL, Value.oneCell']) ?_))
  refine bodyPost_ret (results_single rfl (.cell (w.heap.size + 1) 42 (ansL er y (.slice none 0 0)).toArray (0, 0) _ rfl (setRow_heap _ _ _ _ _ _ (HB6.out _)) Tryd.underlying42 rfl (by kernel_rfl) .nil)) rfl ?_
  exact ⟨⟨y, .slice none 0 0, rfl, rfl, rfl⟩, ans_fin HM.out HBX.out HF.out.1 HF.out.2 ((HON.put 0 _ (by omega) (by omega)).row _ (by omega) (by omega))⟩

set_option maxHeartbeats 2000000 in
set_option maxRecDepth 100000 in
theorem call_del (w : World) (g : Nat) (S : St) (n : Nat) (Q F : Nat → Prop) (b k pf fr : List UInt8) (dv : Value) (id nn a fi mo : Int) (hb : b.length ≤ 100000) (hk : k.length ≤ 100000) (hl : (S.V b k).length ≤ 100000) (hn : n ≤ 100000) (hm : HasM w g S n Q F) (hT : Tabs w) :
    Calls Tryd.prog 10 #[.pointer (some ⟨g, 0, none⟩), .agg #[.int .i64 7, .string (mkS b), .string (mkS k), dv, .int .i64 nn, .int .i64 a, .string (mkS pf), .string (mkS fr), .int .i64 fi, .int .i64 mo], .int .i64 id] w
      (AnsIs (fun y dv _ => y = (if S.delE id b k = 0 then kpDel id else kp0) ∧ dv = .slice none 0 0) (S.doDel id b k) n Q F g (S.delE id b k) w) := by
  obtain ⟨W3, hW3⟩ : ∃ W3, ((w.alloc (.cells #[.int .i64 7, .string (mkS b), .string (mkS k), dv, .int .i64 nn, .int .i64 a, .string (mkS pf), .string (mkS fr), .int .i64 fi, .int .i64 mo] 33)).alloc (.cells ans0 42)).alloc (.cells ans0 42) = W3 := ⟨_, rfl⟩
  have hbx := boxed_mk w #[.int .i64 7, .string (mkS b), .string (mkS k), dv, .int .i64 nn, .int .i64 a, .string (mkS pf), .string (mkS fr), .int .i64 fi, .int .i64 mo]
  rw [hW3] at hbx
  obtain ⟨y, hy⟩ : ∃ y, (if S.delE id b k = 0 then kpDel id else kp0) = y := ⟨_, rfl⟩
  obtain ⟨er, her⟩ : ∃ er, S.delE id b k = er := ⟨_, rfl⟩
  have HC : Hid (Calls Tryd.prog 23 #[.pointer (some ⟨g, 0, none⟩), .int .i64 id, .string (mkS b), .string (mkS k)] W3 fun e w' => e = .returned (.tuple #[.agg #[.int .i64 y.id, .bool y.mark, .int .i64 y.sz, .int .u32 y.sum], .int .i64 er]) ∧ Hid ((∃ F', HasM w' g (S.doDel id b k) (n + 1) Q F' ∧ ∀ j, F' j → F j ∨ W3.heap.size ≤ j) ∧ Moved Q W3 w') ∧ Hid (w'.heap[w.heap.size + 1]? = some (.cells ans0 42 (0, 0)) ∧ w'.heap[w.heap.size + 1 + 1]? = some (.cells ans0 42 (0, 0)) ∧ w.heap.size + 3 ≤ w'.heap.size)) :=
    (delete_is W3 g S n Q F id b k hb hk hl hn (hm.below hbx.b) (hT.below hbx.b)).mono fun e w' ⟨h1, h2, h3⟩ => ⟨by rw [h1, hy, her]; rfl, ⟨h2, h3⟩, boxed_after hbx hm.q h3⟩
  rw [her] at hy ⊢
  rw [hy]
  have HBX := Lib.hid hbx
  have HM := Lib.hid hm
  have HW3 := Lib.hid hW3
  obtain ⟨c0, c1, c2, c3, c4, c5, c6, c7, c8, c9⟩ := chAt_of hbx.k4
  clear c5 c6 c7 c8 c9
  clear hm hT hbx hW3 hy her hl
  go_enter Tryd.func10, Tryd.ntmps10
  go_upto_region 2 with (fail)
  rw [HW3.out]
  clear HW3
  go_wp2_with fail
  refine HC.out.mono ?_
  rintro e w4 ⟨rfl, HF, HB⟩
  obtain ⟨W5, W6, hW5, ⟨v0, v1, v2, v3⟩, HTH, hW6, HAA, HK7, HK6, HON⟩ := box_ver w w4 y HB.out.1 HB.out.2.1 HB.out.2.2
  have HW5 := Lib.hid hW5
  have HW6 := Lib.hid hW6
  clear hW5 hW6 HC
  go_upto_region 20 with (fail)
  rw [HW5.out]
  clear HW5
  have HK6h := Lib.hid HK6
  have HK7h := Lib.hid HK7
  have HTHh := Lib.hid HTH
  obtain ⟨z0, z1, z2, z3, z4, z5, z6, z7, z8, z9, z10⟩ := HAA
  have f0 := blk_frozen HK7 0
  have f5 := blk_frozen HK7 5
  clear HK6 HK7 HTH
  have HB6 : Hid (∀ u, (W6.setCell ⟨w.heap.size + 1 + 1, 0, none⟩ u).heap[w.heap.size + 1]? = some (.cells ans0 42 (0, 0))) := fun u => blk_far HK6h.out (by simp) u
  go_wp2_with (first | (refine wpList_store_mid rfl 36 (.tmp 112) (.tmp 110) rfl (w.heap.size + 1 + 1) 1 (verA y) rfl rfl HTHh.out (by kernel_rfl) (by simp [Value.oneCell']) ?_; rw [HW6.out]) | (refine wpList_store_row rfl 42 (.tmp 6) (.tmp 159) rfl (w.heap.size + 1) (ansL er y (.slice none 0 0)).toArray rfl rfl 42 _ (HB6.out _) (by kernel_rfl) rfl (by simp [ansL, Value.oneCell']) ?_))
  refine bodyPost_ret (results_single rfl (.cell (w.heap.size + 1) 42 (ansL er y (.slice none 0 0)).toArray (0, 0) _ rfl (setRow_heap _ _ _ _ _ _ (HB6.out _)) Tryd.underlying42 rfl (by kernel_rfl) .nil)) rfl ?_
  exact ⟨⟨y, .slice none 0 0, rfl, rfl, rfl⟩, ans_fin HM.out HBX.out HF.out.1 HF.out.2 ((HON.put 0 _ (by omega) (by omega)).row _ (by omega) (by omega))⟩

set_option maxHeartbeats 2000000 in
set_option maxRecDepth 100000 in
theorem call_get (w : World) (g : Nat) (S : St) (n : Nat) (Q F : Nat → Prop) (b k pf fr : List UInt8) (dv : Value) (id nn a fi mo : Int) (hb : b.length ≤ 100000) (hk : k.length ≤ 100000) (hl : (S.V b k).length ≤ 100000) (hd : ∀ y ∈ S.V b k, y.dt.length ≤ 1000000) (hm : HasM w g S n Q F) (hT : Tabs w) :
    Calls Tryd.prog 10 #[.pointer (some ⟨g, 0, none⟩), .agg #[.int .i64 5, .string (mkS b), .string (mkS k), dv, .int .i64 nn, .int .i64 a, .string (mkS pf), .string (mkS fr), .int .i64 fi, .int .i64 mo], .int .i64 id] w
      (AnsIs (fun y dv w' => (S.findE b k nn 0 ≠ 0 ∧ y = kp0 ∧ dv = .slice none 0 0) ∨ (S.findE b k nn 0 = 0 ∧ S.getK b k nn = some y ∧ S.getE b k nn = 16 ∧ y.mark = true ∧ dv = .slice none 0 0) ∨ (S.findE b k nn 0 = 0 ∧ S.getK b k nn = some y ∧ S.getE b k nn = 0 ∧ y.mark = false ∧ ∃ (A : Option Addr) (c : Nat), dv = .slice A y.dt.length c ∧ y.dt.length ≤ c ∧ ∃ Fb, DatF w' Fb A y.dt ∧ ∀ j, Fb j → IsC w' j ∧ w.heap.size ≤ j)) S n Q F g (S.getE b k nn) w) := by
  obtain ⟨W3, hW3⟩ : ∃ W3, ((w.alloc (.cells #[.int .i64 5, .string (mkS b), .string (mkS k), dv, .int .i64 nn, .int .i64 a, .string (mkS pf), .string (mkS fr), .int .i64 fi, .int .i64 mo] 33)).alloc (.cells ans0 42)).alloc (.cells ans0 42) = W3 := ⟨_, rfl⟩
  have hbx := boxed_mk w #[.int .i64 5, .string (mkS b), .string (mkS k), dv, .int .i64 nn, .int .i64 a, .string (mkS pf), .string (mkS fr), .int .i64 fi, .int .i64 mo]
  rw [hW3] at hbx
  obtain ⟨er, her⟩ : ∃ er, S.getE b k nn = er := ⟨_, rfl⟩
  have HC : Hid (Calls Tryd.prog 18 #[.pointer (some ⟨g, 0, none⟩), .string (mkS b), .string (mkS k), .int .i64 nn] W3 fun e w' => (∃ (y : Kp) (A9 : Option Addr) (m9 c9 : Nat), e = .returned (.tuple #[.agg #[.int .i64 y.id, .bool y.mark, .int .i64 y.sz, .int .u32 y.sum], .slice A9 m9 c9, .int .i64 er]) ∧ Hid ((S.findE b k nn 0 ≠ 0 ∧ y = kp0 ∧ Value.slice A9 m9 c9 = .slice none 0 0) ∨ (S.findE b k nn 0 = 0 ∧ S.getK b k nn = some y ∧ er = 16 ∧ y.mark = true ∧ Value.slice A9 m9 c9 = .slice none 0 0) ∨
        (S.findE b k nn 0 = 0 ∧ S.getK b k nn = some y ∧ er = 0 ∧ y.mark = false ∧ ∃ (A : Option Addr) (c : Nat), Value.slice A9 m9 c9 = .slice A y.dt.length c ∧ y.dt.length ≤ c ∧ ∃ Fb, DatF w' Fb A y.dt ∧ ∀ j, Fb j → IsC w' j ∧ W3.heap.size < j))) ∧ Hid ((∃ F', HasM w' g (S) (n + 1) Q F' ∧ ∀ j, F' j → F j ∨ W3.heap.size ≤ j) ∧ Moved Q W3 w') ∧ Hid (w'.heap[w.heap.size + 1]? = some (.cells ans0 42 (0, 0)) ∧ w'.heap[w.heap.size + 1 + 1]? = some (.cells ans0 42 (0, 0)) ∧ w.heap.size + 3 ≤ w'.heap.size)) :=
    (get_is W3 g S n Q F b k nn hb hk hl hd (hm.below hbx.b) (hT.below hbx.b)).mono fun e w' ⟨⟨y, v, h1, h4⟩, h3⟩ => by
      refine ⟨?_, ⟨⟨F, ((hm.below hbx.b).below h3).mono (by omega), fun j hj => .inl hj⟩, Moved.of_below h3⟩, boxed_after hbx hm.q (Moved.of_below (Q := Q) h3)⟩
      rw [her] at h1 h4
      rcases h4 with ⟨q1, q2, rfl⟩ | ⟨q1, q2, q3, q4, rfl⟩ | ⟨q1, q2, q3, q4, A, c, rfl, q5, q6⟩
      · exact ⟨y, none, 0, 0, h1, .inl ⟨q1, q2, rfl⟩⟩
      · exact ⟨y, none, 0, 0, h1, .inr (.inl ⟨q1, q2, q3, q4, rfl⟩)⟩
      · exact ⟨y, A, y.dt.length, c, h1, .inr (.inr ⟨q1, q2, q3, q4, A, c, rfl, q5, q6⟩)⟩
  rw [her]
  have HBX := Lib.hid hbx
  have HM := Lib.hid hm
  have HW3 := Lib.hid hW3
  obtain ⟨c0, c1, c2, c3, c4, c5, c6, c7, c8, c9⟩ := chAt_of hbx.k4
  clear c5 c6 c7 c8 c9
  clear hm hT hbx hW3 her hl hd
  go_enter Tryd.func10, Tryd.ntmps10
  go_upto_region 2 with (fail)
  rw [HW3.out]
  clear HW3
  go_wp2_with fail
  refine HC.out.mono ?_
  rintro e w4 ⟨⟨y, A9, m9, c9, rfl, HY⟩, HF, HB⟩
  obtain ⟨W5, W6, hW5, ⟨v0, v1, v2, v3⟩, HTH, hW6, HAA, HK7, HK6, HON⟩ := box_ver w w4 y HB.out.1 HB.out.2.1 HB.out.2.2
  have HW5 := Lib.hid hW5
  have HW6 := Lib.hid hW6
  clear hW5 hW6 HC
  go_upto_region 14 with (fail)
  rw [HW5.out]
  clear HW5
  have HK6h := Lib.hid HK6
  have HK7h := Lib.hid HK7
  have HTHh := Lib.hid HTH
  obtain ⟨z0, z1, z2, z3, z4, z5, z6, z7, z8, z9, z10⟩ := HAA
  have f0 := blk_frozen HK7 0
  have f5 := blk_frozen HK7 5
  clear HK6 HK7 HTH
  have HB6 : Hid (∀ u u', ((W6.setCell ⟨w.heap.size + 1 + 1, 5, none⟩ u).setCell ⟨w.heap.size + 1 + 1, 0, none⟩ u').heap[w.heap.size + 1]? = some (.cells ans0 42 (0, 0))) := fun u u' => blk_far (blk_far HK6h.out (by simp) u) (by simp) u'
  go_wp2_with (first | (refine wpList_store_mid rfl 36 (.tmp 78) (.tmp 75) rfl (w.heap.size + 1 + 1) 1 (verA y) rfl rfl HTHh.out (by kernel_rfl) (by simp [Value.oneCell']) ?_; rw [HW6.out]) | (refine wpList_store_row rfl 42 (.tmp 6) (.tmp 159) rfl (w.heap.size + 1) (ansL er y (.slice A9 m9 c9)).toArray rfl rfl 42 _ (HB6.out _ _) (by kernel_rfl) rfl (by simp [ansL, Value.oneCell']) ?_))
  refine bodyPost_ret (results_single rfl (.cell (w.heap.size + 1) 42 (ansL er y (.slice A9 m9 c9)).toArray (0, 0) _ rfl (setRow_heap _ _ _ _ _ _ (HB6.out _ _)) Tryd.underlying42 rfl (by kernel_rfl) .nil)) rfl ?_
  have hon : Only w.heap.size (w.heap.size + 3) w4 (((W6.setCell ⟨w.heap.size + 1 + 1, 5, none⟩ (.slice A9 m9 c9)).setCell ⟨w.heap.size + 1 + 1, 0, none⟩ (.int .i64 er)).setRow (w.heap.size + 1) (ansL er y (.slice A9 m9 c9)).toArray) := (((HON.put 5 _ (by omega) (by omega)).put 0 _ (by omega) (by omega)).row _ (by omega) (by omega))
  refine ⟨⟨y, .slice A9 m9 c9, rfl, ?_⟩, ans_fin HM.out HBX.out HF.out.1 HF.out.2 hon⟩
  have hs3 := HBX.out.s
  rcases HY.out with h | h | ⟨q1, q2, q3, q4, A, c, q5, q6, Fb, q7, q8⟩
  · exact .inl h
  · exact .inr (.inl h)
  · have hk : ∀ j, Fb j → _ := fun j hj => hon.block j (isC_lt (q8 j hj).1) (.inr (by have := (q8 j hj).2; omega))
    refine .inr (.inr ⟨q1, q2, q3, q4, A, c, q5, q6, Fb, q7.kept hk, fun j hj => ⟨?_, by have := (q8 j hj).2; omega⟩⟩)
    obtain ⟨a1, b1, c1, hh⟩ := (q8 j hj).1
    exact ⟨a1, b1, c1, (hk j hj).trans hh⟩

set_option maxHeartbeats 2000000 in
set_option maxRecDepth 100000 in
theorem call_head (w : World) (g : Nat) (S : St) (n : Nat) (Q F : Nat → Prop) (b k pf fr : List UInt8) (dv : Value) (id nn a fi mo : Int) (hb : b.length ≤ 100000) (hk : k.length ≤ 100000) (hl : (S.V b k).length ≤ 100000) (hd : ∀ y ∈ S.V b k, y.dt.length ≤ 1000000) (hm : HasM w g S n Q F) (hT : Tabs w) :
    Calls Tryd.prog 10 #[.pointer (some ⟨g, 0, none⟩), .agg #[.int .i64 6, .string (mkS b), .string (mkS k), dv, .int .i64 nn, .int .i64 a, .string (mkS pf), .string (mkS fr), .int .i64 fi, .int .i64 mo], .int .i64 id] w
      (AnsIs (fun y dv _ => ((S.findE b k nn 0 ≠ 0 ∧ y = kp0) ∨ (S.findE b k nn 0 = 0 ∧ S.getK b k nn = some y)) ∧ dv = .slice none 0 0) S n Q F g (S.getE b k nn) w) := by
  obtain ⟨W3, hW3⟩ : ∃ W3, ((w.alloc (.cells #[.int .i64 6, .string (mkS b), .string (mkS k), dv, .int .i64 nn, .int .i64 a, .string (mkS pf), .string (mkS fr), .int .i64 fi, .int .i64 mo] 33)).alloc (.cells ans0 42)).alloc (.cells ans0 42) = W3 := ⟨_, rfl⟩
  have hbx := boxed_mk w #[.int .i64 6, .string (mkS b), .string (mkS k), dv, .int .i64 nn, .int .i64 a, .string (mkS pf), .string (mkS fr), .int .i64 fi, .int .i64 mo]
  rw [hW3] at hbx
  obtain ⟨er, her⟩ : ∃ er, S.getE b k nn = er := ⟨_, rfl⟩
  have HC : Hid (Calls Tryd.prog 13 #[.pointer (some ⟨g, 0, none⟩), .string (mkS b), .string (mkS k), .int .i64 nn] W3 fun e w' => (∃ y : Kp, e = .returned (.tuple #[.agg #[.int .i64 y.id, .bool y.mark, .int .i64 y.sz, .int .u32 y.sum], .int .i64 er]) ∧ Hid ((S.findE b k nn 0 ≠ 0 ∧ y = kp0) ∨ (S.findE b k nn 0 = 0 ∧ S.getK b k nn = some y))) ∧ Hid ((∃ F', HasM w' g (S) (n + 1) Q F' ∧ ∀ j, F' j → F j ∨ W3.heap.size ≤ j) ∧ Moved Q W3 w') ∧ Hid (w'.heap[w.heap.size + 1]? = some (.cells ans0 42 (0, 0)) ∧ w'.heap[w.heap.size + 1 + 1]? = some (.cells ans0 42 (0, 0)) ∧ w.heap.size + 3 ≤ w'.heap.size)) :=
    (head_is W3 g S n Q F b k nn hb hk hl hd (hm.below hbx.b) (hT.below hbx.b)).mono fun e w' ⟨⟨y, h1, h4⟩, h3⟩ => ⟨⟨y, by rw [h1, her]; rfl, h4⟩, ⟨⟨F, ((hm.below hbx.b).below h3).mono (by omega), fun j hj => .inl hj⟩, Moved.of_below h3⟩, boxed_after hbx hm.q (Moved.of_below (Q := Q) h3)⟩
  rw [her]
  have HBX := Lib.hid hbx
  have HM := Lib.hid hm
  have HW3 := Lib.hid hW3
  obtain ⟨c0, c1, c2, c3, c4, c5, c6, c7, c8, c9⟩ := chAt_of hbx.k4
  clear c5 c6 c7 c8 c9
  clear hm hT hbx hW3 her hl hd
  go_enter Tryd.func10, Tryd.ntmps10
  go_upto_region 2 with (fail)
  rw [HW3.out]
  clear HW3
  go_wp2_with fail
  refine HC.out.mono ?_
  rintro e w4 ⟨⟨y, rfl, HY⟩, HF, HB⟩
  obtain ⟨W5, W6, hW5, ⟨v0, v1, v2, v3⟩, HTH, hW6, HAA, HK7, HK6, HON⟩ := box_ver w w4 y HB.out.1 HB.out.2.1 HB.out.2.2
  have HW5 := Lib.hid hW5
  have HW6 := Lib.hid hW6
  clear hW5 hW6 HC
  go_upto_region 17 with (fail)
  rw [HW5.out]
  clear HW5
  have HK6h := Lib.hid HK6
  have HK7h := Lib.hid HK7
  have HTHh := Lib.hid HTH
  obtain ⟨z0, z1, z2, z3, z4, z5, z6, z7, z8, z9, z10⟩ := HAA
  have f0 := blk_frozen HK7 0
  have f5 := blk_frozen HK7 5
  clear HK6 HK7 HTH
  have HB6 : Hid (∀ u, (W6.setCell ⟨w.heap.size + 1 + 1, 0, none⟩ u).heap[w.heap.size + 1]? = some (.cells ans0 42 (0, 0))) := fun u => blk_far HK6h.out (by simp) u
  go_wp2_with (first | (refine wpList_store_mid rfl 36 (.tmp 96) (.tmp 94) rfl (w.heap.size + 1 + 1) 1 (verA y) rfl rfl HTHh.out (by kernel_rfl) (by simp [Value.oneCell']) ?_; rw [HW6.out]) | (refine wpList_store_row rfl 42 (.tmp 6) (.tmp 159) rfl (w.heap.size + 1) (ansL er y (.slice none 0 0)).toArray rfl rfl 42 _ (HB6.out _) (by kernel_rfl) rfl (by simp [ansL, Value.oneCell']) ?_))
  refine bodyPost_ret (results_single rfl (.cell (w.heap.size + 1) 42 (ansL er y (.slice none 0 0)).toArray (0, 0) _ rfl (setRow_heap _ _ _ _ _ _ (HB6.out _)) Tryd.underlying42 rfl (by kernel_rfl) .nil)) rfl ?_
  exact ⟨⟨y, .slice none 0 0, rfl, HY.out, rfl⟩, ans_fin HM.out HBX.out HF.out.1 HF.out.2 ((HON.put 0 _ (by omega) (by omega)).row _ (by omega) (by omega))⟩
end Go.Proofs.YtjbjcfnbgcloiaaDoor

/- Rows and maps of versions read in one way; two maps held against each other, plainly. -/

namespace Go.Proofs.YtjbjcfnbgcloiaaDoor
open Go.RowKit Nam YtjbjcfnbgcloiaaDoorW.PrintWords

theorem below_grown {w w' : World} (h : Below w.heap.size w w') : w.grownBy w' none := ⟨h.os, h.tape, h.output, h.size, fun k hk _ => h.block k hk⟩
theorem grown_below' {w w' : World} (h : w.grownBy w' none) : Below w.heap.size w w' := ⟨h.os, h.tape, h.output, h.size, fun k hk => h.block k hk (by simp)⟩
/-! ### what lies somewhere reads in one way -/
theorem ints_inj {w : World} {A : Option Addr} {n : Nat} {a b : List Int} (ha : (Kd.int .u8).C w A n a) (hb : (Kd.int .u8).C w A n b) (h1 : a.length = n) (h2 : b.length = n) : a = b := by
  apply List.ext_getElem (by omega)
  intro i hi hi2
  obtain ⟨ad, e, hc⟩ := Kd.at_int ha (i : Int) (by omega) (by omega)
  obtain ⟨ad', e', hc'⟩ := Kd.at_int hb (i : Int) (by omega) (by omega)
  rw [e] at e'
  injection e' with e'
  subst e'
  rw [hc] at hc'
  injection hc' with hc'
  injection hc' with _ hc'
  unfold rd at hc'
  simpa [List.getD_eq_getElem?_getD, hi, hi2] using hc'
theorem datF_inj {w : World} {F F' : Nat → Prop} {A : Option Addr} {l m : List UInt8} (h : DatF w F A l) (h2 : DatF w F' A m) (hn : l.length = m.length) : l = m :=
  byN_inj (ints_inj h.now (by rw [hn]; exact h2.now) (byN_length l) (by rw [byN_length, hn]))
theorem rowV_inj {w : World} {F F' : Nat → Prop} {v : Value} {l m : List Kp} (h : RowV w F v l) (h2 : RowV w F' v m) : l = m := by
  obtain ⟨A, c, hv, _⟩ := h.slice
  obtain ⟨A2, c2, hv2, _⟩ := h2.slice
  have hlen : l.length = m.length := by
    rw [hv] at hv2
    injection hv2 with _ hv2 _
  by_cases h0 : l = []
  · subst h0
    exact (List.length_eq_zero_iff.1 (by rw [← hlen]; rfl)).symm
  · obtain ⟨news, h1, _⟩ := id h
    rcases h1 with ⟨_, e0, _⟩ | ⟨g, c, rfl, _⟩
    · exact absurd (List.length_eq_zero_iff.1 e0) h0
    apply List.ext_getElem hlen
    intro j hj hj2
    obtain ⟨A, c1, _, d1, f1⟩ := h.at_ j (List.getElem?_eq_getElem hj)
    obtain ⟨B, c2, _, d2, f2⟩ := h2.at_ j (List.getElem?_eq_getElem hj2)
    generalize l[j] = x at d1 f1
    generalize m[j] = y at d2 f2
    have e0 := (f1 0 _ rfl).symm.trans (f2 0 _ rfl)
    have e1 := (f1 1 _ rfl).symm.trans (f2 1 _ rfl)
    have e2 := (f1 2 _ rfl).symm.trans (f2 2 _ rfl)
    have e3 := (f1 3 _ rfl).symm.trans (f2 3 _ rfl)
    have e4 := (f1 4 _ rfl).symm.trans (f2 4 _ rfl)
    simp only [Option.some.injEq, Value.int.injEq, Value.bool.injEq, Value.slice.injEq, true_and] at e0 e1 e2 e3 e4
    obtain ⟨rfl, e5, _⟩ := e4
    have e6 := datF_inj d1 d2 e5
    cases x; cases y
    simp only at e0 e1 e2 e3 e6
    subst e0; subst e1; subst e2; subst e3; subst e6
    rfl

/-! ### a map's elements, as far as they read -/
theorem key_isStr {v : Value} {kl : Lit} (h : keyOf Tryd.prog 9 v = some kl) : ∃ s, kl = .string s := by
  exact (WideMaps.string_law Tryd.underlying9).str h
theorem ownsMap_re {w : World} {R R' : Value → Option (DataW Unit × List MemPlace)} {b n : Nat} {D : DataW Unit} (h : w.ownsMap Tryd.prog 9 R b n D)
    (hs : ∀ s v yd yp, R v = some (yd, yp) → (∀ zd, D.atKey (.string s) zd = yd) → R' v = some (yd, yp)) : w.ownsMap Tryd.prog 9 R' b n D := by
  obtain ⟨es, hE, hap, hkeys⟩ := h.entries KS
  obtain ⟨es0, clock, hb, F, hle, hD⟩ := h
  have hst : ∀ x ∈ es0.toList, ∀ z, R x.val = some z → R' x.val = some z := by
    intro x hx z hz
    obtain ⟨y, hy⟩ := F.reads x hx
    obtain ⟨z', hz', e2⟩ := WideElems.rd_val hy
    obtain rfl : z = z' := Option.some.inj (hz.symm.trans hz')
    obtain ⟨s, hs'⟩ := key_isStr (WideElems.rd_key hy)
    have hmem : y ∈ es := by
      rw [hD] at hE
      injection hE with hE
      rw [← hE]
      exact mem_sorted.2 (List.mem_map.2 ⟨x, hx, WideElems.rg_of hy⟩)
    refine hs s x.val z.1 z.2 hz (fun zd => ?_)
    rw [hE, ← hs']
    exact (WideAt.atKey_mem zd (hkeys y hmem) hap hmem).trans e2
  obtain ⟨F', hmap, _⟩ := F.stay hst
  exact ⟨es0, clock, hb, F', hle, by rw [hmap]; exact hD⟩
open Classical in
/-- Rows of versions that read. -/
noncomputable def Rrow (w : World) (F : Nat → Prop) (v : Value) : Option (DataW Unit × List MemPlace) := if (∃ l, RowV w F v l ∧ l.length ≤ 1000) then R2 v else none
theorem Rrow_of {w : World} {F : Nat → Prop} {v : Value} {l : List Kp} (h : RowV w F v l) (hl : l.length ≤ 1000) : Rrow w F v = R2 v := if_pos ⟨l, h, hl⟩
theorem Rrow_inv {w : World} {F : Nat → Prop} {v : Value} {z : DataW Unit × List MemPlace} (h : Rrow w F v = some z) : R2 v = some z ∧ ∃ l, RowV w F v l ∧ l.length ≤ 1000 := by
  unfold Rrow at h
  split at h
  · rename_i hl
    exact ⟨h, hl⟩
  · cases h
open Classical in
/-- What row a token tells of. -/
noncomputable def rowOf (w : World) (F : Nat → Prop) (d : DataW Unit) : List Kp := if h : ∃ l v ps, R2 v = some (d, ps) ∧ RowV w F v l then h.choose else []
theorem rowOf_eq {w : World} {F : Nat → Prop} {d : DataW Unit} {v : Value} {ps : List MemPlace} {l : List Kp} (hv : R2 v = some (d, ps)) (hr : RowV w F v l) : rowOf w F d = l := by
  have h : ∃ l v ps, R2 v = some (d, ps) ∧ RowV w F v l := ⟨l, v, ps, hv, hr⟩
  unfold rowOf
  rw [dif_pos h]
  obtain ⟨v', ps', h1, h2⟩ := h.choose_spec
  rw [R2_one h1 hv] at h2
  exact rowV_inj h2 hr
/-- A bucket's map tells its keys in one way. -/
theorem inner_inj {w : World} {F F' : Nat → Prop} {b n n' : Nat} {f f' : List UInt8 → List Kp} (h : InnerM w F b n f) (h' : InnerM w F' b n' f') : f = f' := by
  obtain ⟨D, ⟨es, clock, hb, F1, _, hD⟩, h2⟩ := h
  obtain ⟨D', ⟨es', clock', hb', F1', _, hD'⟩, h2'⟩ := h'
  rw [hb] at hb'
  injection hb' with hb'
  injection hb' with e1 _
  subst e1
  rw [← hD] at hD'
  subst hD'
  funext s
  obtain ⟨v, ps, h3, h4⟩ := h2 s
  obtain ⟨v', ps', h3', h4'⟩ := h2' s
  rw [R2_one h3 h3'] at h4
  exact rowV_inj h4 h4'

/-! ### two maps held against each other -/
theorem len_sub {α : Type} [DecidableEq α] : ∀ (l m : List α), l.Nodup → (∀ x ∈ l, x ∈ m) → l.length ≤ m.length
  | [], _, _, _ => Nat.zero_le _
  | a :: l, m, hn, hs => by
    have ha := hs a List.mem_cons_self
    have h1 := len_sub l (m.erase a) (List.nodup_cons.1 hn).2 (fun x hx => (List.mem_erase_of_ne (fun e => (List.nodup_cons.1 hn).1 (by rw [← e]; exact hx))).2 (hs x (List.mem_cons_of_mem _ hx)))
    have h2 := List.length_erase_of_mem ha
    have h3 := List.length_pos_of_mem ha
    simp only [List.length_cons]
    omega
theorem sub_back {α : Type} [DecidableEq α] : ∀ (l m : List α), l.Nodup → (∀ x ∈ l, x ∈ m) → m.Nodup → m.length ≤ l.length → ∀ x ∈ m, x ∈ l
  | [], m, _, _, _, hl, x, hx => by
    have := List.length_pos_of_mem hx
    have h0 : m.length ≤ 0 := hl
    omega
  | a :: l, m, hn, hs, hm, hl, x, hx => by
    by_cases e : x = a
    · rw [e]; exact List.mem_cons_self
    · have ha := hs a List.mem_cons_self
      have h2 := List.length_erase_of_mem ha
      have h3 := List.length_pos_of_mem ha
      refine List.mem_cons_of_mem _ (sub_back l (m.erase a) (List.nodup_cons.1 hn).2 (fun y hy => (List.mem_erase_of_ne (fun e => (List.nodup_cons.1 hn).1 (by rw [← e]; exact hy))).2 (hs y (List.mem_cons_of_mem _ hy))) (hm.erase a) ?_ x ((List.mem_erase_of_ne e).2 hx))
      simp only [List.length_cons] at hl
      omega
/-- A map of texts, plainly. -/
def StrMap (D : DataW Unit) : Prop := ∃ es : List (List UInt8 × DataW Unit), D = .map (es.map fun p => (Lit.string p.1, p.2)) ∧ (es.map Prod.fst).Nodup
theorem strMap_of {w : World} {R : Value → Option (DataW Unit × List MemPlace)} {b n : Nat} {D : DataW Unit} (h : w.ownsMap Tryd.prog 9 R b n D) : StrMap D := by
  obtain ⟨es, hE, hap, _⟩ := h.entries KS
  have hst : ∀ p ∈ es, ∃ s, p.1 = Lit.string s := by
    obtain ⟨es0, clock, hb, F, hle, hD⟩ := h
    intro p hp
    rw [hD] at hE
    injection hE with hE
    rw [← hE] at hp
    obtain ⟨x, hx, rfl⟩ := List.mem_map.1 (mem_sorted.1 hp)
    obtain ⟨y, hy⟩ := F.reads x hx
    rw [WideElems.rg_of hy]
    exact key_isStr (WideElems.rd_key hy)
  clear h
  subst hE
  let g : Lit × DataW Unit → List UInt8 × DataW Unit := fun p => ((match p.1 with | .string s => s | _ => []), p.2)
  have hg : ∀ p ∈ es, (Lit.string (g p).1, (g p).2) = p := fun p hp => by
    obtain ⟨s, hs⟩ := hst p hp
    obtain ⟨a, b⟩ := p
    simp only at hs
    subst hs
    rfl
  refine ⟨es.map g, ?_, ?_⟩
  · congr 1
    rw [List.map_map]
    exact ((List.map_congr_left (g := id) fun p hp => hg p hp).trans (List.map_id _)).symm
  · rw [List.map_map]
    refine List.pairwise_map.2 ((List.Pairwise.and_mem.1 hap).imp fun {p q} h e => h.2.2 ?_)
    rw [← hg p h.1, ← hg q h.2.1]
    exact congrArg Lit.string e
theorem inner_row {w : World} {F : Nat → Prop} {b n : Nat} {f : List UInt8 → List Kp} (h : InnerM w F b n f) :
    ∃ D, w.ownsMap Tryd.prog 9 R2 b n D ∧ StrMap D ∧ ∀ s, ∃ v ps, R2 v = some (D.atKey (.string s) .nil, ps) ∧ RowV w F v (f s) := by
  obtain ⟨D, h1, h2⟩ := h
  exact ⟨D, h1, strMap_of h1, h2⟩
theorem sm_has {es : List (List UInt8 × DataW Unit)} (s : List UInt8) : Maps.has (DataW.map (es.map fun p => (Lit.string p.1, p.2))) (.string s) = decide (s ∈ es.map Prod.fst) := by
  show (es.map fun p => (Lit.string p.1, p.2)).any (fun p => p.1.sameKey (.string s)) = _
  rw [Bool.eq_iff_iff, List.any_eq_true, decide_eq_true_iff]
  constructor
  · rintro ⟨p, hp, h⟩
    obtain ⟨q, hq, rfl⟩ := List.mem_map.1 hp
    have := WideAt.sameKey_eq h
    simp only [Lit.string.injEq] at this
    rw [← this]
    exact List.mem_map.2 ⟨q, hq, rfl⟩
  · intro h
    obtain ⟨q, hq, rfl⟩ := List.mem_map.1 h
    exact ⟨(Lit.string q.1, q.2), List.mem_map.2 ⟨q, hq, rfl⟩, WideAt.sameKey_self (isKey_str q.1)⟩
theorem sm_at {es : List (List UInt8 × DataW Unit)} (hn : (es.map Prod.fst).Nodup) {q : List UInt8 × DataW Unit} (hq : q ∈ es) (zd : DataW Unit) : (DataW.map (es.map fun p => (Lit.string p.1, p.2))).atKey (.string q.1) zd = q.2 := by
  refine WideAt.atKey_mem zd (isKey_str q.1) ?_ (List.mem_map.2 ⟨q, hq, rfl⟩)
  refine List.pairwise_map.2 ((List.pairwise_map.1 hn).imp fun {a b} h e => h ?_)
  simpa using e
theorem equalFunc_iff {eqd : DataW Unit → DataW Unit → Bool} {D1 D2 : DataW Unit} (h1 : StrMap D1) (h2 : StrMap D2) :
    Lib.equalFuncD eqd D1 D2 = true ↔ (∀ s, Maps.has D1 (.string s) = Maps.has D2 (.string s)) ∧ ∀ s, Maps.has D1 (.string s) = true → eqd (D1.atKey (.string s) .nil) (D2.atKey (.string s) .nil) = true := by
  obtain ⟨es1, rfl, n1⟩ := h1
  obtain ⟨es2, rfl, n2⟩ := h2
  unfold Lib.equalFuncD
  rw [Bool.and_eq_true, decide_eq_true_iff, List.all_eq_true]
  have hz : ∀ es : List (List UInt8 × DataW Unit), Maps.size (DataW.map (es.map fun p => (Lit.string p.1, p.2))) = (es.map Prod.fst).length := fun es => by simp [Maps.size]
  rw [hz, hz]
  constructor
  · rintro ⟨hl, ha⟩
    have hsub : ∀ s ∈ es1.map Prod.fst, s ∈ es2.map Prod.fst := fun s hs => by
      obtain ⟨q, hq, rfl⟩ := List.mem_map.1 hs
      have := ha (Lit.string q.1, q.2) (List.mem_map.2 ⟨q, hq, rfl⟩)
      unfold Lib.goodD at this
      rw [Bool.and_eq_true, sm_has, decide_eq_true_iff] at this
      exact this.1
    have hb := sub_back _ _ n1 hsub n2 (by omega)
    refine ⟨fun s => ?_, fun s hs => ?_⟩
    · rw [sm_has, sm_has]
      exact decide_eq_decide.2 ⟨hsub s, hb s⟩
    · rw [sm_has, decide_eq_true_iff] at hs
      obtain ⟨q, hq, rfl⟩ := List.mem_map.1 hs
      have := ha (Lit.string q.1, q.2) (List.mem_map.2 ⟨q, hq, rfl⟩)
      unfold Lib.goodD at this
      rw [Bool.and_eq_true] at this
      rw [sm_at n1 hq]
      exact this.2
  · rintro ⟨hh, ha⟩
    have hm : ∀ s, s ∈ es1.map Prod.fst ↔ s ∈ es2.map Prod.fst := fun s => by
      have := hh s
      rw [sm_has, sm_has] at this
      exact decide_eq_decide.1 this
    refine ⟨Nat.le_antisymm (len_sub _ _ n1 fun x hx => (hm x).1 hx) (len_sub _ _ n2 fun x hx => (hm x).2 hx), fun p hp => ?_⟩
    obtain ⟨q, hq, rfl⟩ := List.mem_map.1 hp
    have hin : q.1 ∈ es1.map Prod.fst := List.mem_map.2 ⟨q, hq, rfl⟩
    unfold Lib.goodD
    have := ha q.1 (by rw [sm_has, decide_eq_true_iff]; exact hin)
    rw [sm_at n1 hq] at this
    rw [Bool.and_eq_true, sm_has, decide_eq_true_iff]
    exact ⟨(hm q.1).1 hin, this⟩
theorem sm_none {D : DataW Unit} (s : List UInt8) (h : Maps.has D (.string s) = false) (zd : DataW Unit) : D.atKey (.string s) zd = zd := Maps.atKey_of_not_has h zd
theorem sm_del {pd : Lit → DataW Unit → Bool} {D : DataW Unit} (h : StrMap D) (s : List UInt8) :
    Maps.has (Lib.deleteFuncD pd D) (.string s) = (Maps.has D (.string s) && !pd (.string s) (D.atKey (.string s) .nil)) ∧ (Maps.has (Lib.deleteFuncD pd D) (.string s) = true → ∀ zd, (Lib.deleteFuncD pd D).atKey (.string s) zd = D.atKey (.string s) .nil) := by
  obtain ⟨es, rfl, hn⟩ := h
  have he : Lib.deleteFuncD pd (DataW.map (es.map fun p => (Lit.string p.1, p.2))) = .map ((es.filter fun p => !pd (.string p.1) p.2).map fun p => (Lit.string p.1, p.2)) := by
    show DataW.map ((es.map _).filter _) = _
    rw [List.filter_map]
    rfl
  have hn2 : ((es.filter fun p => !pd (.string p.1) p.2).map Prod.fst).Nodup := List.Nodup.sublist (List.Sublist.map _ List.filter_sublist) hn
  rw [he]
  refine ⟨?_, fun hh zd => ?_⟩
  · rw [sm_has, sm_has, Bool.eq_iff_iff, decide_eq_true_iff, Bool.and_eq_true, decide_eq_true_iff]
    constructor
    · intro h
      obtain ⟨q, hq, rfl⟩ := List.mem_map.1 h
      obtain ⟨hq1, hq2⟩ := List.mem_filter.1 hq
      exact ⟨List.mem_map.2 ⟨q, hq1, rfl⟩, by rw [sm_at hn hq1]; exact hq2⟩
    · rintro ⟨h, hp⟩
      obtain ⟨q, hq, rfl⟩ := List.mem_map.1 h
      rw [sm_at hn hq] at hp
      exact List.mem_map.2 ⟨q, List.mem_filter.2 ⟨hq, hp⟩, rfl⟩
  · rw [sm_has, decide_eq_true_iff] at hh
    obtain ⟨q, hq, rfl⟩ := List.mem_map.1 hh
    rw [sm_at hn2 hq, sm_at hn (List.mem_filter.1 hq).1]
end Go.Proofs.YtjbjcfnbgcloiaaDoor

/- A model copied: what each step of it does, plainly. -/
namespace Go.Proofs.YtjbjcfnbgcloiaaDoor
open Go.RowKit Nam YtjbjcfnbgcloiaaDoorW.PrintWords

theorem HasM.perm {w : World} {g : Nat} {S S' : St} {n : Nat} {Q F : Nat → Prop} (h : HasM w g S n Q F) (hn : S'.B.Nodup) (hB : ∀ s, s ∈ S'.B ↔ s ∈ S.B) (hV : ∀ s k, S'.V s k = S.V s k) : HasM w g S' n Q F := by
  obtain ⟨mb, D, h1, hf, h2, h3, h4, h5, h6, h7⟩ := h.ex
  have hV2 : S'.V = S.V := funext fun s => funext fun k => hV s k
  refine ⟨h.q, h.f, hn, fun s hs k => ?_, mb, D, h1, hf, h2, h3, ?_, fun s => ?_, fun s hs => ?_, fun s hs s' hs' => h7 s ((hB s).1 hs) s' ((hB s').1 hs')⟩
  · rw [hV]
    exact h.off s (fun e => hs ((hB s).2 e)) k
  · rw [h4]
    exact Nat.le_antisymm (len_sub _ _ h.nd fun x hx => (hB x).2 hx) (len_sub _ _ hn fun x hx => (hB x).1 hx)
  · rw [h5]
    exact decide_eq_decide.2 (hB s).symm
  · rw [hV2]
    exact h6 s ((hB s).1 hs)

/-- What lay below w, and what is no map, stays. -/
structure KeepIt (w V V' : World) : Prop where
  size : V.heap.size ≤ V'.heap.size
  block : ∀ k, k < V.heap.size → (k < w.heap.size ∨ ¬ IsM V k) → V'.heap[k]? = V.heap[k]?
theorem KeepIt.of_below {w V V' : World} (h : Below V.heap.size V V') : KeepIt w V V' := ⟨h.size, fun k hk _ => h.block k hk⟩
def NotMC (w : World) (r : Nat) : Prop := ∃ a b c d, w.heap[r]? = some (.mapIter a b c d)
theorem notMC_not {w : World} {r : Nat} (h : NotMC w r) : ¬ IsM w r ∧ ¬ IsC w r ∧ r < w.heap.size := by
  obtain ⟨a, b, c, d, h⟩ := h
  refine ⟨fun ⟨x, y, e⟩ => ?_, fun ⟨x, y, z, e⟩ => ?_, (Array.getElem?_eq_some_iff.1 h).1⟩
  · rw [h] at e; cases e
  · rw [h] at e; cases e
theorem ranges_iter {w : World} {R : Value → Option (DataW Unit × List MemPlace)} {b r n cnt : Nat} {D : DataW Unit} {left : Lit → Bool} (h : w.ranges Tryd.prog 9 R b r n D left cnt) : NotMC w r := by
  obtain ⟨es, clock, since, seen, c0, _, _, _, _, hr, _⟩ := h
  exact ⟨_, _, _, _, hr⟩
theorem ranges_keep {w V V' : World} {R : Value → Option (DataW Unit × List MemPlace)} {b r n cnt : Nat} {D : DataW Unit} {left : Lit → Bool} (h : V.ranges Tryd.prog 9 R b r n D left cnt) (hk : KeepIt w V V') (hb : b < w.heap.size) : V'.ranges Tryd.prog 9 R b r n D left cnt := by
  have h1 := notMC_not (ranges_iter h)
  have h2 := hk.block r h1.2.2 (.inr h1.1)
  have h3 := hk.block b h.owns.lt (.inl hb)
  obtain ⟨es, clock, since, seen, c0, hb', F, hs, hD, hr, rest⟩ := h
  exact ⟨es, clock, since, seen, c0, h3.trans hb', F, hs, hD, h2.trans hr, rest⟩

/-- The copy under way: its state, in a world that has left all of w. -/
structure CopySt (w : World) (F : Nat → Prop) (go : Nat) (So : St) (no : Nat) (V : World) : Prop where
  below : Below w.heap.size w V
  ex : ∃ Qo Fo, HasM V go So no Qo Fo ∧ (∀ k, Qo k → w.heap.size ≤ k) ∧ (∀ k, Fo k → F k ∨ w.heap.size ≤ k)
theorem CopySt.go_below {w : World} {F : Nat → Prop} {go no : Nat} {So : St} {V V' : World} (h : CopySt w F go So no V) (hb : Below V.heap.size V V') : CopySt w F go So no V' := by
  obtain ⟨h1, Qo, Fo, h2, h3, h4⟩ := h
  exact ⟨h1.trans (hb.mono h1.size), Qo, Fo, h2.below hb, h3, h4⟩
theorem CopySt.iter {w : World} {F : Nat → Prop} {go no : Nat} {So : St} {V V' : World} {r : Nat} (h : CopySt w F go So no V) (hg : V.grownBy V' (some r)) (hr : NotMC V r) (hw : w.heap.size ≤ r) : CopySt w F go So no V' := by
  obtain ⟨h1, Qo, Fo, h2, h3, h4⟩ := h
  obtain ⟨r1, r2, _⟩ := notMC_not hr
  have ne : ∀ k, k < V.heap.size → k ≠ r → V'.heap[k]? = V.heap[k]? := fun k hk hn => hg.block k hk (by simpa using hn)
  refine ⟨⟨hg.os.trans h1.os, hg.tape.trans h1.tape, hg.output.trans h1.output, Nat.le_trans h1.size hg.size, fun k hk => (ne k (Nat.lt_of_lt_of_le hk h1.size) (by omega)).trans (h1.block k hk)⟩, Qo, Fo, h2.kept (fun k hk => ne k (isC_lt (h2.f k hk)) ?_) (fun k hk => ne k (isM_lt (h2.q k hk)) ?_), h3, h4⟩
  · rintro rfl
    exact r2 (h2.f k hk)
  · rintro rfl
    exact r1 (h2.q k hk)
theorem CopySt.bound {w : World} {F : Nat → Prop} {go no no' : Nat} {So : St} {V : World} (h : CopySt w F go So no V) (hn : no ≤ no') : CopySt w F go So no' V := by
  obtain ⟨h1, Qo, Fo, h2, h3, h4⟩ := h
  exact ⟨h1, Qo, Fo, h2.mono hn, h3, h4⟩
/-- A bucket more. -/
theorem CopySt.make {w : World} {F : Nat → Prop} {go no : Nat} {So : St} {V : World} (h : CopySt w F go So no V) {s : List UInt8} (hs : s ∉ So.B) (hl : s.length ≤ maxLen) (hn : no < 1000000) :
    ∃ mbo w7, V.cell? ⟨go, 0, none⟩ = some (.map (some mbo)) ∧ (Instr.mapUpdate 59 (.map (some mbo)) (.string (mkS s)) (.map (some V.heap.size))).run Tryd.prog (V.alloc (.map #[] 0)) = .ok () w7 ∧ CopySt w F go { So with B := So.B ++ [s] } (no + 1) w7 ∧ KeepIt w V w7 := by
  obtain ⟨h1, Qo, Fo, h2, h3, h4⟩ := h
  obtain ⟨mb, D, hO⟩ := h2.ex
  obtain ⟨w7, e1, e2, e3⟩ := (hO.o.alloc (.map #[] 0)).update KS Tryd.underlying59 (by unfold maxLen; omega) (key_str s hl) (show R1 (.map (some V.heap.size)) = some (.lit (.int .i64 V.heap.size), []) from rfl)
  obtain ⟨m1, m2⟩ := made hO h2.q h2.f h2.nd h2.off hs e2 e3
  have hq := h3 mb hO.qm
  refine ⟨mb, w7, (blk_cell hO.c 0).trans rfl, e1, ⟨m2.below h1 h1.size h3, _, Fo, m1, fun k hk => ?_, h4⟩, m2.size, fun k hk hh => ?_⟩
  · rcases hk with hk | rfl
    · exact h3 k hk
    · exact h1.size
  · refine m2.block k hk (fun hQ => ?_)
    rcases hh with hh | hh
    · have := h3 k hQ
      omega
    · exact hh (h2.q k hQ)
/-- A key's versions. -/
theorem CopySt.put {w : World} {F : Nat → Prop} {go no : Nat} {So : St} {V : World} (hF : ∀ k, F k → IsC w k) (h : CopySt w F go So no V) {b : List UInt8} (hb : b ∈ So.B) (hl : b.length ≤ maxLen) (hn : no < 1000000) :
    ∃ mbo ib, (∀ W, Below V.heap.size V W → W.cell? ⟨go, 0, none⟩ = some (.map (some mbo)) ∧ (Instr.lookup 59 (.map (some mbo)) (.string (mkS b)) false).run Tryd.prog W = .ok (.map (some ib)) W) ∧
      ∀ (W : World) (v' : Value) (k : List UInt8) (l : List Kp) (news : List Value), Below V.heap.size V W → k.length ≤ maxLen → W.ownsRow V.heap.size 74 5 v' l.length news → Reps (KpF w F) 5 l news →
        ∃ w7, (Instr.mapUpdate 63 (.map (some ib)) (.string (mkS k)) v').run Tryd.prog W = .ok () w7 ∧ CopySt w F go (So.put b k l) (no + 1) w7 ∧ KeepIt w V w7 ∧ w7.cell? ⟨go, 0, none⟩ = some (.map (some mbo)) ∧ (Instr.lookup 59 (.map (some mbo)) (.string (mkS b)) false).run Tryd.prog w7 = .ok (.map (some ib)) w7 := by
  obtain ⟨h1, Qo, Fo, h2, h3, h4⟩ := h
  obtain ⟨mb, D, hO⟩ := h2.ex
  obtain ⟨ib, hat, hqi, hne, hin⟩ := hO.at_ b hb
  obtain ⟨D2, o2, hv2⟩ := hin
  refine ⟨mb, ib, fun W hW => ?_, fun W v' k l news hW hk ho hr => ?_⟩
  · have hO' := hO.below h2.q h2.f hW
    refine ⟨(blk_cell hO'.c 0).trans rfl, ?_⟩
    obtain ⟨v, ps, hrun, hv⟩ := hO'.o.lookup KS Tryd.underlying59 (zero63 W) (zd := .nil) (zp := []) rfl (key_str b hl)
    rw [hat] at hv
    rw [hrun, R1_one hv (show R1 (.map (some ib)) = some (.lit (.int .i64 ib), []) from rfl)]
  · have oW := ownsMap_kept o2 (hW.block ib (isM_lt (h2.q ib hqi)))
    have hrs := rowV_of_own (F := fun j => F j ∨ v'.ownBlock = some j) ho (reps_mono (reps_kept hr ((below_cells h1 hF).trans (fun j hj => hW.block j (Nat.lt_of_lt_of_le (isC_lt (hF j hj)) h1.size)))) fun j hj => .inl hj) rfl (fun j hj => .inr hj)
    obtain ⟨d, hd⟩ := hrs.r2
    obtain ⟨w7, e1, e2, e3⟩ := oW.update KS Tryd.underlying63 (by unfold maxLen; omega) (key_str k hk) hd
    have hib := h3 ib hqi
    have hmv : Moved (fun j => j = ib) V w7 := (Moved.of_below hW).trans (Moved.of_grown e3 (Q := fun j => j = ib) rfl) (fun i hi => .inl hi)
    have hfk : FKept F w w7 := fun j hj => by
      have hj2 := isC_lt (hF j hj)
      exact (hmv.block j (Nat.lt_of_lt_of_le hj2 h1.size) (by intro e; omega)).trans (h1.block j hj2)
    have ho7 := own_other ho e3 (by
      cases hob : v'.ownBlock with
      | none => exact .inl rfl
      | some j =>
        refine .inr fun e => ?_
        injection e with e
        have := own_base ho j hob
        have := isM_lt (h2.q ib hqi)
        omega)
    have hrow := rowV_of_own (F := fun j => Fo j ∨ F j ∨ v'.ownBlock = some j) ho7 (reps_mono (reps_kept hr hfk) fun j hj => .inr (.inl hj)) rfl (fun j hj => .inr (.inr hj))
    have hck : FKept Fo V w7 := hmv.cells (fun j hj => by subst hj; exact h2.q j hqi) h2.f
    obtain ⟨s1, s2⟩ := stored h2.q h2.f (F' := fun j => Fo j ∨ F j ∨ v'.ownBlock = some j) (fun j hj => .inl hj) (fun j hj => by
      rcases hj with hj | hj | hj
      · obtain ⟨a, b, c, e⟩ := h2.f j hj
        exact ⟨a, b, c, (hck j hj).trans e⟩
      · obtain ⟨a, b, c, e⟩ := hF j hj
        exact ⟨a, b, c, (hfk j hj).trans e⟩
      · obtain ⟨cells, hc⟩ := own_typed ho7 j hj
        exact ⟨_, _, _, hc⟩) h2.nd h2.off hO hb hat hqi hne o2 hv2 hd e2 hmv hrow
    have hm7 := hmv.block mb (isM_lt (h2.q mb hO.qm)) (fun e => hne e.symm)
    have hgo7 := hmv.block go (isC_lt (h2.f go hO.fg)) (fun e => isC_not (h2.f go hO.fg) (by rw [show go = ib from e]; exact h2.q ib hqi))
    refine ⟨w7, e1, ⟨s2.below h1 h1.size h3, _, _, s1, h3, fun j hj => ?_⟩, ⟨s2.size, fun j hj hh => ?_⟩, (blk_cell (hgo7.trans hO.c) 0).trans rfl, ?_⟩
    rotate_left 2
    · obtain ⟨v, ps, hrun, hv⟩ := (ownsMap_kept hO.o hm7).lookup KS Tryd.underlying59 (zero63 w7) (zd := .nil) (zp := []) rfl (key_str b hl)
      rw [hat] at hv
      rw [hrun, R1_one hv (show R1 (.map (some ib)) = some (.lit (.int .i64 ib), []) from rfl)]
    · rcases hj with hj | hj | hj
      · exact h4 j hj
      · exact .inl hj
      · exact .inr (Nat.le_trans h1.size (own_base ho j hj))
    · refine s2.block j hj (fun hQ => ?_)
      rcases hh with hh | hh
      · have := h3 j hQ
        omega
      · exact hh (h2.q j hQ)

/-! ### what the two loops hold -/
/-- The buckets that have come are there, whole. -/
def OutSt (S So : St) (left : Lit → Bool) : Prop := (∀ s, s ∈ So.B ↔ s ∈ S.B ∧ left (.string s) = false) ∧ ∀ s, s ∈ So.B → ∀ k, So.V s k = S.V s k
/-- .. and of bucket s the keys that have come. -/
def InnSt (S So S1 : St) (s : List UInt8) (left : Lit → Bool) : Prop := S1.B = So.B ++ [s] ∧ (∀ t, t ≠ s → ∀ k, S1.V t k = So.V t k) ∧ ∀ k, S1.V s k = if left (.string k) = true then [] else S.V s k
theorem outSt_start {S : St} {has : Lit → Bool} (h : ∀ s, has (.string s) = decide (s ∈ S.B)) : OutSt S St.new has := by
  refine ⟨fun s => ⟨fun e => absurd e List.not_mem_nil, fun ⟨h1, h2⟩ => ?_⟩, fun s e => absurd e List.not_mem_nil⟩
  rw [h, decide_eq_true h1] at h2
  cases h2
theorem innSt_start {S So : St} {s : List UInt8} {has : Lit → Bool} (hoff : ∀ k, So.V s k = []) (h : ∀ k, has (.string k) = false → S.V s k = []) : InnSt S So { So with B := So.B ++ [s] } s has := by
  refine ⟨rfl, fun t _ k => rfl, fun k => ?_⟩
  show So.V s k = _
  rw [hoff]
  cases hk : has (.string k) with
  | true => rw [if_pos rfl]
  | false => rw [if_neg (by simp), h k hk]
theorem innSt_step {S So S1 : St} {s k : List UInt8} {left : Lit → Bool} (h : InnSt S So S1 s left) : InnSt S So (S1.put s k (S.V s k)) s (fun x => left x && !x.sameKey (.string k)) := by
  obtain ⟨h1, h2, h3⟩ := h
  refine ⟨h1, fun t ht k' => ?_, fun k' => ?_⟩
  · show (if t = s ∧ k' = k then _ else S1.V t k') = _
    rw [if_neg (fun e => ht e.1)]
    exact h2 t ht k'
  · show (if s = s ∧ k' = k then _ else S1.V s k') = _
    by_cases e : k' = k
    · subst e
      rw [if_pos ⟨rfl, rfl⟩, if_neg (by simp [WideAt.sameKey_self (isKey_str k')])]
    · rw [if_neg (fun e' => e e'.2), h3]
      have : (Lit.string k').sameKey (.string k) = false := by
        cases hs : (Lit.string k').sameKey (.string k) with
        | false => rfl
        | true =>
          have := WideAt.sameKey_eq hs
          injection this with this
          exact absurd this e
      simp [this]
theorem outSt_step {S So S1 : St} {s : List UInt8} {left left2 : Lit → Bool} (h : OutSt S So left) (hs : s ∈ S.B) (h1 : InnSt S So S1 s left2) (hl : ∀ x, left2 x = false) : OutSt S S1 (fun x => left x && !x.sameKey (.string s)) := by
  obtain ⟨a1, a2⟩ := h
  obtain ⟨b1, b2, b3⟩ := h1
  have hne : ∀ t, t ≠ s → (Lit.string t).sameKey (.string s) = false := fun t ht => by
    cases hk : (Lit.string t).sameKey (.string s) with
    | false => rfl
    | true =>
      have := WideAt.sameKey_eq hk
      injection this with this
      exact absurd this ht
  refine ⟨fun t => ?_, fun t ht k => ?_⟩
  · rw [b1, List.mem_append, List.mem_singleton]
    by_cases e : t = s
    · subst e
      simp [WideAt.sameKey_self (isKey_str t), hs]
    · simp [hne t e, e, a1 t]
  · by_cases e : t = s
    · subst e
      rw [b3, hl]
      simp
    · rw [b2 t e]
      rw [b1, List.mem_append, List.mem_singleton] at ht
      exact a2 t (ht.resolve_right e) k
theorem outSt_end {S So : St} {left : Lit → Bool} (h : OutSt S So left) (hl : ∀ x, left x = false) (off : ∀ s, s ∉ S.B → ∀ k, S.V s k = []) (off' : ∀ s, s ∉ So.B → ∀ k, So.V s k = []) : (∀ s, s ∈ S.B ↔ s ∈ So.B) ∧ ∀ s k, S.V s k = So.V s k := by
  have hB : ∀ s, s ∈ S.B ↔ s ∈ So.B := fun s => by
    rw [h.1 s, hl]
    simp
  refine ⟨hB, fun s k => ?_⟩
  by_cases e : s ∈ So.B
  · exact (h.2 s e k).symm
  · rw [off' s e, off s (fun e' => e ((hB s).1 e'))]
end Go.Proofs.YtjbjcfnbgcloiaaDoor

/- Copy of package model. -/
namespace Go.Proofs.YtjbjcfnbgcloiaaDoor
open Go.RowKit Nam YtjbjcfnbgcloiaaDoorW.PrintWords

theorem key_inv : ∀ key kl, keyOf Tryd.prog 9 key = some kl → ∃ x : List UInt8, key = .string (mkS x) := fun key kl h => by
  obtain ⟨s, rfl, _, _⟩ := WideMaps.string_of_keyOf Tryd.underlying9 h
  exact ⟨s.data.toList, by rw [mkS_of]⟩
theorem key_is_ {s : List UInt8} {kl : Lit} (h : keyOf Tryd.prog 9 (.string (mkS s)) = some kl) : s.length ≤ maxLen ∧ kl = .string s := by
  obtain ⟨s', e, rfl, hs⟩ := WideMaps.string_of_keyOf Tryd.underlying9 h
  injection e with e
  subst e
  exact ⟨by rw [mkS_size] at hs; exact hs, by rw [mkS_list]⟩
theorem r1_inv : ∀ v (y : DataW Unit × List MemPlace), R1 v = some y → ∃ p : Option Nat, v = .map p := fun v y h => by
  rcases R1_inv (show R1 v = some (y.1, y.2) from h) with ⟨e, _⟩ | ⟨b, e, _⟩
  · exact ⟨_, e⟩
  · exact ⟨_, e⟩
theorem r2_inv : ∀ v (y : DataW Unit × List MemPlace), R2 v = some y → ∃ q : Option Addr × Nat × Nat, v = .slice q.1 q.2.1 q.2.2 := fun v y h => by
  rcases R2_inv (show R2 v = some (y.1, y.2) from h) with ⟨e, _⟩ | ⟨g, n, c, e, _⟩
  · exact ⟨(none, 0, 0), e⟩
  · exact ⟨(some ⟨g, 0, none⟩, n, c), e⟩
theorem outer_came {w : World} {g n mb : Nat} {S : St} {Q F : Nat → Prop} {D : DataW Unit} (h : Outer w g S n Q F mb D) (hq : ∀ k, Q k → IsM w k) {s : List UInt8} {kl : Lit} {p : Option Nat} {y : DataW Unit × List MemPlace} (hkey : keyOf Tryd.prog 9 (.string (mkS s)) = some kl) (hv : R1 (.map p) = some y) (hat : ∀ zd, D.atKey kl zd = y.1) :
    s.length ≤ maxLen ∧ kl = .string s ∧ s ∈ S.B ∧ ∃ ib D2, p = some ib ∧ ib < w.heap.size ∧ w.ownsMap Tryd.prog 9 R2 ib n D2 ∧ ∀ k, ∃ v ps, R2 v = some (D2.atKey (.string k) .nil, ps) ∧ RowV w F v (S.V s k) := by
  obtain ⟨hl, rfl⟩ := key_is_ hkey
  have hh := Maps.has_true_of_atKey hat
  rw [h.hs, decide_eq_true_iff] at hh
  obtain ⟨b, e1, e2, _, D2, e4, e5⟩ := h.at_ s hh
  refine ⟨hl, rfl, hh, b, D2, ?_, isM_lt (hq b e2), e4, e5⟩
  rw [hat .nil] at e1
  have := R1_one (show R1 (.map p) = some (y.1, y.2) from hv) (show R1 (.map (some b)) = some (y.1, []) by rw [e1]; rfl)
  injection this
theorem inner_came {w : World} {F : Nat → Prop} {D2 : DataW Unit} {f : List UInt8 → List Kp} (h : ∀ k, ∃ v ps, R2 v = some (D2.atKey (.string k) .nil, ps) ∧ RowV w F v (f k)) {k : List UInt8} {kl : Lit} {v : Value} {y : DataW Unit × List MemPlace} (hkey : keyOf Tryd.prog 9 (.string (mkS k)) = some kl) (hv : R2 v = some y) (hat : ∀ zd, D2.atKey kl zd = y.1) :
    k.length ≤ maxLen ∧ kl = .string k ∧ RowV w F v (f k) := by
  obtain ⟨hl, rfl⟩ := key_is_ hkey
  obtain ⟨v', ps, e1, e2⟩ := h k
  rw [hat .nil] at e1
  rw [R2_one (show R2 v = some (y.1, y.2) from hv) e1]
  exact ⟨hl, rfl, e2⟩
theorem inner_off {w : World} {F : Nat → Prop} {D2 : DataW Unit} {f : List UInt8 → List Kp} (h : ∀ k, ∃ v ps, R2 v = some (D2.atKey (.string k) .nil, ps) ∧ RowV w F v (f k)) (k : List UInt8) (hk : Maps.has D2 (.string k) = false) : f k = [] := by
  obtain ⟨v', ps, e1, e2⟩ := h k
  rw [sm_none k hk] at e1
  have := R2_one e1 (show R2 (.slice none 0 0) = some (.nil, []) from rfl)
  subst this
  obtain ⟨A, c, e, _⟩ := e2.slice
  injection e with _ e _
  exact List.length_eq_zero_iff.1 e.symm
theorem kclone_cl (w V : World) (F : Nat → Prop) (v : Value) (l : List Kp) (hF : ∀ k, F k → IsC w k) (hl : l.length ≤ 1000) (h : RowV w F v l) (hw : Below w.heap.size w V) :
    ∃ news, Reps (KpF w F) 5 l news ∧ ∀ W, Below V.heap.size V W → Calls Tryd.prog 38 #[v] W fun e w' => (∃ v', e = .returned v' ∧ Hid (w'.ownsRow V.heap.size 74 5 v' l.length news)) ∧ Below V.heap.size V w' := by
  obtain ⟨news, h1, h2⟩ := h
  refine ⟨news, h2, fun W hW => ?_⟩
  have hw2 := hw.trans (hW.mono hw.size)
  refine (kclone_at W F v news l.length hl h2.1 (reps_ones h2) (h1.kept (below_cells hw2 hF))).mono fun e w' ⟨⟨v', he, ho⟩, hb⟩ => ⟨⟨v', he, own_weaken ho hW.size⟩, hW.trans (hb.mono hW.size)⟩

def CopyIs (S : St) (n : Nat) (F : Nat → Prop) (w : World) (e : Ending) (w' : World) : Prop :=
  (∃ g' Q' F', e = .returned (.pointer (some ⟨g', 0, none⟩)) ∧ HasM w' g' S (n * (n + 2)) Q' F' ∧ (∀ k, Q' k → w.heap.size ≤ k) ∧ ∀ k, F' k → F k ∨ w.heap.size ≤ k) ∧ Below w.heap.size w w'
theorem copy_fin {w V : World} {g go no n : Nat} {S So : St} {Q F : Nat → Prop} {left : Lit → Bool} (hm : HasM w g S n Q F) (h : CopySt w F go So no V) (ho : OutSt S So left) (hl : ∀ x, left x = false) (hn : no ≤ n * (n + 2)) : CopyIs S n F w (.returned (.pointer (some ⟨go, 0, none⟩))) V := by
  obtain ⟨h1, Qo, Fo, h2, h3, h4⟩ := h
  obtain ⟨e1, e2⟩ := outSt_end ho hl hm.off h2.off
  exact ⟨⟨go, Qo, Fo, rfl, (h2.perm hm.nd e1 e2).mono hn, h3, h4⟩, h1⟩
theorem cnt_step {no n1 cnt cnt3 n : Nat} (h : no + cnt * (n + 2) ≤ n * (n + 2)) (h3 : cnt3 < cnt) (h1 : n1 ≤ no + 1 + n) : n1 + cnt3 * (n + 2) ≤ n * (n + 2) := by
  have : (cnt3 + 1) * (n + 2) ≤ cnt * (n + 2) := Nat.mul_le_mul_right _ h3
  rw [Nat.succ_mul] at this
  omega
theorem cnt_le {no cnt n : Nat} (h : no + cnt * (n + 2) ≤ n * (n + 2)) (hn : n ≤ 300) : no < 100000 := by
  have : n * (n + 2) ≤ 300 * (300 + 2) := Nat.mul_le_mul hn (by omega)
  omega

set_option maxHeartbeats 4000000 in
set_option maxRecDepth 100000 in
theorem copy_is (w : World) (g : Nat) (S : St) (n : Nat) (Q F : Nat → Prop) (hn : n ≤ 300) (hl : ∀ b k, (S.V b k).length ≤ 1000) (hm : HasM w g S n Q F) :
    Calls Tryd.prog 16 #[.pointer (some ⟨g, 0, none⟩)] w (CopyIs S n F w) := by
  obtain ⟨mb, D, hO⟩ := hm.ex
  have hmb : mb < w.heap.size := isM_lt (hm.q mb hO.qm)
  have HCm : Hid (∀ V, Below w.heap.size w V → V.cell? ⟨g, 0, none⟩ = some (.map (some mb)) ∧ V.ownsMap Tryd.prog 9 R1 mb n D) := fun V hV => by
    have hO' := hO.below hm.q hm.f hV
    exact ⟨(blk_cell hO'.c 0).trans rfl, hO'.o⟩
  have HNew : Hid (Calls Tryd.prog 8 #[] w fun e w' => (∃ go, e = .returned (.pointer (some ⟨go, 0, none⟩)) ∧ Hid (CopySt w F go St.new 0 w')) ∧ Below w.heap.size w w') :=
    (new_is w).mono fun e w' ⟨⟨g', Q', F', he, h1, h2, h3⟩, hb⟩ => ⟨⟨g', he, hb, Q', F', h1, h2, fun k hk => .inr (h3 k hk)⟩, hb⟩
  have HM := Lib.hid hm
  have HOO := Lib.hid hO
  have HL := Lib.hid hl
  have hmm := @run_makeMap Tryd.prog
  have hsz0 : Maps.size D ≤ n := hO.o.size_le
  have HSZ := Lib.hid hsz0
  clear hO hm hl hsz0
  go_enter Tryd.func16, Tryd.ntmps16
  go_wp2_with (first | (go_at_call 8; refine HNew.out.mono ?_; rintro e w1 ⟨⟨go, rfl, HS1⟩, hb1⟩; obtain ⟨c1, o1⟩ := HCm.out w1 hb1) | (at_range; refine wpList_range_own _ rfl _ 59 rfl 9 63 KS Tryd.underlying59 R1 mb n D rfl o1 ?_; intro w2 hrg2 hg2 hs2))
  obtain ⟨r, hr⟩ : ∃ r, w1.heap.size = r := ⟨_, rfl⟩
  have hwr : w.heap.size ≤ r := by rw [← hr]; exact hb1.size
  rw [hr] at hrg2 ⊢
  have HS2 : Hid (CopySt w F go St.new 0 w2) := HS1.out.go_below (grown_below' hg2)
  clear HS1 hb1 c1 o1 hg2 hs2 hr
  go_frame
  go_loopw [16] (fun _ wr => ∃ (So : St) (no : Nat) (left : Lit → Bool) (cnt : Nat), Hid (CopySt w F go So no wr) ∧ wr.ranges Tryd.prog 9 R1 mb r n D left cnt ∧ Hid (OutSt S So left ∧ no + cnt * (n + 2) ≤ n * (n + 2))) (fun _ wr => wr.rangeLeft mb r)
  case atStart => exact ⟨St.new, 0, _, _, HS2, hrg2, outSt_start HOO.out.hs, by rw [Nat.zero_add]; exact Nat.mul_le_mul_right _ HSZ.out⟩
  case round =>
    clear HS2 hrg2
    obtain ⟨So, no, left, cnt, HS, hrg, HO⟩ := hrel
    obtain ⟨wo, rfl⟩ : ∃ wo : World, wo = wr := ⟨_, rfl⟩
    go_wp2_with (at_next; refine wpList_next_ranges _ rfl _ rfl 9 KS R1 (fun s : List UInt8 => .string (mkS s)) (fun p : Option Nat => .map p) key_inv r1_inv mb r n D left cnt rfl hrg ?_ ?_)
    · intro h0 hl0
      have HL0 := Lib.hid hl0
      clear hl0
      go_wp2
      go_ret
      exact copy_fin HM.out HS.out HO.out.1 HL0.out (by have := HO.out.2; omega)
    · intro s p kl yd yp w3 cnt3 hkey hlk hv hat hrg3 hlt hg3 hs3 hen
      obtain ⟨hsl, rfl, hsB, ib, D2, rfl, hib, o2, hv2⟩ := outer_came HOO.out HM.out.q hkey hv hat
      have hit := ranges_iter hrg
      have HS3 := HS.out.iter hg3 hit hwr
      have hsno : s ∉ So.B := fun e => by
        have := ((HO.out.1.1 s).1 e).2
        rw [hlk] at this
        cases this
      obtain ⟨mbo, w7, k1, k2, HS7, hk7⟩ := HS3.make hsno hsl (Nat.lt_of_lt_of_le (cnt_le HO.out.2 hn) (by omega))
      have hrg7 := ranges_keep hrg3 hk7 hmb
      have o7 := ownsMap_kept o2 ((HS7.below).block ib hib)
      have HS7h := Lib.hid HS7
      have HIB := Lib.hid hib
      have HV2 := Lib.hid hv2
      have HSB := Lib.hid hsB
      have HSL := Lib.hid hsl
      have HHAT := Lib.hid hsno
      have HLT := Lib.hid hlt
      have HOW := Lib.hid o2
      clear hkey hlk hv hat hrg3 hg3 hs3 hit HS3 hsno HS7 hk7 hsB hsl hib hv2 o2 hlt
      go_wp2_with (at_range; refine wpList_range_own _ rfl _ 63 rfl 9 77 KS Tryd.underlying63 R2 ib n D2 rfl o7 ?_; intro w8 hrg8 hg8 hs8)
      go_frame
      obtain ⟨r2, hr2⟩ : ∃ r2, w7.heap.size = r2 := ⟨_, rfl⟩
      rw [hr2] at hrg8 ⊢
      have hwr2 : w.heap.size ≤ r2 := by rw [← hr2]; exact HS7h.out.below.size
      have hne2 : r ≠ r2 := by
        have := (notMC_not (ranges_iter hrg7)).2.2
        omega
      have hsz2 : Maps.size D2 ≤ n := HOW.out.size_le
      have HSZ2 := Lib.hid hsz2
      have HS8 : Hid (CopySt w F go { So with B := So.B ++ [s] } (no + 1) w8) := HS7h.out.go_below (grown_below' hg8)
      have hrg8o := hrg7.kept hg8 (by simp) (by simp)
      have HNE2 := Lib.hid hne2
      clear hg8 hs8 hrg7 hr2 hne2 hsz2 o7 k1 k2 hen
      go_loopw [29] (fun _ wr => ∃ (S1 : St) (n1 : Nat) (left2 : Lit → Bool) (cnt2 : Nat), Hid (CopySt w F go S1 n1 wr) ∧ wr.ranges Tryd.prog 9 R1 mb r n D (fun z => left z && !z.sameKey (.string s)) cnt3 ∧ wr.ranges Tryd.prog 9 R2 ib r2 n D2 left2 cnt2 ∧ Hid (InnSt S So S1 s left2 ∧ n1 + cnt2 ≤ no + 1 + n)) (fun _ wr => wr.rangeLeft ib r2)
      case atStart =>
        refine ⟨_, _, _, _, HS8, hrg8o, hrg8, (show Hid _ from ⟨innSt_start (fun k => ?_) (fun k hk => inner_off HV2.out k hk), ?_⟩)⟩
        · obtain ⟨Qo, Fo, h2, _⟩ := HS.out.ex
          exact h2.off s HHAT.out k
        · have := HSZ2.out
          omega
      case round =>
        clear HS8 hrg8o hrg8
        obtain ⟨S1, n1, left2, cnt2, HS1, hro, hri, HI⟩ := hrel
        obtain ⟨wi, rfl⟩ : ∃ wi : World, wi = wr := ⟨_, rfl⟩
        go_wp2_with (at_next; refine wpList_next_ranges _ rfl _ rfl 9 KS R2 (fun k : List UInt8 => .string (mkS k)) (fun q : Option Addr × Nat × Nat => .slice q.1 q.2.1 q.2.2) key_inv r2_inv ib r2 n D2 left2 cnt2 rfl hri ?_ ?_)
        · intro h0 hl0
          have HL0 := Lib.hid hl0
          clear hl0
          go_wp2
          go_roundw
          case rel => exact ⟨S1, n1, _, cnt3, HS1, hro, outSt_step HO.out.1 HSB.out HI.out.1 HL0.out, cnt_step HO.out.2 HLT.out (by have := HI.out.2; omega)⟩
          case measure => rw [hro.left_eq, hrg.left_eq]; exact HLT.out
        · intro k A m c kl yd yp w9 cnt4 hkey hlk hv hat hri9 hlt2 hg9 hs9 hen2
          obtain ⟨hkl, rfl, hrow⟩ := inner_came HV2.out hkey hv hat
          have HS9 := HS1.out.iter hg9 (ranges_iter hri) hwr2
          have hro9 := hro.kept hg9 (by intro e; injection e with e; omega) (by intro e; injection e with e; exact HNE2.out e)
          have hno := cnt_le HO.out.2 hn
          obtain ⟨mbo2, ib2, p1, p2⟩ := HS9.put HM.out.f (b := s) (by rw [HI.out.1.1]; simp) HSL.out (by have := HI.out.2; omega)
          obtain ⟨news, hr1, hcl⟩ := kclone_cl w w9 F _ (S.V s k) HM.out.f (HL.out s k) hrow HS9.below
          have HQ := Lib.hid p1
          have HC := Lib.hid hcl
          have HU : Hid (∀ W v', Below w9.heap.size w9 W → W.ownsRow w9.heap.size 74 5 v' (S.V s k).length news → ∃ w7, (Instr.mapUpdate 63 (.map (some ib2)) (.string (mkS k)) v').run Tryd.prog W = .ok () w7 ∧ Hid (CopySt w F go (S1.put s k (S.V s k)) (n1 + 1) w7) ∧ Hid (KeepIt w w9 w7) ∧ w7.cell? ⟨go, 0, none⟩ = some (.map (some mbo2)) ∧ (Instr.lookup 59 (.map (some mbo2)) (.string (mkS s)) false).run Tryd.prog w7 = .ok (.map (some ib2)) w7) := fun W v' hW ho => p2 W v' k _ news hW hkl ho hr1
          have HLT2 := Lib.hid hlt2
          have hb9 : Below w9.heap.size w9 w9 := Below.refl _ _
          have hb9d : Below w9.heap.size w9 w9.drew := (Below.refl _ _).drew
          clear hkey hlk hv hat hg9 hs9 hkl hrow hro hno p1 p2 hr1 hcl hlt2 HS9
          go_wp2_with fail
          go_region_held3 (fun V => V.cell? ⟨go, 0, none⟩ = some (.map (some mbo2)) ∧ (Instr.lookup 59 (.map (some mbo2)) (.string (mkS s)) false).run Tryd.prog V = .ok (.map (some ib2)) V) (first | exact HQ.out _ (by assumption) | exact ⟨HC11, HL11⟩) ((go_at_call 38; refine (HC.out _ (by assumption)).mono ?_; rintro e w10 ⟨⟨v', rfl, HOW'⟩, hb10⟩; obtain ⟨w11, run11, HS11, HK11, HC11, HL11⟩ := HU.out _ v' hb10 HOW'.out))
          all_goals
            have HRo := Lib.hid (ranges_keep hro9 HK11.out hmb)
            have HRi := Lib.hid (ranges_keep hri9 HK11.out HIB.out)
            go_roundw
            case rel => exact ⟨_, _, _, _, _, _, _, _, _, _, _, _, _, _, _, _, ⟨_, _, _, cnt4, HS11, HRo.out, HRi.out, (show Hid _ from ⟨innSt_step HI.out.1, by have := HI.out.2; have := HLT2.out; omega⟩)⟩, rfl⟩
            case measure => rw [HRi.out.left_eq, hri.left_eq]; exact HLT2.out
end Go.Proofs.YtjbjcfnbgcloiaaDoor

/- full$1 of package model: is a row empty? -/

namespace Go.Proofs.YtjbjcfnbgcloiaaDoor
open Go.RowKit Nam YtjbjcfnbgcloiaaDoorW.PrintWords

set_option maxRecDepth 100000 in
theorem fullp_is (w : World) (s : Value) (A : Option Addr) (n c : Nat) :
    Calls Tryd.prog 55 #[s, .slice A n c] w fun e w' => e = .returned (.bool (decide (n = 0))) ∧ w = w' := by
  by_cases h : n = 0
  · subst h
    have hz : decide ((0 : Int) = 0) = true := by decide
    go_enter Tryd.func55, Tryd.ntmps55
    go_wp2_with fail
    go_ret
    exact ⟨rfl, rfl⟩
  · have hd : decide ((n : Int) = 0) = false := decide_eq_false (by omega)
    have hd2 : ((n : Int) == 0) = false := by simp; omega
    have HH : Hid (decide (n = 0) = false) := decide_eq_false h
    rw [HH.out]
    go_enter Tryd.func55, Tryd.ntmps55
    go_wp2_with fail
    go_ret
    simp [hd2]
end Go.Proofs.YtjbjcfnbgcloiaaDoor

/- full of package model: a bucket's keys that have versions. -/
namespace Go.Proofs.YtjbjcfnbgcloiaaDoor
open Go.RowKit Nam YtjbjcfnbgcloiaaDoorW.PrintWords

def tokNone : DataW Unit → Bool
  | .agg [_, .lit (.int _ n), _] => decide (n = 0)
  | _ => true
theorem fullp_tok (w : World) (s val : Value) (yd : DataW Unit) (yp : List MemPlace) (h : R2 val = some (yd, yp)) :
    Calls Tryd.prog 55 #[s, val] w fun e w' => e = .returned (.bool (tokNone yd)) ∧ w = w' := by
  rcases R2_inv h with ⟨rfl, rfl⟩ | ⟨g, n, c, rfl, rfl⟩
  · exact (fullp_is w s none 0 0).mono fun e w' ⟨h1, h2⟩ => ⟨by rw [h1]; rfl, h2⟩
  · refine (fullp_is w s (some ⟨g, 0, none⟩) n c).mono fun e w' ⟨h1, h2⟩ => ⟨?_, h2⟩
    rw [h1]
    show _ = Ending.returned (.bool (decide ((n : Int) = 0)))
    congr 2
    simp

set_option maxHeartbeats 1000000 in
set_option maxRecDepth 100000 in
theorem full_is (w : World) (b n : Nat) (D : DataW Unit) (ho : w.ownsMap Tryd.prog 9 R2 b n D) :
    Calls Tryd.prog 37 #[.map (some b)] w fun e w' => (∃ b', e = .returned (.map (some b')) ∧ w.heap.size ≤ b' ∧ w'.ownsMap Tryd.prog 9 R2 b' n (Lib.deleteFuncD (fun _ yd => tokNone yd) D)) ∧ Below w.heap.size w w' := by
  obtain ⟨es, clock, hb, hrest⟩ := ho
  obtain ⟨W1, hW1⟩ : ∃ W1, w.alloc (.map es clock) = W1 := ⟨_, rfl⟩
  have hnew : W1.heap[w.heap.size]? = some (.map es clock) := by rw [← hW1]; exact heap_alloc_new w _
  have hb1 : Below w.heap.size w W1 := by rw [← hW1]; exact (Below.refl _ _).alloc (Nat.le_refl _) _
  have hcl := AnyW.maps_Clone Tryd.mcloneK b es clock w hb
  rw [hW1] at hcl
  have HCl := Lib.hid hcl
  have eg : ∀ args w, (callFunc 55 args).run Tryd.prog w = .ok (.enter 55 args) w := enters_of Tryd.func55 (by kernel_rfl) rfl
  have hde := AnyDf.maps_DeleteFunc Tryd.mdelK KS R2 (fun _ yd => tokNone yd) 55 #[] w.heap.size n D W1 eg ⟨es, clock, hnew, hrest⟩ (fun W key val kl yd yp _ _ hv => (fullp_tok W key val yd yp hv).mono fun e w' ⟨h1, h2⟩ => ⟨h1, h2 ▸ World.grownBy.refl _ _⟩)
  have HDe := Lib.hid hde
  have HB1 := Lib.hid hb1
  clear hcl hde hb hrest hnew hb1 hW1 eg
  go_enter Tryd.func37, Tryd.ntmps37
  go_wp2_with (first | (go_at_call 53; refine HCl.out.mono ?_; rintro e w' ⟨rfl, rfl⟩) | (go_at_call 54; refine HDe.out.mono ?_; rintro e w2 ⟨rfl, ho2, hg2⟩))
  go_ret
  exact ⟨⟨_, rfl, Nat.le_refl _, ho2⟩, HB1.out.grown hg2 HB1.out.size (fun j hj => by injection hj with hj; omega)⟩
end Go.Proofs.YtjbjcfnbgcloiaaDoor

/- bytes.Equal of two versions' bytes. -/
namespace Go.Proofs.YtjbjcfnbgcloiaaDoor
open Go.RowKit Nam YtjbjcfnbgcloiaaDoorW.PrintWords

theorem bytesOf_byN (l : List UInt8) : Lib.bytesOf (byN l) = l := by
  have h := Lib.strOfNums_toList (byN l)
  rw [byN_str] at h
  rw [← h]
  show (mkS l).toList = l
  rw [Lib.toList_data]
  rfl
theorem bequal_is (w : World) (A B : Option Addr) (c d : Nat) (l m : List UInt8) (hA : (Kd.int .u8).C w A l.length (byN l)) (hB : (Kd.int .u8).C w B m.length (byN m)) :
    Calls Tryd.prog 31 #[.slice A l.length c, .slice B m.length d] w fun e w' => e = .returned (.bool (decide (l = m))) ∧ w = w' := by
  refine (Any.bytes_Equal { Tryd.bequalL with } _ _ (byN l) (byN m) w (Kd.C_string Tryd.bequalL.t37 Tryd.bequalL.t5 Tryd.bequalL.t9 hA) (Kd.C_string Tryd.bequalL.t37 Tryd.bequalL.t5 Tryd.bequalL.t9 hB)).mono fun e w' ⟨h1, h2⟩ => ⟨?_, h2.symm⟩
  rw [h1, bytesOf_byN, bytesOf_byN]
  congr 2
  by_cases e : l = m
  · subst e; simp
  · rw [decide_eq_false e]
    exact beq_eq_false_iff_ne.2 e
end Go.Proofs.YtjbjcfnbgcloiaaDoor

/- Same$1 of package model: are two versions alike? -/
namespace Go.Proofs.YtjbjcfnbgcloiaaDoor
open Go.RowKit Nam YtjbjcfnbgcloiaaDoorW.PrintWords

def alikeB (x y : Kp) : Bool := decide (x.id = y.id) && decide (x.mark = y.mark) && decide (x.sz = y.sz) && decide (x.sum = y.sum) && decide (x.dt = y.dt)
theorem alikeB_iff (x y : Kp) : alikeB x y = true ↔ x = y := by
  cases x; cases y
  simp [alikeB, and_assoc]
set_option maxHeartbeats 1000000 in
set_option maxRecDepth 100000 in
theorem alike_is (w : World) (F : Nat → Prop) (x y : Kp) (A B : Option Addr) (c d : Nat) (hF : ∀ k, F k → IsC w k) (hx : DatF w F A x.dt) (hy : DatF w F B y.dt) :
    Calls Tryd.prog 30 #[.agg #[.int .i64 x.id, .bool x.mark, .int .i64 x.sz, .int .u32 x.sum, .slice A x.dt.length c], .agg #[.int .i64 y.id, .bool y.mark, .int .i64 y.sz, .int .u32 y.sum, .slice B y.dt.length d]] w fun e w' => e = .returned (.bool (alikeB x y)) ∧ Below w.heap.size w w' := by
  have HBe : Hid (∀ V, Below w.heap.size w V → Calls Tryd.prog 31 #[.slice A x.dt.length c, .slice B y.dt.length d] V fun e w' => e = .returned (.bool (decide (x.dt = y.dt))) ∧ V = w') := fun V hV =>
    bequal_is V A B c d x.dt y.dt (hx.kept (below_cells hV hF)).now (hy.kept (below_cells hV hF)).now
  obtain ⟨r5, hr5⟩ : ∃ r, decide (x.dt = y.dt) = r := ⟨_, rfl⟩
  rw [hr5] at HBe
  have HR5 := Lib.hid hr5
  have hB2 : ∀ o1 o2, Below w.heap.size w ((w.alloc o1).alloc o2) := fun o1 o2 => ((Below.refl _ _).alloc (Nat.le_refl _) _).alloc (by simp) _
  have HB2 := Lib.hid hB2
  clear hx hy hF hr5 hB2
  go_enter Tryd.func30, Tryd.ntmps30
  go_wp2_with (go_at_call 31; refine (HBe.out _ (HB2.out _ _)).mono ?_; rintro e w' ⟨rfl, rfl⟩)
  all_goals
    go_ret
    refine ⟨?_, HB2.out _ _⟩
    have h5 := HR5.out
    show Ending.returned (Value.bool _) = _
    refine congrArg (fun z => Ending.returned (Value.bool z)) ?_
    simp [alikeB, *]
end Go.Proofs.YtjbjcfnbgcloiaaDoor

/- slices.EqualFunc of rows of versions. -/

namespace Go.Proofs.YtjbjcfnbgcloiaaDoor
open Go.RowKit Nam YtjbjcfnbgcloiaaDoorW.PrintWords

theorem row_cells {w : World} {F : Nat → Prop} {g n c : Nat} {l : List Kp} {zs : List (Kp × Option Addr × Nat)} (hz : zs.map Prod.fst = l)
    (hc : ∀ j, j < zs.length → zs[j]!.1.dt.length ≤ zs[j]!.2.2 ∧ DatF w F zs[j]!.2.1 zs[j]!.1.dt ∧ ∀ i v, (encK zs[j]!)[i]? = some v → w.cell? ⟨g, 0 + j * 5 + i, none⟩ = some v) (j : Nat) (hj : j < l.length) :
    ∃ (x : Kp) (A : Option Addr) (c : Nat), l[j]? = some x ∧ DatF w F A x.dt ∧ (∀ i v, (kpCells x (.slice A x.dt.length c))[i]? = some v → w.cell? ⟨g, j * 5 + i, none⟩ = some v) := by
  have hj2 : j < zs.length := by rw [← hz, List.length_map] at hj; exact hj
  obtain ⟨h1, h2, h3⟩ := hc j hj2
  refine ⟨zs[j]!.1, zs[j]!.2.1, zs[j]!.2.2, ?_, h2, fun i v hv => ?_⟩
  · rw [← hz, List.getElem?_map, go_at_ hj2]
    rfl
  · have := h3 i v hv
    rw [Nat.zero_add] at this
    exact this
/-- An element's cells, one by one. -/
structure KAt (w : World) (g o : Nat) (x : Kp) (A : Option Addr) (c : Nat) : Prop where
  c0 : w.cell? ⟨g, o, none⟩ = some (.int .i64 x.id)
  c1 : w.cell? ⟨g, o + 1, none⟩ = some (.bool x.mark)
  c2 : w.cell? ⟨g, o + 2, none⟩ = some (.int .i64 x.sz)
  c3 : w.cell? ⟨g, o + 3, none⟩ = some (.int .u32 x.sum)
  c4 : w.cell? ⟨g, o + 4, none⟩ = some (.slice A x.dt.length c)
theorem RowV.kat {w : World} {F : Nat → Prop} {g c : Nat} {l : List Kp} {n : Nat} (h : RowV w F (.slice (some ⟨g, 0, none⟩) n c) l) (j : Nat) (hj : j < l.length) : ∃ (x : Kp) (A : Option Addr) (c : Nat), l[j]? = some x ∧ DatF w F A x.dt ∧ KAt w g (j * 5) x A c := by
  obtain ⟨A, c', h1, h2, h3⟩ := h.at_ j (List.getElem?_eq_getElem hj)
  exact ⟨l[j], A, c', List.getElem?_eq_getElem hj, h2, ⟨h3 0 _ rfl, h3 1 _ rfl, h3 2 _ rfl, h3 3 _ rfl, h3 4 _ rfl⟩⟩
theorem KAt.below {w w' : World} {g o : Nat} {x : Kp} {A : Option Addr} {c : Nat} (h : KAt w g o x A c) (hb : Below w.heap.size w w') (hg : g < w.heap.size) : KAt w' g o x A c :=
  ⟨(hb.cell (p := ⟨g, o, none⟩) hg).trans h.c0, (hb.cell (p := ⟨g, o + 1, none⟩) hg).trans h.c1, (hb.cell (p := ⟨g, o + 2, none⟩) hg).trans h.c2, (hb.cell (p := ⟨g, o + 3, none⟩) hg).trans h.c3, (hb.cell (p := ⟨g, o + 4, none⟩) hg).trans h.c4⟩

theorem take_eq_succ {l m : List Kp} {k : Nat} {x y : Kp} (hx : l[k]? = some x) (hy : m[k]? = some y) (h : l.take k = m.take k) (e : x = y) : l.take (k + 1) = m.take (k + 1) := by
  rw [List.take_add_one, List.take_add_one, h, hx, hy, e]

set_option maxHeartbeats 2000000 in
set_option maxRecDepth 100000 in
theorem eqrows_is (w : World) (F F' : Nat → Prop) (v1 v2 : Value) (l m : List Kp) (hF : ∀ k, F k → IsC w k) (hF' : ∀ k, F' k → IsC w k) (h1 : RowV w F v1 l) (h2 : RowV w F' v2 m) (hl : l.length ≤ 100000) (hm : m.length ≤ 100000) :
    Calls Tryd.prog 33 #[v1, v2, .func (.func 30) #[] #[]] w fun e w' => e = .returned (.bool (decide (l = m))) ∧ Below w.heap.size w w' := by
  obtain ⟨A1, k1, hv1, hk1⟩ := h1.slice
  obtain ⟨A2, k2, hv2, hk2⟩ := h2.slice
  obtain ⟨n, hn⟩ : ∃ n, l.length = n := ⟨_, rfl⟩
  obtain ⟨n', hn'⟩ : ∃ n, m.length = n := ⟨_, rfl⟩
  by_cases hlen : n = n'
  · subst hlen
    by_cases h0 : n = 0
    · subst h0
      have e1 := List.length_eq_zero_iff.1 hn
      have e2 := List.length_eq_zero_iff.1 hn'
      subst e1; subst e2
      simp only [List.length_nil] at hv1 hv2
      subst hv1; subst hv2
      clear h1 h2 hF hF' hn hn' hk1 hk2 hl hm
      go_enter Tryd.func33, Tryd.ntmps33
      go_wp2
      go_loopw [17] (fun s17 wr => s17 = .int .i64 0 ∧ Below w.heap.size w wr) (fun s17 _ => 0)
      case atStart => exact ⟨rfl, Below.refl _ _⟩
      case round =>
        obtain ⟨rfl, hbw⟩ := hrel
        go_wp2
        go_ret
        exact ⟨by simp, hbw⟩
    · obtain ⟨g1, c1, e1, f1, _⟩ := h1.full (by intro e; subst e; simp at hn; omega)
      obtain ⟨g2, c2, e2, f2, _⟩ := h2.full (by intro e; subst e; simp at hn'; omega)
      subst e1; subst e2
      have hg1 : g1 < w.heap.size := isC_lt (hF g1 f1)
      have hg2 : g2 < w.heap.size := isC_lt (hF' g2 f2)
      rw [hn] at h1 hl ⊢
      rw [hn'] at h2 hm ⊢
      have eg : ∀ args w, (callFunc 30 args).run Tryd.prog w = .ok (.enter 30 args) w := enters_of Tryd.func30 (by kernel_rfl) rfl
      have HE : Hid (∀ k, k < n → ∃ x A c y B d, l[k]? = some x ∧ m[k]? = some y ∧ (∀ W, Below w.heap.size w W → KAt W g1 (k * 5) x A c ∧ KAt W g2 (k * 5) y B d) ∧
          ∀ W, Below w.heap.size w W → Calls Tryd.prog 30 #[.agg #[.int .i64 x.id, .bool x.mark, .int .i64 x.sz, .int .u32 x.sum, .slice A x.dt.length c], .agg #[.int .i64 y.id, .bool y.mark, .int .i64 y.sz, .int .u32 y.sum, .slice B y.dt.length d]] W fun e w' => e = .returned (.bool (alikeB x y)) ∧ Below w.heap.size w w') := fun k hk => by
        obtain ⟨x, A, c, hx, dx, kx⟩ := h1.kat k (by rw [hn]; exact hk)
        obtain ⟨y, B, d, hy, dy, ky⟩ := h2.kat k (by rw [hn']; exact hk)
        refine ⟨x, A, c, y, B, d, hx, hy, fun W hW => ⟨kx.below hW hg1, ky.below hW hg2⟩, fun W hW => ?_⟩
        refine (alike_is W (fun j => F j ∨ F' j) x y A B c d (fun j hj => ?_) ((dx.kept (below_cells hW hF)).mono fun _ h => .inl h) ((dy.kept (below_cells hW hF')).mono fun _ h => .inr h)).mono fun e w' ⟨he, hb⟩ => ⟨he, hW.trans (hb.mono hW.size)⟩
        rcases hj with hj | hj
        · obtain ⟨a, b, c, hh⟩ := hF j hj
          exact ⟨a, b, c, (hW.block j (isC_lt (hF j hj))).trans hh⟩
        · obtain ⟨a, b, c, hh⟩ := hF' j hj
          exact ⟨a, b, c, (hW.block j (isC_lt (hF' j hj))).trans hh⟩
      have HN := Lib.hid (And.intro hn hn')
      have HG1 : Hid (∀ W, Below w.heap.size w W → g1 < W.heap.size ∧ g2 < W.heap.size) := fun W hW => ⟨Nat.lt_of_lt_of_le hg1 hW.size, Nat.lt_of_lt_of_le hg2 hW.size⟩
      clear h1 h2 hF hF' hn hn' hk1 hk2 hg1 hg2 f1 f2 hv1 hv2
      go_enter Tryd.func33, Tryd.ntmps33
      go_wp2
      go_loopw [17] (fun s17 wr => ∃ k : Nat, k ≤ n ∧ s17 = .int .i64 k ∧ Hid (l.take k = m.take k) ∧ Hid (Below w.heap.size w wr)) (fun s17 _ => n - (intOf s17).toNat)
      case atStart => exact ⟨0, Nat.zero_le _, rfl, (by show _ = _; simp), Below.refl _ _⟩
      case round =>
        obtain ⟨k, hk, rfl, HT, HB⟩ := hrel
        by_cases hlt : k < n
        · have hltz : (k : Int) < (n : Int) := by omega
          obtain ⟨x, A, c, y, B, d, hx, hy, hka, hcl⟩ := HE.out k hlt
          obtain ⟨⟨a0, a1, a2, a3, a4⟩, ⟨b0, b1, b2, b3, b4⟩⟩ := hka wr HB.out
          have HX := Lib.hid hx
          have HY := Lib.hid hy
          have HC := Lib.hid hcl
          obtain ⟨q1, q2⟩ := HG1.out wr HB.out
          have r1 : g1 ≠ wr.heap.size := by omega
          have r2 : g2 ≠ wr.heap.size := by omega
          clear hx hy hcl hka
          cases hq : alikeB x y with
          | true =>
            rw [hq] at HC
            have HQ := Lib.hid hq
            clear hq
            go_wp2_with (go_at_fn 30; refine (HC.out _ (((HB.out.alloc HB.out.size _).alloc (by have := HB.out.size; simp; omega) _))).mono ?_; rintro e w' ⟨rfl, hb'⟩)
            go_roundw
            case rel => exact ⟨k + 1, by omega, by go_num, take_eq_succ HX.out HY.out HT.out ((alikeB_iff _ _).1 HQ.out), hb'⟩
            case measure => simp [intOf]; omega
          | false =>
            rw [hq] at HC
            have HQ := Lib.hid hq
            clear hq
            go_wp2_with (go_at_fn 30; refine (HC.out _ (((HB.out.alloc HB.out.size _).alloc (by have := HB.out.size; simp; omega) _))).mono ?_; rintro e w' ⟨rfl, hb'⟩)
            go_ret
            refine ⟨?_, hb'⟩
            have hne : ¬ l = m := fun e => by
              have hxy := HX.out
              rw [e, HY.out] at hxy
              injection hxy with hxy
              have := HQ.out
              rw [(alikeB_iff _ _).2 hxy.symm] at this
              cases this
            rw [decide_eq_false hne]
            rfl
        · have hltz : ¬ (k : Int) < (n : Int) := by omega
          obtain rfl : k = n := by omega
          go_wp2
          go_ret
          refine ⟨?_, HB.out⟩
          have h3 := HT.out
          rw [List.take_of_length_le (by have := HN.out.1; omega), List.take_of_length_le (by have := HN.out.2; omega)] at h3
          rw [decide_eq_true h3]
          rfl
  · have HR : Hid (decide (l = m) = false) := decide_eq_false (fun e => hlen (by rw [← hn, ← hn', e]))
    have hne : ((n : Int) == n') = false := by simp; omega
    have hne2 : ((n : Int) != n') = true := by simp; omega
    rw [hn] at hv1
    rw [hn'] at hv2
    subst hv1; subst hv2
    clear h1 h2 hF hF' hn hn' hk1 hk2
    go_enter Tryd.func33, Tryd.ntmps33
    go_wp2
    go_ret
    exact ⟨by rw [HR.out]; rfl, Below.refl _ _⟩
end Go.Proofs.YtjbjcfnbgcloiaaDoor

/- Same$2, Same$3, Same of package model: do two models have the same? -/
namespace Go.Proofs.YtjbjcfnbgcloiaaDoor
open Go.RowKit Nam YtjbjcfnbgcloiaaDoorW.PrintWords

abbrev fnAlike : Value := .func (.func 30) #[] #[]
abbrev fnRows (a : Addr) : Value := .func (.func 32) #[] #[.pointer (some a)]
abbrev fnMaps (a : Addr) : Value := .func (.func 35) #[] #[.pointer (some a)]
set_option maxHeartbeats 1000000 in
theorem same2_is (w : World) (F F' : Nat → Prop) (b : Nat) (v1 v2 : Value) (l m : List Kp) (hF : ∀ k, F k → IsC w k) (hF' : ∀ k, F' k → IsC w k) (hb : w.heap[b]? = some (.cells #[fnAlike] 76 (0, 0))) (h1 : RowV w F v1 l) (h2 : RowV w F' v2 m) (hl : l.length ≤ 100000) (hm : m.length ≤ 100000) :
    Calls Tryd.prog 32 #[v1, v2, .pointer (some ⟨b, 0, none⟩)] w fun e w' => e = .returned (.bool (decide (l = m))) ∧ Below w.heap.size w w' := by
  have HE := Lib.hid (eqrows_is w F F' v1 v2 l m hF hF' h1 h2 hl hm)
  have c0 := (blk_cell hb 0).trans (rfl : _ = some fnAlike)
  clear h1 h2 hF hF' hb hl hm
  go_enter Tryd.func32, Tryd.ntmps32
  go_wp2_with (go_at_call 33; refine HE.out.mono ?_; rintro e w' ⟨rfl, hb'⟩)
  go_ret
  exact ⟨rfl, hb'⟩

/-! ### a bucket's keys, nil or not -/
def Mp (w : World) (F : Nat → Prop) (p : Option Nat) (f : List UInt8 → List Kp) : Prop := ((p = none ∧ f = fun _ => []) ∨ ∃ b n, p = some b ∧ InnerM w F b n f) ∧ ∀ s, (f s).length ≤ 1000
theorem mp_inj {w : World} {F F' : Nat → Prop} {p : Option Nat} {f f' : List UInt8 → List Kp} (h : Mp w F p f) (h' : Mp w F' p f') : f = f' := by
  rcases h.1 with ⟨rfl, rfl⟩ | ⟨b, n, rfl, h1⟩
  · rcases h'.1 with ⟨_, rfl⟩ | ⟨b, n, e, _⟩
    · rfl
    · cases e
  · rcases h'.1 with ⟨e, _⟩ | ⟨b', n', e, h2⟩
    · cases e
    · injection e with e
      subst e
      exact inner_inj h1 h2
theorem Mp.below {w w' : World} {F : Nat → Prop} {p : Option Nat} {f : List UInt8 → List Kp} (h : Mp w F p f) (hb : Below w.heap.size w w') (hF : ∀ k, F k → IsC w k) : Mp w' F p f := by
  refine ⟨?_, h.2⟩
  rcases h.1 with h | ⟨b, n, e, h1⟩
  · exact .inl h
  · obtain ⟨D, h2, _⟩ := id h1
    exact .inr ⟨b, n, e, h1.kept (hb.block b (isM_lt (ownsMap_isM h2))) (below_cells hb hF)⟩
/-- Only the keys with versions, in a map that lies in V; its rows as they lay in w. -/
def FullIs (w : World) (F : Nat → Prop) (V : World) (p : Option Nat) (f : List UInt8 → List Kp) : Prop :=
  ∃ D, Go.Proofs.SrcOf Tryd.prog 9 (Rrow w F) V p D ∧ ∀ s, Maps.has D (.string s) = decide (f s ≠ []) ∧ (f s ≠ [] → rowOf w F (D.atKey (.string s) .nil) = f s)
theorem FullIs.below {w : World} {F : Nat → Prop} {V V' : World} {p : Option Nat} {f : List UInt8 → List Kp} (h : FullIs w F V p f) (hb : Below V.heap.size V V') : FullIs w F V' p f := by
  obtain ⟨D, h1, h2⟩ := h
  refine ⟨D, h1.kept (below_grown hb) ?_, h2⟩
  cases p with
  | none => exact .inr rfl
  | some b => exact .inl (by simp)
theorem tok_none {w : World} {F : Nat → Prop} {v : Value} {l : List Kp} {d : DataW Unit} {ps : List MemPlace} (hv : R2 v = some (d, ps)) (h : RowV w F v l) : tokNone d = decide (l = []) := by
  obtain ⟨A, c, he, _⟩ := h.slice
  rcases R2_inv hv with ⟨rfl, rfl⟩ | ⟨g, n, c', rfl, rfl⟩
  · injection he with _ h0 _
    rw [List.length_eq_zero_iff.1 h0.symm]
    rfl
  · injection he with _ h0 _
    show decide ((n : Int) = 0) = _
    rw [h0, decide_eq_decide]
    rw [← List.length_eq_zero_iff]
    omega
set_option maxHeartbeats 1000000 in
set_option maxRecDepth 100000 in
theorem full_nil (w : World) : Calls Tryd.prog 37 #[.map none] w fun e w' => e = .returned (.map none) ∧ Below w.heap.size w w' := by
  have HCl := Lib.hid (AnyW.maps_Clone_nil Tryd.mcloneK w)
  have HDe := Lib.hid (fun fv => AnyDf.maps_DeleteFunc_nil Tryd.mdelK fv w)
  have HB : Hid (Below w.heap.size w (w.alloc (.mapIter none 0 #[] 0))) := (Below.refl _ _).alloc (Nat.le_refl _) _
  go_enter Tryd.func37, Tryd.ntmps37
  go_wp2_with (first | (go_at_call 53; refine HCl.out.mono ?_; rintro e w' ⟨rfl, rfl⟩) | (go_at_call 54; refine (HDe.out _).mono ?_; rintro e w2 ⟨rfl, rfl⟩))
  go_ret
  exact ⟨rfl, HB.out⟩
theorem full_any (w V : World) (F : Nat → Prop) (p : Option Nat) (f : List UInt8 → List Kp) (h : Mp w F p f) (hb : Below w.heap.size w V) :
    Calls Tryd.prog 37 #[.map p] V fun e w' => (∃ p', e = .returned (.map p') ∧ Hid (FullIs w F w' p' f)) ∧ Below V.heap.size V w' := by
  obtain ⟨h, hlen⟩ := h
  rcases h with ⟨rfl, rfl⟩ | ⟨b, n, rfl, hin⟩
  · refine (full_nil V).mono fun e w' ⟨he, hb'⟩ => ⟨⟨none, he, ?_⟩, hb'⟩
    exact ⟨.nil, .inl ⟨rfl, rfl⟩, fun s => ⟨rfl, fun h => absurd rfl h⟩⟩
  · obtain ⟨D, h1, _, h2⟩ := inner_row hin
    have hV := ownsMap_kept h1 (hb.block b (isM_lt (ownsMap_isM h1)))
    refine (full_is V b n D hV).mono fun e w' ⟨⟨b', he, _, ho⟩, hb'⟩ => ⟨⟨some b', he, ?_⟩, hb'⟩
    have hsm := strMap_of h1
    refine ⟨_, .inr ⟨b', n, rfl, ownsMap_re ho fun s v yd yp hv ha => ?_⟩, fun s => ?_⟩
    · have hh := Maps.has_true_of_atKey ha
      obtain ⟨v', ps', h3, h4⟩ := h2 s
      rw [← (sm_del hsm s).2 hh .nil, ha .nil] at h3
      rw [R2_one hv h3, Rrow_of h4 (hlen s), ← R2_one hv h3]
      exact hv
    · obtain ⟨v', ps', h3, h4⟩ := h2 s
      have ht := tok_none h3 h4
      obtain ⟨d1, d2⟩ := sm_del (pd := fun _ yd => tokNone yd) hsm s
      have hhas : Maps.has (Lib.deleteFuncD (fun _ yd => tokNone yd) D) (.string s) = decide (f s ≠ []) := by
        rw [d1, ht]
        by_cases e : f s = []
        · simp [e]
        · have : Maps.has D (.string s) = true := by
            cases hd : Maps.has D (.string s) with
            | true => rfl
            | false =>
              rw [sm_none s hd] at ht
              exact absurd (of_decide_eq_true ht.symm) e
          simp [e, this]
      refine ⟨hhas, fun hne => ?_⟩
      rw [d2 (by rw [hhas, decide_eq_true hne])]
      exact rowOf_eq h3 h4

open Classical in
noncomputable def funEqB (f f' : List UInt8 → List Kp) : Bool := decide (f = f')
open Classical in
theorem funEqB_iff (f f' : List UInt8 → List Kp) : funEqB f f' = true ↔ f = f' := decide_eq_true_iff
/-- maps.EqualFunc of two such maps. -/
theorem eqmap2 (w V : World) (F F' : Nat → Prop) (b : Nat) (p p' : Option Nat) (f f' : List UInt8 → List Kp) (hF : ∀ k, F k → IsC w k) (hF' : ∀ k, F' k → IsC w k) (hb : w.heap[b]? = some (.cells #[fnAlike] 76 (0, 0))) (hV : Below w.heap.size w V) (h : FullIs w F V p f) (h' : FullIs w F' V p' f') :
    Calls Tryd.prog 36 #[.map p, .map p', fnRows ⟨b, 0, none⟩] V fun e w' => e = .returned (.bool (funEqB f f')) ∧ Below V.heap.size V w' := by
  obtain ⟨D, h1, h2⟩ := h
  obtain ⟨D', h1', h2'⟩ := h'
  have eg : ∀ args w, (callFunc 32 args).run Tryd.prog w = .ok (.enter 32 args) w := enters_of Tryd.func32 (by kernel_rfl) rfl
  have hz : Rrow w F' (.slice none 0 0) = some (.nil, []) := Rrow_of (rowV_nil w F') (by simp)
  refine (AnyEq.maps_EqualFunc_opt Tryd.meq2 KS (Rrow w F) (Rrow w F') (fun x y => decide (rowOf w F x = rowOf w F' y)) 32 #[.pointer (some ⟨b, 0, none⟩)] p p' D D' V eg h1 h1' (.slice none 0 0) (fun w => zero77 w) .nil [] hz ?_).mono fun e w' ⟨he, hg⟩ => ⟨?_, grown_below' hg⟩
  · intro W x y xd yd xp yp hg hx hy
    obtain ⟨hx1, l, hx2, hx3⟩ := Rrow_inv hx
    obtain ⟨hy1, m, hy2, hy3⟩ := Rrow_inv hy
    have hW := hV.trans ((grown_below' hg).mono hV.size)
    have hk : ∀ G : Nat → Prop, (∀ k, G k → IsC w k) → ∀ k, G k → IsC W k := fun G hG k hk => by
      obtain ⟨a, b, c, hh⟩ := hG k hk
      exact ⟨a, b, c, (hW.block k (isC_lt (hG k hk))).trans hh⟩
    refine (same2_is W F F' b x y l m (hk F hF) (hk F' hF') (blk_below hb hW) (hx2.kept (below_cells hW hF)) (hy2.kept (below_cells hW hF')) (by omega) (by omega)).mono fun e w' ⟨he, hb'⟩ => ⟨?_, below_grown hb'⟩
    rw [he, rowOf_eq hx1 hx2, rowOf_eq hy1 hy2]
  · have hs : ∀ {G : Nat → Prop} {q : Option Nat} {E : DataW Unit}, Go.Proofs.SrcOf Tryd.prog 9 (Rrow w G) V q E → E = .nil ∨ StrMap E := fun hq => by
      rcases hq with ⟨_, e⟩ | ⟨b, n, _, ho⟩
      · exact .inl e
      · exact .inr (strMap_of ho)
    have hnil : ∀ E : DataW Unit, StrMap E → (Lib.equalFuncD (fun x y => decide (rowOf w F x = rowOf w F' y)) .nil E = Lib.equalFuncD (fun x y => decide (rowOf w F x = rowOf w F' y)) (.map []) E) := fun E _ => rfl
    have key : Lib.equalFuncD (fun x y => decide (rowOf w F x = rowOf w F' y)) D D' = true ↔ (∀ s, Maps.has D (.string s) = Maps.has D' (.string s)) ∧ ∀ s, Maps.has D (.string s) = true → decide (rowOf w F (D.atKey (.string s) .nil) = rowOf w F' (D'.atKey (.string s) .nil)) = true := by
      have e0 : StrMap (.map [] : DataW Unit) := ⟨[], rfl, List.nodup_nil⟩
      rcases hs h1 with rfl | s1 <;> rcases hs h1' with rfl | s2
      · exact equalFunc_iff (eqd := fun x y => decide (rowOf w F x = rowOf w F' y)) (D1 := .map []) (D2 := .map []) e0 e0
      · exact equalFunc_iff (eqd := fun x y => decide (rowOf w F x = rowOf w F' y)) (D1 := .map []) e0 s2
      · exact equalFunc_iff (eqd := fun x y => decide (rowOf w F x = rowOf w F' y)) (D2 := .map []) s1 e0
      · exact equalFunc_iff s1 s2
    rw [he]
    congr 2
    rw [Bool.eq_iff_iff]
    refine Iff.trans key ?_
    rw [funEqB_iff]
    constructor
    · rintro ⟨hh, ha⟩
      funext s
      have e1 := hh s
      rw [(h2 s).1, (h2' s).1] at e1
      by_cases e : f s = []
      · have : f' s = [] := by
          by_cases e' : f' s = []
          · exact e'
          · rw [decide_eq_false (by simp [e]), decide_eq_true e'] at e1
            cases e1
        rw [e, this]
      · have e' : f' s ≠ [] := by
          intro e'
          rw [decide_eq_true e, decide_eq_false (by simp [e'])] at e1
          cases e1
        have := ha s (by rw [(h2 s).1, decide_eq_true e])
        rw [decide_eq_true_iff, (h2 s).2 e, (h2' s).2 e'] at this
        exact this
    · rintro rfl
      refine ⟨fun s => by rw [(h2 s).1, (h2' s).1], fun s hs => ?_⟩
      rw [(h2 s).1, decide_eq_true_iff] at hs
      rw [decide_eq_true_iff, (h2 s).2 hs, (h2' s).2 hs]

set_option maxHeartbeats 2000000 in
set_option maxRecDepth 100000 in
theorem same3_is (w : World) (F F' : Nat → Prop) (b c : Nat) (p p' : Option Nat) (f f' : List UInt8 → List Kp) (hF : ∀ k, F k → IsC w k) (hF' : ∀ k, F' k → IsC w k) (hb : w.heap[b]? = some (.cells #[fnAlike] 76 (0, 0))) (hc : w.heap[c]? = some (.cells #[fnRows ⟨b, 0, none⟩] 79 (0, 0))) (h : Mp w F p f) (h' : Mp w F' p' f') :
    Calls Tryd.prog 35 #[.map p, .map p', .pointer (some ⟨c, 0, none⟩)] w fun e w' => e = .returned (.bool (funEqB f f')) ∧ Below w.heap.size w w' := by
  have HFu : Hid (∀ V p f F, Below w.heap.size w V → Mp w F p f → Calls Tryd.prog 37 #[.map p] V fun e w' => (∃ p', e = .returned (.map p') ∧ Hid (FullIs w F w' p' f)) ∧ Hid (Below V.heap.size V w') ∧ Hid (Below w'.heap.size w' w') ∧ Below w.heap.size w w') := fun V p f F hV hm =>
    (full_any w V F p f hm hV).mono fun e w' ⟨h1, h2⟩ => ⟨h1, h2, Below.refl _ _, hV.trans (h2.mono hV.size)⟩
  have HEq : Hid (∀ V V1 V2 p1 p2, Below w.heap.size w V → Hid (FullIs w F V1 p1 f) → Hid (FullIs w F' V2 p2 f') → Hid (Below V1.heap.size V1 V) → Hid (Below V2.heap.size V2 V) → Calls Tryd.prog 36 #[.map p1, .map p2, fnRows ⟨b, 0, none⟩] V fun e w' => e = .returned (.bool (funEqB f f')) ∧ Below w.heap.size w w') := fun V V1 V2 p1 p2 hV h1 h2 b1 b2 =>
    (eqmap2 w V F F' b p1 p2 f f' hF hF' hb hV (h1.out.below b1.out) (h2.out.below b2.out)).mono fun e w' ⟨he, hb'⟩ => ⟨he, hV.trans (hb'.mono hV.size)⟩
  have HC : Hid (∀ V, Below w.heap.size w V → V.cell? ⟨c, 0, none⟩ = some (fnRows ⟨b, 0, none⟩)) := fun V hV => (blk_cell (blk_below hc hV) 0).trans rfl
  have hb0 : Below w.heap.size w w := Below.refl _ _
  have hb0d : Below w.heap.size w w.drew := (Below.refl _ _).drew
  clear hb hc hF hF'
  go_enter Tryd.func35, Tryd.ntmps35
  go_wp2_with fail
  go_region_held3 (fun V => V.cell? ⟨c, 0, none⟩ = some (fnRows ⟨b, 0, none⟩)) (exact HC.out _ (by assumption)) (first | (go_at_call 37; refine (HFu.out _ _ _ _ (by assumption) (by assumption)).mono ?_; rintro e w' ⟨⟨pp, rfl, HP⟩, HQ1, HQ2, hbq⟩) | (go_at_call 36; refine (HEq.out _ _ _ _ _ (by assumption) (by assumption) (by assumption) (by assumption) (by assumption)).mono ?_; rintro e w' ⟨rfl, hbq⟩))
  all_goals
    go_wp2_with fail
    go_ret
    exact ⟨rfl, by assumption⟩

/-! ### two models -/
def SameS (S S' : St) : Prop := (∀ s, s ∈ S.B ↔ s ∈ S'.B) ∧ ∀ s, s ∈ S.B → S.V s = S'.V s
open Classical in
noncomputable def sameB (S S' : St) : Bool := decide (SameS S S')
open Classical in
theorem sameB_iff (S S' : St) : sameB S S' = true ↔ SameS S S' := decide_eq_true_iff
open Classical in
noncomputable def Rmap (w : World) (F : Nat → Prop) (v : Value) : Option (DataW Unit × List MemPlace) := if (∃ p f, v = .map p ∧ Mp w F p f) then R1 v else none
theorem Rmap_of {w : World} {F : Nat → Prop} {p : Option Nat} {f : List UInt8 → List Kp} (h : Mp w F p f) : Rmap w F (.map p) = R1 (.map p) := if_pos ⟨p, f, rfl, h⟩
theorem Rmap_inv {w : World} {F : Nat → Prop} {v : Value} {z : DataW Unit × List MemPlace} (h : Rmap w F v = some z) : R1 v = some z ∧ ∃ p f, v = .map p ∧ Mp w F p f := by
  unfold Rmap at h
  split at h
  · rename_i hl
    exact ⟨h, hl⟩
  · cases h
open Classical in
noncomputable def mapOf (w : World) (F : Nat → Prop) (d : DataW Unit) : List UInt8 → List Kp := if h : ∃ f p ps, R1 (.map p) = some (d, ps) ∧ Mp w F p f then h.choose else fun _ => []
theorem mapOf_eq {w : World} {F : Nat → Prop} {d : DataW Unit} {p : Option Nat} {ps : List MemPlace} {f : List UInt8 → List Kp} (hv : R1 (.map p) = some (d, ps)) (hr : Mp w F p f) : mapOf w F d = f := by
  have h : ∃ f p ps, R1 (.map p) = some (d, ps) ∧ Mp w F p f := ⟨f, p, ps, hv, hr⟩
  unfold mapOf
  rw [dif_pos h]
  obtain ⟨p', ps', h1, h2⟩ := h.choose_spec
  have := R1_one h1 hv
  injection this with this
  rw [this] at h2
  exact mp_inj h2 hr
theorem outer_map {w : World} {g n mb : Nat} {S : St} {Q F : Nat → Prop} {D : DataW Unit} (h : Outer w g S n Q F mb D) (hl : ∀ b k, (S.V b k).length ≤ 1000) : w.ownsMap Tryd.prog 9 (Rmap w F) mb n D ∧ ∀ s, s ∈ S.B → mapOf w F (D.atKey (.string s) .nil) = S.V s := by
  refine ⟨ownsMap_re h.o fun s v yd yp hv ha => ?_, fun s hs => ?_⟩
  · have hh := Maps.has_true_of_atKey ha
    rw [h.hs, decide_eq_true_iff] at hh
    obtain ⟨b, e1, _, _, e4⟩ := h.at_ s hh
    rw [ha .nil] at e1
    subst e1
    have e5 : v = .map (some b) := R1_one hv (show R1 (.map (some b)) = some (.lit (.int .i64 b), []) from rfl)
    subst e5
    rw [Rmap_of ⟨.inr ⟨b, n, rfl, e4⟩, hl s⟩]
    exact hv
  · obtain ⟨b, e1, _, _, e4⟩ := h.at_ s hs
    exact mapOf_eq (p := some b) (ps := []) (by rw [e1]; rfl) ⟨.inr ⟨b, n, rfl, e4⟩, hl s⟩
theorem eqmap1 (w V : World) (F F' : Nat → Prop) (b c : Nat) (g n mb g' n' mb' : Nat) (S S' : St) (Q Q' : Nat → Prop) (D D' : DataW Unit) (hF : ∀ k, F k → IsC w k) (hF' : ∀ k, F' k → IsC w k) (hb : w.heap[b]? = some (.cells #[fnAlike] 76 (0, 0))) (hc : w.heap[c]? = some (.cells #[fnRows ⟨b, 0, none⟩] 79 (0, 0)))
    (h : Outer w g S n Q F mb D) (h' : Outer w g' S' n' Q' F' mb' D') (hl : ∀ b k, (S.V b k).length ≤ 1000) (hl' : ∀ b k, (S'.V b k).length ≤ 1000) (hV : Below w.heap.size w V) :
    Calls Tryd.prog 34 #[.map (some mb), .map (some mb'), fnMaps ⟨c, 0, none⟩] V fun e w' => e = .returned (.bool (sameB S S')) ∧ Below w.heap.size w w' := by
  obtain ⟨o1, t1⟩ := outer_map h hl
  obtain ⟨o1', t1'⟩ := outer_map h' hl'
  have p1 := ownsMap_kept o1 (hV.block mb (isM_lt (ownsMap_isM o1)))
  have p1' := ownsMap_kept o1' (hV.block mb' (isM_lt (ownsMap_isM o1')))
  have eg : ∀ args w, (callFunc 35 args).run Tryd.prog w = .ok (.enter 35 args) w := enters_of Tryd.func35 (by kernel_rfl) rfl
  have hz : Rmap w F' (.map none) = some (.nil, []) := Rmap_of (f := fun _ => []) ⟨.inl ⟨rfl, rfl⟩, fun s => by simp⟩
  refine (AnyEq.maps_EqualFunc_opt Tryd.meq1 KS (Rmap w F) (Rmap w F') (fun x y => funEqB (mapOf w F x) (mapOf w F' y)) 35 #[.pointer (some ⟨c, 0, none⟩)] (some mb) (some mb') D D' V eg (.inr ⟨mb, n, rfl, p1⟩) (.inr ⟨mb', n', rfl, p1'⟩) (.map none) (fun w => zero63 w) .nil [] hz ?_).mono fun e w' ⟨he, hg⟩ => ⟨?_, hV.trans ((grown_below' hg).mono hV.size)⟩
  · intro W x y xd yd xp yp hg hx hy
    obtain ⟨hx1, p, f, rfl, hx2⟩ := Rmap_inv hx
    obtain ⟨hy1, p', f', rfl, hy2⟩ := Rmap_inv hy
    have hW := hV.trans ((grown_below' hg).mono hV.size)
    have hk : ∀ G : Nat → Prop, (∀ k, G k → IsC w k) → ∀ k, G k → IsC W k := fun G hG k hk => by
      obtain ⟨a, b, c, hh⟩ := hG k hk
      exact ⟨a, b, c, (hW.block k (isC_lt (hG k hk))).trans hh⟩
    refine (same3_is W F F' b c p p' f f' (hk F hF) (hk F' hF') (blk_below hb hW) (blk_below hc hW) (hx2.below hW hF) (hy2.below hW hF')).mono fun e w' ⟨he, hb'⟩ => ⟨?_, below_grown hb'⟩
    rw [he, mapOf_eq hx1 hx2, mapOf_eq hy1 hy2]
  · rw [he]
    congr 2
    rw [Bool.eq_iff_iff]
    refine Iff.trans (equalFunc_iff (strMap_of h.o) (strMap_of h'.o)) ?_
    rw [sameB_iff]
    constructor
    · rintro ⟨hh, ha⟩
      have hm : ∀ s, s ∈ S.B ↔ s ∈ S'.B := fun s => by
        have := hh s
        rw [h.hs, h'.hs] at this
        exact decide_eq_decide.1 this
      refine ⟨hm, fun s hs => ?_⟩
      have := ha s (by rw [h.hs, decide_eq_true hs])
      rw [t1 s hs, t1' s ((hm s).1 hs)] at this
      exact (funEqB_iff _ _).1 this
    · rintro ⟨hm, ha⟩
      refine ⟨fun s => by rw [h.hs, h'.hs]; exact decide_eq_decide.2 (hm s), fun s hs => ?_⟩
      rw [h.hs, decide_eq_true_iff] at hs
      rw [t1 s hs, t1' s ((hm s).1 hs)]
      exact (funEqB_iff _ _).2 (ha s hs)

set_option maxHeartbeats 2000000 in
set_option maxRecDepth 100000 in
theorem same_is (w : World) (g g' n n' : Nat) (S S' : St) (Q Q' F F' : Nat → Prop) (h : HasM w g S n Q F) (h' : HasM w g' S' n' Q' F') (hl : ∀ b k, (S.V b k).length ≤ 1000) (hl' : ∀ b k, (S'.V b k).length ≤ 1000) :
    Calls Tryd.prog 15 #[.pointer (some ⟨g, 0, none⟩), .pointer (some ⟨g', 0, none⟩)] w fun e w' => e = .returned (.bool (sameB S S')) ∧ Below w.heap.size w w' := by
  obtain ⟨W1, hW1⟩ : ∃ W1, w.alloc (.cells #[fnAlike] 76) = W1 := ⟨_, rfl⟩
  obtain ⟨W2, hW2⟩ : ∃ W2, W1.alloc (.cells #[fnRows ⟨w.heap.size, 0, none⟩] 79) = W2 := ⟨_, rfl⟩
  have hb1 : Below w.heap.size w W1 := by rw [← hW1]; exact (Below.refl _ _).alloc (Nat.le_refl _) _
  have hb2 : Below W1.heap.size W1 W2 := by rw [← hW2]; exact (Below.refl _ _).alloc (Nat.le_refl _) _
  have hs1 : W1.heap.size = w.heap.size + 1 := by rw [← hW1]; simp
  have hb02 := hb1.trans (hb2.mono hb1.size)
  have k1 : W2.heap[w.heap.size]? = some (.cells #[fnAlike] 76 (0, 0)) := by
    rw [hb2.block _ (by omega), ← hW1]
    exact heap_alloc_new w _
  have k2 : W2.heap[w.heap.size + 1]? = some (.cells #[fnRows ⟨w.heap.size, 0, none⟩] 79 (0, 0)) := by
    rw [← hs1, ← hW2]
    exact heap_alloc_new W1 _
  have m1 := h.below hb02
  have m1' := h'.below hb02
  obtain ⟨mb, D, hO⟩ := m1.ex
  obtain ⟨mb', D', hO'⟩ := m1'.ex
  have HEq : Hid (∀ V, Below W2.heap.size W2 V → Calls Tryd.prog 34 #[.map (some mb), .map (some mb'), fnMaps ⟨w.heap.size + 1, 0, none⟩] V fun e w' => e = .returned (.bool (sameB S S')) ∧ Below W2.heap.size W2 w') := fun V hV =>
    eqmap1 W2 V F F' _ _ g n mb g' n' mb' S S' Q Q' D D' m1.f m1'.f k1 k2 hO hO' hl hl' hV
  have HC : Hid (∀ V, Below W2.heap.size W2 V → V.cell? ⟨g, 0, none⟩ = some (.map (some mb)) ∧ V.cell? ⟨g', 0, none⟩ = some (.map (some mb'))) := fun V hV =>
    ⟨(blk_cell (blk_below hO.c hV) 0).trans rfl, (blk_cell (blk_below hO'.c hV) 0).trans rfl⟩
  have HB := Lib.hid hb02
  have hbb : Below W2.heap.size W2 W2 := Below.refl _ _
  have hbbd : Below W2.heap.size W2 W2.drew := (Below.refl _ _).drew
  clear h h' hl hl' m1 m1' hO hO' k1 k2 hb1 hb2 hs1 hb02
  subst hW1
  go_enter Tryd.func15, Tryd.ntmps15
  go_upto_region 5 with (fail)
  clear hW2
  go_wp2_with fail
  go_region_held3 (fun V => V.cell? ⟨g, 0, none⟩ = some (.map (some mb)) ∧ V.cell? ⟨g', 0, none⟩ = some (.map (some mb'))) (exact HC.out _ (by assumption)) ((go_at_call 34; refine (HEq.out _ (by assumption)).mono ?_; rintro e w' ⟨rfl, hbq⟩))
  all_goals
    go_wp2_with fail
    go_ret
    exact ⟨rfl, HB.out.trans (hbq.mono HB.out.size)⟩
end Go.Proofs.YtjbjcfnbgcloiaaDoor
