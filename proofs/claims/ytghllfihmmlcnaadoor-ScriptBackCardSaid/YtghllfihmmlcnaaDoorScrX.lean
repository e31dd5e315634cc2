/- The statements' own bridge: a choice as the program has it, and back. -/
import Derived.Test.YtghllfihmmlcnaaDoorScrO
import Derived.Deep.RegionHeld3
namespace Go.Proofs.YtghllfihmmlcnaaDoor
open Go.RowKit Nam YtghllfihmmlcnaaDoorW.PrintWords

theorem ret_agg {P : Program} {fn : Func} {p : Tmp} {ty : TypeId} (h : fn.results = #[.cell p ty]) (tmps : Array Value) (w : World) (g : Nat) (t : TypeId) (cs : Array Value) (fr : Nat × Nat) (d : TypeDesc)
    (hp : tmps.getD p undef = .pointer (some ⟨g, 0, none⟩)) (hg : w.heap[g]? = some (.cells cs t fr))
    (hu : P.underlying ty = some d) (hd : (match d with | .struct _ | .array _ _ => true | _ => false) = true) (hi : (P.info? ty).map (·.size) = some cs.size) :
    (results fn tmps).run P w = .ok (.agg cs) w := by
  have hp' : tmps[p]?.getD undef = .pointer (some ⟨g, 0, none⟩) := by simpa using hp
  simp [results, h, hp', asAddr, run_loadVar_row w g t ty cs fr d hg hu hd hi]

set_option maxHeartbeats 1000000 in
theorem ask8_is (a b : ByteArray) (c d : Int) (w : World) :
    Calls Tryd.prog 30 #[.agg #[.string a, .string b, .int .i64 c, .int .i64 d]] w fun e w' => e = .returned (.agg #[.string a, .string b, .int .i64 c, .int .i64 d]) ∧ Below w.heap.size w w' := by
  have h31 : ∀ o, ((w.alloc o).alloc (.cells #[.string a, .string b, .int .i64 c, .int .i64 d] 42)).heap[w.heap.size + 1]? = some (.cells #[.string a, .string b, .int .i64 c, .int .i64 d] 42 (0, 0)) := fun o => by
    have := heap_alloc_new (w.alloc o) (.cells #[.string a, .string b, .int .i64 c, .int .i64 d] 42)
    simpa using this
  have H31 := Lib.hid h31; clear h31
  go_enter Tryd.func30, Tryd.ntmps30
  go_wp2
  refine bodyPost_ret (ret_agg rfl _ _ (w.heap.size + 1) _ _ _ _ rfl (H31.out _) Tryd.underlying42 rfl (by kernel_rfl)) rfl ?_
  exact ⟨rfl, ((Below.refl _ _).alloc (Nat.le_refl _) _).alloc (by simp) _⟩

theorem info5b : (Tryd.prog.info? 5).map (fun i => (i.zero, i.size, i.bytes)) = some (some (.int .u8 0), 1, 1) := by kernel_rfl

/-- The cells of a choice in a block. -/
theorem ch_cells {W : World} {g : Nat} {T : TypeId} {x : Ch} {v : Value} (h : W.heap[g]? = some (.cells (chCells x v).toArray T (0, 0))) :
    W.cell? ⟨g, 0, none⟩ = some (.int .i64 x.d) ∧ W.cell? ⟨g, 1, none⟩ = some (.string (mkS x.bk)) ∧ W.cell? ⟨g, 2, none⟩ = some (.string (mkS x.ky)) ∧ W.cell? ⟨g, 3, none⟩ = some v ∧ W.cell? ⟨g, 4, none⟩ = some (.int .i64 x.n) ∧ W.cell? ⟨g, 5, none⟩ = some (.int .i64 x.a) ∧
    W.cell? ⟨g, 6, none⟩ = some (.string (mkS x.pf)) ∧ W.cell? ⟨g, 7, none⟩ = some (.string (mkS x.fr)) ∧ W.cell? ⟨g, 8, none⟩ = some (.int .i64 x.fi) ∧ W.cell? ⟨g, 9, none⟩ = some (.int .i64 x.mo) :=
  ⟨(blk_cell h 0).trans rfl, (blk_cell h 1).trans rfl, (blk_cell h 2).trans rfl, (blk_cell h 3).trans rfl, (blk_cell h 4).trans rfl, (blk_cell h 5).trans rfl, (blk_cell h 6).trans rfl, (blk_cell h 7).trans rfl, (blk_cell h 8).trans rfl, (blk_cell h 9).trans rfl⟩
theorem ch_free {W : World} {g : Nat} {T : TypeId} {cs : Array Value} (h : W.heap[g]? = some (.cells cs T (0, 0))) :
    W.frozen? ⟨g, 0, none⟩ = false ∧ W.frozen? ⟨g, 1, none⟩ = false ∧ W.frozen? ⟨g, 2, none⟩ = false ∧ W.frozen? ⟨g, 3, none⟩ = false ∧ W.frozen? ⟨g, 4, none⟩ = false ∧ W.frozen? ⟨g, 5, none⟩ = false ∧ W.frozen? ⟨g, 6, none⟩ = false ∧ W.frozen? ⟨g, 7, none⟩ = false ∧ W.frozen? ⟨g, 8, none⟩ = false ∧ W.frozen? ⟨g, 9, none⟩ = false :=
  ⟨blk_frozen h 0, blk_frozen h 1, blk_frozen h 2, blk_frozen h 3, blk_frozen h 4, blk_frozen h 5, blk_frozen h 6, blk_frozen h 7, blk_frozen h 8, blk_frozen h 9⟩

/-- A choice stored into a block. -/
abbrev chPut (W : World) (g : Nat) (x : Ch) (v : Value) : World :=
  (((((((((W.setCell ⟨g, 0, none⟩ (.int .i64 x.d)).setCell ⟨g, 1, none⟩ (.string (mkS x.bk))).setCell ⟨g, 2, none⟩ (.string (mkS x.ky))).setCell ⟨g, 3, none⟩ v).setCell ⟨g, 4, none⟩ (.int .i64 x.n)).setCell ⟨g, 5, none⟩ (.int .i64 x.a)).setCell ⟨g, 6, none⟩ (.string (mkS x.pf))).setCell ⟨g, 7, none⟩ (.string (mkS x.fr))).setCell ⟨g, 8, none⟩ (.int .i64 x.fi)).setCell ⟨g, 9, none⟩ (.int .i64 x.mo)
theorem chPut_heap {W : World} {g : Nat} {T : TypeId} {y : Ch} {v0 : Value} (h : W.heap[g]? = some (.cells (chCells y v0).toArray T (0, 0))) (x : Ch) (v : Value) : (chPut W g x v).heap[g]? = some (.cells (chCells x v).toArray T (0, 0)) := by
  have h9 := blk_set (blk_set (blk_set (blk_set (blk_set (blk_set (blk_set (blk_set (blk_set (blk_set h 0 (.int .i64 x.d)) 1 (.string (mkS x.bk))) 2 (.string (mkS x.ky))) 3 v) 4 (.int .i64 x.n)) 5 (.int .i64 x.a)) 6 (.string (mkS x.pf))) 7 (.string (mkS x.fr))) 8 (.int .i64 x.fi)) 9 (.int .i64 x.mo)
  exact h9.trans (by simp [chCells])
theorem chPut_below {B : Nat} {a W : World} {g : Nat} (h : Below B a W) (hg : B ≤ g) (x : Ch) (v : Value) : Below B a (chPut W g x v) :=
  (((((((((h.setCell (p := ⟨g, 0, none⟩) hg _).setCell (p := ⟨g, 1, none⟩) hg _).setCell (p := ⟨g, 2, none⟩) hg _).setCell (p := ⟨g, 3, none⟩) hg _).setCell (p := ⟨g, 4, none⟩) hg _).setCell (p := ⟨g, 5, none⟩) hg _).setCell (p := ⟨g, 6, none⟩) hg _).setCell (p := ⟨g, 7, none⟩) hg _).setCell (p := ⟨g, 8, none⟩) hg _).setCell (p := ⟨g, 9, none⟩) hg _
theorem chPut_dt {W : World} {g : Nat} {ok : Nat → Prop} {u : Value} {l : List UInt8} (h : Dt W ok u l) (hg : ∀ k, ok k → k ≠ g) (x : Ch) (v : Value) : Dt (chPut W g x v) ok u l :=
  Kd.V_far (p := ⟨g, 9, none⟩) (Kd.V_far (p := ⟨g, 8, none⟩) (Kd.V_far (p := ⟨g, 7, none⟩) (Kd.V_far (p := ⟨g, 6, none⟩) (Kd.V_far (p := ⟨g, 5, none⟩) (Kd.V_far (p := ⟨g, 4, none⟩) (Kd.V_far (p := ⟨g, 3, none⟩) (Kd.V_far (p := ⟨g, 2, none⟩) (Kd.V_far (p := ⟨g, 1, none⟩) (Kd.V_far (p := ⟨g, 0, none⟩) h hg _) hg _) hg _) hg _) hg _) hg _) hg _) hg _) hg _) hg _

set_option maxHeartbeats 1000000 in
set_option maxRecDepth 100000 in
theorem choice8_is (x : Ch) (A : Option Addr) (c : Nat) (w : World) (hx : x.dt.length ≤ 1000000) (hv : Dt w (fun _ => True) (.slice A (byN x.dt).length c) x.dt) :
    Calls Tryd.prog 13 #[.agg (chCells x (.slice A (byN x.dt).length c)).toArray] w fun e w' => (∃ v, e = .returned (.agg (chCells x v).toArray) ∧ Dt w' (fun k => w.heap.size ≤ k) v x.dt) ∧ Below w.heap.size w w' := by
  have HV := Lib.hid hv; clear hv
  have hbl := byN_length x.dt
  have HBL : Hid ((byN x.dt).length ≤ 1000000) := by show _ ≤ _; omega
  clear hbl
  unfold chCells
  go_enter Tryd.func13, Tryd.ntmps13
  go_wp2_with fail
  obtain ⟨W2, hW2⟩ : ∃ W2, (w.alloc (.cells (chCells x (.slice A (byN x.dt).length c)).toArray 39)).alloc (.cells (chCells (bareC 0) (.slice none 0 0)).toArray 44) = W2 := ⟨_, rfl⟩
  have hs2 : W2.heap.size = w.heap.size + 2 := by rw [← hW2]; simp
  have hb2 : Below w.heap.size w W2 := by rw [← hW2]; exact ((Below.refl _ _).alloc (Nat.le_refl _) _).alloc (by simp) _
  have h20 : W2.heap[w.heap.size]? = some (.cells (chCells x (.slice A (byN x.dt).length c)).toArray 39 (0, 0)) := by
    rw [← hW2]; exact blk_alloc (blk_new _ _) _
  have h21 : W2.heap[w.heap.size + 1]? = some (.cells (chCells (bareC 0) (.slice none 0 0)).toArray 44 (0, 0)) := by
    rw [← hW2]
    have := blk_new (w.alloc (.cells (chCells x (.slice A (byN x.dt).length c)).toArray 39)) (.cells (chCells (bareC 0) (.slice none 0 0)).toArray 44)
    simpa using this
  have HW2 := Lib.hid hW2; clear hW2
  have HS2 := Lib.hid hs2; clear hs2
  have HB2 := Lib.hid hb2; clear hb2
  have H20 := Lib.hid h20; clear h20
  have H21 := Lib.hid h21; clear h21
  have hSf : ∀ V, Below W2.heap.size W2 V → (V.cell? ⟨w.heap.size, 0, none⟩ = some (.int .i64 x.d) ∧ V.cell? ⟨w.heap.size, 1, none⟩ = some (.string (mkS x.bk)) ∧ V.cell? ⟨w.heap.size, 2, none⟩ = some (.string (mkS x.ky)) ∧ V.cell? ⟨w.heap.size, 3, none⟩ = some (.slice A (byN x.dt).length c) ∧ V.cell? ⟨w.heap.size, 4, none⟩ = some (.int .i64 x.n) ∧ V.cell? ⟨w.heap.size, 5, none⟩ = some (.int .i64 x.a) ∧
    V.cell? ⟨w.heap.size, 6, none⟩ = some (.string (mkS x.pf)) ∧ V.cell? ⟨w.heap.size, 7, none⟩ = some (.string (mkS x.fr)) ∧ V.cell? ⟨w.heap.size, 8, none⟩ = some (.int .i64 x.fi) ∧ V.cell? ⟨w.heap.size, 9, none⟩ = some (.int .i64 x.mo)) ∧
    (V.cell? ⟨w.heap.size + 1, 0, none⟩ = some (.int .i64 0) ∧ V.cell? ⟨w.heap.size + 1, 1, none⟩ = some (.string (mkS [])) ∧ V.cell? ⟨w.heap.size + 1, 2, none⟩ = some (.string (mkS [])) ∧ V.cell? ⟨w.heap.size + 1, 3, none⟩ = some (.slice none 0 0) ∧ V.cell? ⟨w.heap.size + 1, 4, none⟩ = some (.int .i64 0) ∧ V.cell? ⟨w.heap.size + 1, 5, none⟩ = some (.int .i64 0) ∧
    V.cell? ⟨w.heap.size + 1, 6, none⟩ = some (.string (mkS [])) ∧ V.cell? ⟨w.heap.size + 1, 7, none⟩ = some (.string (mkS [])) ∧ V.cell? ⟨w.heap.size + 1, 8, none⟩ = some (.int .i64 0) ∧ V.cell? ⟨w.heap.size + 1, 9, none⟩ = some (.int .i64 0)) ∧
    (V.frozen? ⟨w.heap.size + 1, 0, none⟩ = false ∧ V.frozen? ⟨w.heap.size + 1, 1, none⟩ = false ∧ V.frozen? ⟨w.heap.size + 1, 2, none⟩ = false ∧ V.frozen? ⟨w.heap.size + 1, 3, none⟩ = false ∧ V.frozen? ⟨w.heap.size + 1, 4, none⟩ = false ∧ V.frozen? ⟨w.heap.size + 1, 5, none⟩ = false ∧ V.frozen? ⟨w.heap.size + 1, 6, none⟩ = false ∧ V.frozen? ⟨w.heap.size + 1, 7, none⟩ = false ∧ V.frozen? ⟨w.heap.size + 1, 8, none⟩ = false ∧ V.frozen? ⟨w.heap.size + 1, 9, none⟩ = false) := fun V hV =>
    ⟨ch_cells (blk_below H20.out hV), ch_cells (x := bareC 0) (blk_below H21.out hV), ch_free (blk_below H21.out hV)⟩
  have HSF := Lib.hid hSf; clear hSf
  have hAsk : ∀ V, Below W2.heap.size W2 V → Calls Tryd.prog 30 #[.agg #[.string (mkS x.pf), .string (mkS x.fr), .int .i64 x.fi, .int .i64 x.mo]] V fun e w' => e = .returned (.agg #[.string (mkS x.pf), .string (mkS x.fr), .int .i64 x.fi, .int .i64 x.mo]) ∧ Below V.heap.size V w' ∧ Below W2.heap.size W2 w' := fun V hV =>
    (ask8_is _ _ _ _ V).mono fun e w' ⟨he, hb⟩ => ⟨he, hb, hV.trans (hb.mono hV.size)⟩
  have HAsk := Lib.hid hAsk; clear hAsk
  have hRd : ∀ V, Below W2.heap.size W2 V → ReadsRow ((Kd.int .u8).K V) 1 V A (byN x.dt).length (byN x.dt) := fun V hV =>
    (Kd.V_reads' (Kd.V_below (Kd.V_below HV.out HB2.out) hV)).2.2
  have HRd := Lib.hid hRd; clear hRd
  have hSz : ∀ V, Below W2.heap.size W2 V → W2.heap.size ≤ V.heap.size := fun V hV => hV.size
  have HSz := Lib.hid hSz; clear hSz
  have hB0 : Below W2.heap.size W2 W2.drew := (Below.refl _ _).drew
  change Code.wp _ _ _ _ ((w.alloc (.cells (chCells x (.slice A (byN x.dt).length c)).toArray 39)).alloc (.cells (chCells (bareC 0) (.slice none 0 0)).toArray 44))
  rw [HW2.out]
  have hlim : ([] : List Int).length + (byN x.dt).length ≤ 140737488355328 := by have := HBL.out; simp; omega
  have HLim := Lib.hid hlim; clear hlim
  clear HW2
  go_region_held3 (fun V => V.cell? ⟨w.heap.size, 0, none⟩ = some (.int .i64 x.d) ∧ V.cell? ⟨w.heap.size, 1, none⟩ = some (.string (mkS x.bk)) ∧ V.cell? ⟨w.heap.size, 2, none⟩ = some (.string (mkS x.ky)) ∧ V.cell? ⟨w.heap.size, 3, none⟩ = some (.slice A (byN x.dt).length c) ∧ V.cell? ⟨w.heap.size, 4, none⟩ = some (.int .i64 x.n) ∧ V.cell? ⟨w.heap.size, 5, none⟩ = some (.int .i64 x.a) ∧
    V.cell? ⟨w.heap.size, 6, none⟩ = some (.string (mkS x.pf)) ∧ V.cell? ⟨w.heap.size, 7, none⟩ = some (.string (mkS x.fr)) ∧ V.cell? ⟨w.heap.size, 8, none⟩ = some (.int .i64 x.fi) ∧ V.cell? ⟨w.heap.size, 9, none⟩ = some (.int .i64 x.mo))
    (first | (with_reducible exact (HSF.out _ (by with_reducible assumption)).1) | go_keep)
    (first
      | (go_at_call 30; refine (HAsk.out _ (by with_reducible assumption)).mono ?_; rintro e w' ⟨rfl, hba, hbn⟩; obtain ⟨r0, r1, r2, r3, r4, r5, r6, r7, r8, r9⟩ := (HSF.out _ hbn).2.1; obtain ⟨z0, z1, z2, z3, z4, z5, z6, z7, z8, z9⟩ := (HSF.out _ hbn).2.2)
      | (refine Kd.R_append_rows_step (Kd.int .u8) (w0 := W2) W2.heap.size (by rfl) (.const (.slice none 0 0)) (.tmp 10) 35 5 (.int .u8 0) 1 rfl Tryd.underlying35 info5b rfl (by decide) (by decide) (.slice none 0 0) [] (byN x.dt) A (byN x.dt).length c (fun _ => True) (fun _ => False) (by rfl) (by rfl) (Kd.R_nil _ _ _ _ _) (HRd.out _ (by with_reducible assumption)) (fun _ _ h => h) (fun _ h => h.elim) (fun _ _ => trivial) (by with_reducible assumption) (HSz.out _ (by with_reducible assumption)) (by rw [Nat.mul_one]; exact HLim.out) ?_; intro v1 w1 hR1 hB1 hg1 hat1; obtain ⟨A1, c1, rfl⟩ := Kd.R_slice hR1; have HR1 := Lib.hid hR1; clear hR1 hg1 hat1; obtain ⟨r0, r1, r2, r3, r4, r5, r6, r7, r8, r9⟩ := (HSF.out _ hB1).2.1; obtain ⟨z0, z1, z2, z3, z4, z5, z6, z7, z8, z9⟩ := (HSF.out _ hB1).2.2))
  · clear r0 r1 r2 r3 r4 r5 r6 r7 r8 r9 z0 z1 z2 z3 z4 z5 z6 z7 z8 z9
    go_wp2
    refine bodyPost_ret (ret_agg rfl _ _ (w.heap.size + 1) 44 (chCells x (.slice A1 (byN x.dt).length c1)).toArray (0, 0) _ rfl (chPut_heap (blk_below H21.out hbn) x (.slice A1 (byN x.dt).length c1)) Tryd.underlying44 rfl (by kernel_rfl)) rfl ?_
    have hs2 := HS2.out
    refine ⟨⟨.slice A1 (byN x.dt).length c1, rfl, ?_⟩, chPut_below (HB2.out.trans (Below.mono hbn (by omega))) (by omega) x _⟩
    exact Kd.V_mono (chPut_dt (Kd.V_mono (Kd.R_V (base' := 0) (Kd.R_bound (Kd.R_below HR1.out hba))) (fun k hk => (hk.2.1 : W2.heap.size ≤ k))) (fun k hk => by omega) x _) (fun k hk => by omega)
end Go.Proofs.YtghllfihmmlcnaaDoor
