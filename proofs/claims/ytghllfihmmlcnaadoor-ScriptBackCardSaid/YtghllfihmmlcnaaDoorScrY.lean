/- The statements' own bridge: a choice back. -/
import Derived.Test.YtghllfihmmlcnaaDoorScrX
import Derived.Deep.DeepCutAuto
import Derived.BigRegion
namespace Go.Proofs.YtghllfihmmlcnaaDoor
open Go.RowKit Nam YtghllfihmmlcnaaDoorW.PrintWords

/-- A choice without its question. -/
def noAsk (x : Ch) : Ch := { x with pf := [], fr := [], fi := 0, mo := 0 }
structure BkSt (W3 : World) (x : Ch) (A1 : Option Addr) (c1 : Nat) (g : Nat) (V : World) : Prop where
  b : Below W3.heap.size W3 V
  n : W3.heap.size ≤ g
  h : V.heap[g]? = some (.cells (chCells (noAsk x) (.slice A1 (byN x.dt).length c1)).toArray 39 (0, 0))
  d : Dt V (fun k => W3.heap.size ≤ k ∧ k ≠ g) (.slice A1 (byN x.dt).length c1) x.dt

set_option maxHeartbeats 1000000 in
set_option maxRecDepth 100000 in
theorem back8_is (x : Ch) (A : Option Addr) (c : Nat) (w : World) (hx : x.dt.length ≤ 1000000) (hv : Dt w (fun _ => True) (.slice A (byN x.dt).length c) x.dt) :
    Calls Tryd.prog 16 #[.agg (chCells x (.slice A (byN x.dt).length c)).toArray] w fun e w' => (∃ v, e = .returned (.agg (chCells x v).toArray) ∧ Dt w' (fun k => w.heap.size ≤ k) v x.dt) ∧ Below w.heap.size w w' := by
  have HV := Lib.hid hv; clear hv
  have hbl := byN_length x.dt
  have HBL : Hid ((byN x.dt).length ≤ 1000000) := by show _ ≤ _; omega
  clear hbl
  unfold chCells
  go_enter Tryd.func16, Tryd.ntmps16
  go_wp2_with fail
  obtain ⟨W3, hW3⟩ : ∃ W3, (((w.alloc (.cells (chCells x (.slice A (byN x.dt).length c)).toArray 44)).alloc (.cells (chCells (bareC 0) (.slice none 0 0)).toArray 39)).alloc (.cells #[.string (mkS x.pf), .string (mkS x.fr), .int .i64 x.fi, .int .i64 x.mo] 42)) = W3 := ⟨_, rfl⟩
  have hs3 : W3.heap.size = w.heap.size + 3 := by rw [← hW3]; simp
  have hb3 : Below w.heap.size w W3 := by rw [← hW3]; exact (((Below.refl _ _).alloc (Nat.le_refl _) _).alloc (by simp) _).alloc (by simp; omega) _
  have h30 : W3.heap[w.heap.size]? = some (.cells (chCells x (.slice A (byN x.dt).length c)).toArray 44 (0, 0)) := by
    rw [← hW3]; exact blk_alloc (blk_alloc (blk_new _ _) _) _
  have h31 : W3.heap[w.heap.size + 1]? = some (.cells (chCells (bareC 0) (.slice none 0 0)).toArray 39 (0, 0)) := by
    rw [← hW3]
    have := blk_alloc (blk_new (w.alloc (.cells (chCells x (.slice A (byN x.dt).length c)).toArray 44)) (.cells (chCells (bareC 0) (.slice none 0 0)).toArray 39)) (.cells #[.string (mkS x.pf), .string (mkS x.fr), .int .i64 x.fi, .int .i64 x.mo] 42)
    simpa using this
  have h32 : W3.heap[w.heap.size + 2]? = some (.cells #[.string (mkS x.pf), .string (mkS x.fr), .int .i64 x.fi, .int .i64 x.mo] 42 (0, 0)) := by
    rw [← hW3]
    have := blk_new ((w.alloc (.cells (chCells x (.slice A (byN x.dt).length c)).toArray 44)).alloc (.cells (chCells (bareC 0) (.slice none 0 0)).toArray 39)) (.cells #[.string (mkS x.pf), .string (mkS x.fr), .int .i64 x.fi, .int .i64 x.mo] 42)
    simpa using this
  change Code.wp _ _ _ _ (((w.alloc (.cells (chCells x (.slice A (byN x.dt).length c)).toArray 44)).alloc (.cells (chCells (bareC 0) (.slice none 0 0)).toArray 39)).alloc (.cells #[.string (mkS x.pf), .string (mkS x.fr), .int .i64 x.fi, .int .i64 x.mo] 42))
  rw [hW3]
  have hlim : ([] : List Int).length + (byN x.dt).length ≤ 140737488355328 := by have := HBL.out; simp; omega
  have HLim := Lib.hid hlim; clear hlim
  have HSf : Hid (∀ V, Below W3.heap.size W3 V → V.cell? ⟨w.heap.size, 0, none⟩ = some (.int .i64 x.d) ∧ V.cell? ⟨w.heap.size, 1, none⟩ = some (.string (mkS x.bk)) ∧ V.cell? ⟨w.heap.size, 2, none⟩ = some (.string (mkS x.ky)) ∧ V.cell? ⟨w.heap.size, 3, none⟩ = some (.slice A (byN x.dt).length c) ∧ V.cell? ⟨w.heap.size, 4, none⟩ = some (.int .i64 x.n) ∧ V.cell? ⟨w.heap.size, 5, none⟩ = some (.int .i64 x.a)) := fun V hV => by
    obtain ⟨a, b, c, d, e, f, _⟩ := ch_cells (blk_below h30 hV)
    exact ⟨a, b, c, d, e, f⟩
  have HRd : Hid (∀ V, Below W3.heap.size W3 V → ReadsRow ((Kd.int .u8).K V) 1 V A (byN x.dt).length (byN x.dt)) := fun V hV => (Kd.V_reads' (Kd.V_below (Kd.V_below HV.out hb3) hV)).2.2
  have HSz : Hid (∀ V, Below W3.heap.size W3 V → W3.heap.size ≤ V.heap.size) := fun V hV => hV.size
  have hB0 : Below W3.heap.size W3 W3.drew := (Below.refl _ _).drew
  have hA0 : ∀ o, Below W3.heap.size W3 (W3.alloc o) := fun o => (Below.refl _ _).alloc (Nat.le_refl _) o
  have HA0 := Lib.hid hA0; clear hA0
  have HA2 : Hid (∀ o, Below W3.heap.size W3 (W3.alloc o).drew) := fun o => ((Below.refl _ _).alloc (Nat.le_refl _) o).drew
  have H30 := Lib.hid h30; clear h30
  have H31 := Lib.hid h31; clear h31
  have H32 := Lib.hid h32; clear h32
  have HS3 := Lib.hid hs3; clear hs3
  have HB3 := Lib.hid hb3; clear hb3
  have HW3 := Lib.hid hW3; clear hW3
  go_cut [4] (fun v4 wx => ∃ (g : Nat) (A1 : Option Addr) (c1 : Nat), v4 = .pointer (some ⟨g, 0, none⟩) ∧ Hid (BkSt W3 x A1 c1 g wx))
  case first =>
    go_region_held3 (fun V => V.cell? ⟨w.heap.size, 0, none⟩ = some (.int .i64 x.d) ∧ V.cell? ⟨w.heap.size, 1, none⟩ = some (.string (mkS x.bk)) ∧ V.cell? ⟨w.heap.size, 2, none⟩ = some (.string (mkS x.ky)) ∧ V.cell? ⟨w.heap.size, 3, none⟩ = some (.slice A (byN x.dt).length c) ∧ V.cell? ⟨w.heap.size, 4, none⟩ = some (.int .i64 x.n) ∧ V.cell? ⟨w.heap.size, 5, none⟩ = some (.int .i64 x.a))
      (first | (with_reducible exact (HSf.out _ (by with_reducible assumption))) | (with_reducible exact (HSf.out _ (HA0.out _))) | (with_reducible exact (HSf.out _ (HA2.out _))) | (with_reducible exact (HSf.out _ (HA1.out _))) | (exact (HSf.out _ HA3.out)) | go_keep)
      (first
        | (refine Kd.R_append_rows_step (Kd.int .u8) (w0 := W3) W3.heap.size (by rfl) (.const (.slice none 0 0)) (.tmp 14) 35 5 (.int .u8 0) 1 rfl Tryd.underlying35 info5b rfl (by decide) (by decide) (.slice none 0 0) [] (byN x.dt) A (byN x.dt).length c (fun _ => True) (fun _ => False) (by rfl) (by rfl) (Kd.R_nil _ _ _ _ _) (HRd.out _ (by with_reducible assumption)) (fun _ _ h => h) (fun _ h => h.elim) (fun _ _ => trivial) (by with_reducible assumption) (HSz.out _ (by with_reducible assumption)) (by rw [Nat.mul_one]; exact HLim.out) ?_; intro v1 w1 hR1 hB1 hg1 hat1; obtain ⟨A1, c1, rfl⟩ := Kd.R_slice hR1; have HR1 := Lib.hid hR1; have HA1 : Hid (∀ o, Below W3.heap.size W3 (w1.alloc o)) := fun o => hB1.alloc hB1.size o; clear hR1 hat1)
        | (refine Kd.R_append_rows_step (Kd.int .u8) (w0 := W3) W3.heap.size (by rfl) (.const (.slice none 0 0)) (.tmp 14) 35 5 (.int .u8 0) 1 rfl Tryd.underlying35 info5b rfl (by decide) (by decide) (.slice none 0 0) [] (byN x.dt) A (byN x.dt).length c (fun _ => True) (fun _ => False) (by rfl) (by rfl) (Kd.R_nil _ _ _ _ _) (HRd.out _ (HA2.out _)) (fun _ _ h => h) (fun _ h => h.elim) (fun _ _ => trivial) (HA2.out _) (HSz.out _ (HA2.out _)) (by rw [Nat.mul_one]; exact HLim.out) ?_; intro v1 w1 hR1 hB1 hg1 hat1; obtain ⟨A1, c1, rfl⟩ := Kd.R_slice hR1; have HR1 := Lib.hid hR1; have HA1 : Hid (∀ o, Below W3.heap.size W3 (w1.alloc o)) := fun o => hB1.alloc hB1.size o; have hq : w1.heap[W3.heap.size]? = some (.cells (chCells (bareC 0) (.slice none 0 0)).toArray 39 (0, 0)) := blk_grown (blk_drew (blk_new W3 _)) hg1 (by simp [Value.ownBlock]); obtain ⟨r0, r1, r2, r3, r4, r5, r6, r7, r8, r9⟩ := ch_cells (x := bareC 0) hq; obtain ⟨z0, z1, z2, z3, z4, z5, z6, z7, z8, z9⟩ := ch_free hq; have HQ := Lib.hid hq; have HA3 : Hid (Below W3.heap.size W3 (chPut w1 W3.heap.size (noAsk x) (.slice A1 (byN x.dt).length c1))) := chPut_below hB1 (Nat.le_refl _) _ _; clear hR1 hat1 hq))
    · have e2 : ∀ o, Dt (w1.alloc o) (fun k => W3.heap.size ≤ k ∧ k ≠ w1.heap.size) (.slice A1 (byN x.dt).length c1) x.dt := fun o => Kd.V_mono (Kd.V_alloc (Kd.R_V (base' := 0) (Kd.R_bound HR1.out)) o) (fun k hk => ⟨hk.2.1, by have := hk.2.2.1; omega⟩)
      have e3 : BkSt W3 x A1 c1 w1.heap.size (w1.alloc (.cells (chCells (noAsk x) (.slice A1 (byN x.dt).length c1)).toArray 39)) := ⟨HA1.out _, hB1.size, blk_new w1 _, e2 _⟩
      have E3 := Lib.hid e3
      clear e2 e3
      go_wp2
      go_meet
      case rel => exact ⟨_, _, _, rfl, E3⟩
    · have e3 : BkSt W3 x A1 c1 W3.heap.size (chPut w1 W3.heap.size (noAsk x) (.slice A1 (byN x.dt).length c1)) := ⟨HA3.out, Nat.le_refl _, chPut_heap HQ.out _ _, chPut_dt (Kd.V_mono (Kd.R_V (base' := 0) (Kd.R_bound (Kd.R_types HR1.out HQ.out (by decide)))) (fun k hk => ⟨hk.2.1, hk.1.2⟩)) (fun k hk => hk.2) _ _⟩
      have E3 := Lib.hid e3
      clear e3
      go_wp2
      go_meet
      case rel => exact ⟨_, _, _, rfl, E3⟩
  case rest =>
    obtain ⟨g, A1, c1, rfl, HK⟩ := hcut
    have hs3 := HS3.out
    have hgn := HK.out.n
    obtain ⟨d0, d1, d2, d3, d4, d5, d6, d7, d8, d9⟩ := ch_cells HK.out.h
    obtain ⟨z0, z1, z2, z3, z4, z5, z6, z7, z8, z9⟩ := ch_free HK.out.h
    have hq := blk_below H32.out HK.out.b
    have q0 := (blk_cell hq 0).trans (rfl : _ = some (Value.string (mkS x.pf)))
    have q1 := (blk_cell hq 1).trans (rfl : _ = some (Value.string (mkS x.fr)))
    have q2 := (blk_cell hq 2).trans (rfl : _ = some (Value.int .i64 x.fi))
    have q3 := (blk_cell hq 3).trans (rfl : _ = some (Value.int .i64 x.mo))
    have hne : w.heap.size + 2 ≠ g := by omega
    have hne2 : g ≠ w.heap.size + 2 := by omega
    simp only [noAsk] at d0 d1 d2 d3 d4 d5 d6 d7 d8 d9
    clear hq hs3
    go_wp2_with fail
    go_region
    have hs3 := HS3.out
    obtain ⟨W4, hW4⟩ : ∃ W4, ((((wc.setCell ⟨g, 6, none⟩ (.string (mkS x.pf))).setCell ⟨g, 7, none⟩ (.string (mkS x.fr))).setCell ⟨g, 8, none⟩ (.int .i64 x.fi)).setCell ⟨g, 9, none⟩ (.int .i64 x.mo)).drew = W4 := ⟨_, rfl⟩
    have h4 : W4.heap[g]? = some (.cells (chCells x (.slice A1 (byN x.dt).length c1)).toArray 39 (0, 0)) := by
      rw [← hW4]
      exact (blk_set (blk_set (blk_set (blk_set HK.out.h 6 (.string (mkS x.pf))) 7 (.string (mkS x.fr))) 8 (.int .i64 x.fi)) 9 (.int .i64 x.mo)).trans (by simp [chCells, noAsk])
    have r4 : W4.heap[w.heap.size + 1]? = some (.cells (chCells (bareC 0) (.slice none 0 0)).toArray 39 (0, 0)) := by
      rw [← hW4]
      have hne1 : w.heap.size + 1 ≠ g := by omega
      exact blk_far (p := ⟨g, 9, none⟩) (blk_far (p := ⟨g, 8, none⟩) (blk_far (p := ⟨g, 7, none⟩) (blk_far (p := ⟨g, 6, none⟩) (blk_below H31.out HK.out.b) hne1 _) hne1 _) hne1 _) hne1 _
    have dD : Dt W4 (fun k => W3.heap.size ≤ k ∧ k ≠ g) (.slice A1 (byN x.dt).length c1) x.dt := by
      rw [← hW4]
      exact Kd.V_drew (Kd.V_far (p := ⟨g, 9, none⟩) (Kd.V_far (p := ⟨g, 8, none⟩) (Kd.V_far (p := ⟨g, 7, none⟩) (Kd.V_far (p := ⟨g, 6, none⟩) HK.out.d (fun _ hk => hk.2) _) (fun _ hk => hk.2) _) (fun _ hk => hk.2) _) (fun _ hk => hk.2) _)
    have b4 : Below w.heap.size w W4 := by
      rw [← hW4]
      have hg : w.heap.size ≤ g := by omega
      exact (((((HB3.out.trans (HK.out.b.mono (by omega))).setCell (p := ⟨g, 6, none⟩) hg _).setCell (p := ⟨g, 7, none⟩) hg _).setCell (p := ⟨g, 8, none⟩) hg _).setCell (p := ⟨g, 9, none⟩) hg _).drew
    rw [hW4]
    obtain ⟨e0, e1, e2, e3, e4, e5, e6, e7, e8, e9⟩ := ch_cells h4
    have R4 := Lib.hid r4
    have D4 := Lib.hid dD
    have B4 := Lib.hid b4
    clear hW4 h4 r4 dD b4 hs3 d0 d1 d2 d3 d4 d5 d6 d7 d8 d9 z0 z1 z2 z3 z4 z5 z6 z7 z8 z9 q0 q1 q2 q3
    go_wp2_with (refine wpList_store_row rfl 39 (.tmp 2) (.tmp 37) rfl (w.heap.size + 1) (chCells x (.slice A1 (byN x.dt).length c1)).toArray rfl rfl 39 _ R4.out (by kernel_rfl) rfl (chCells_all _ _ _ _) ?_)
    refine bodyPost_ret (ret_agg rfl _ _ (w.heap.size + 1) 39 (chCells x (.slice A1 (byN x.dt).length c1)).toArray (0, 0) _ rfl (setRow_heap _ _ _ _ _ _ R4.out) Tryd.underlying39 rfl (by kernel_rfl)) rfl ?_
    have hs3 := HS3.out
    refine ⟨⟨.slice A1 (byN x.dt).length c1, rfl, ?_⟩, below_setRow B4.out (by omega) _⟩
    exact Kd.V_mono (Kd.V_step D4.out (fun k hk _ => setRow_other _ _ _ _ (by omega))) (fun k hk => by omega)
end Go.Proofs.YtghllfihmmlcnaaDoor
