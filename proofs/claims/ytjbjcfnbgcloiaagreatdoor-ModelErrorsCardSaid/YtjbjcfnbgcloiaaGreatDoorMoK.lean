/- Get of package model. -/
import Derived.Test.YtjbjcfnbgcloiaaGreatDoorMoJ
import Derived.Deep.RegionHeld3
namespace Go.Proofs.YtjbjcfnbgcloiaaGreatDoor
open Go.RowKit Nam YtjbjcfnbgcloiaaGreatDoorW.PrintWords

def St.getK (S : St) (b k : List UInt8) (id : Int) : Option Kp := (S.V b k)[(idxK id (S.V b k)).toNat]?
def St.getE (S : St) (b k : List UInt8) (id : Int) : Int := if S.findE b k id 0 ≠ 0 then S.findE b k id 0 else match S.getK b k id with
  | some y => if y.mark then 16 else 0
  | none => 0
def GetIs (S : St) (b k : List UInt8) (id : Int) (w : World) (e : Ending) (w' : World) : Prop :=
  (∃ (y : Kp) (v : Value), e = .returned (.tuple #[verV y, v, .int .i64 (S.getE b k id)]) ∧
    ((S.findE b k id 0 ≠ 0 ∧ y = kp0 ∧ v = .slice none 0 0) ∨ (S.findE b k id 0 = 0 ∧ S.getK b k id = some y ∧ S.getE b k id = 16 ∧ y.mark = true ∧ v = .slice none 0 0) ∨
     (S.findE b k id 0 = 0 ∧ S.getK b k id = some y ∧ S.getE b k id = 0 ∧ y.mark = false ∧ ∃ (A : Option Addr) (c : Nat), v = .slice A y.dt.length c ∧ y.dt.length ≤ c ∧ ∃ Fb, DatF w' Fb A y.dt ∧ ∀ j, Fb j → IsC w' j ∧ w.heap.size < j))) ∧ Below w.heap.size w w'
theorem below_put {w W : World} {B : Nat} (h : Below B w W) {p : Addr} (hp : B ≤ p.block) (u : Value) : Below B w (W.setCell p u) :=
  ⟨by simpa [World.setCell] using h.os, by simpa [World.setCell] using h.tape, by simpa [World.setCell] using h.output, by simpa [World.setCell] using h.size, fun k hk => (Below.heap_setCell W p u k (by omega)).trans (h.block k hk)⟩
theorem fkept_put {F : Nat → Prop} (W : World) {p : Addr} (hp : ∀ k, F k → k ≠ p.block) (u : Value) : FKept F W (W.setCell p u) := fun k hk => Below.heap_setCell W p u k (hp k hk)
theorem cell_put {W : World} {g g2 j i : Nat} {v : Value} (h : W.cell? ⟨g, j, none⟩ = some v) (hne : g ≠ g2) (u : Value) : (W.setCell ⟨g2, i, none⟩ u).cell? ⟨g, j, none⟩ = some v :=
  (World.cell?_of_block (Below.heap_setCell W ⟨g2, i, none⟩ u g hne)).trans h

set_option maxHeartbeats 2000000 in
set_option maxRecDepth 100000 in
theorem get_is (w : World) (g : Nat) (S : St) (n : Nat) (Q F : Nat → Prop) (b k : List UInt8) (id : Int) (hb : b.length ≤ 100000) (hk : k.length ≤ 100000) (hl : (S.V b k).length ≤ 100000) (hd : ∀ y ∈ S.V b k, y.dt.length ≤ 1000000) (hm : HasM w g S n Q F) (hT : Tabs w) :
    Calls Tryz.prog 20 #[.pointer (some ⟨g, 0, none⟩), .string (mkS b), .string (mkS k), .int .i64 id] w (GetIs S b k id w) := by
  obtain ⟨W1, hW1⟩ : ∃ W1, w.alloc (.cells #[.int .i64 0, .bool false, .int .i64 0, .int .u32 0] 38) = W1 := ⟨_, rfl⟩
  have hb1 : Below w.heap.size w W1 := by rw [← hW1]; exact (Below.refl _ _).alloc (Nat.le_refl _) _
  have hbv : W1.heap[w.heap.size]? = some (.cells #[.int .i64 0, .bool false, .int .i64 0, .int .u32 0] 38 (0, 0)) := by rw [← hW1]; exact heap_alloc_new w _
  have hs1 : w.heap.size + 1 = W1.heap.size := by rw [← hW1]; simp
  have hfe := find_is W1 g S n Q F b k id 0 hb hk hl (hm.below hb1) (hT.below hb1)
  have HW4 : Hid (∀ (w3 W4 : World) (cs : Array Value), Below W1.heap.size W1 w3 → (w3.alloc (.cells #[.int .i64 0, .bool false, .int .i64 0, .int .u32 0, .slice none 0 0] 67)).setRow w3.heap.size cs = W4 → Hid (W4.heap[w.heap.size]? = some (.cells #[.int .i64 0, .bool false, .int .i64 0, .int .u32 0] 38 (0, 0))) ∧ Hid (Below w.heap.size w W4) ∧ Hid (w.heap.size < w3.heap.size) ∧ Hid (w.heap.size < W4.heap.size) ∧ Hid (Below w3.heap.size w3 W4)) := fun w3 W4 cs h3 h4 => by
    have h03 : Below w.heap.size w w3 := hb1.trans (h3.mono (by omega))
    obtain ⟨h5, h6⟩ := boxed h03 h4
    have := h3.size
    have := h6.size
    exact ⟨blk_below (blk_below hbv h3) h6, h5, by show _ < _; omega, by show _ < _; omega, h6⟩
  have HW4b : Hid (∀ (w3 W4 : World) (cs : Array Value), Below W1.heap.size W1 w3 → w3.alloc (.cells cs 67) = W4 → Hid (W4.heap[w.heap.size]? = some (.cells #[.int .i64 0, .bool false, .int .i64 0, .int .u32 0] 38 (0, 0))) ∧ Hid (Below w.heap.size w W4) ∧ Hid (W4.heap[w3.heap.size]? = some (.cells cs 67 (0, 0))) ∧ Hid (w.heap.size < w3.heap.size ∧ w3.heap.size < W4.heap.size) ∧ Hid (Below w3.heap.size w3 W4)) := fun w3 W4 cs h3 h4 => by
    have h03 : Below w.heap.size w w3 := hb1.trans (h3.mono (by omega))
    have hnew := heap_alloc_new w3 (.cells cs 67)
    subst h4
    have h5 := h03.alloc h03.size (.cells cs 67)
    have h6 := (Below.refl w3.heap.size w3).alloc (Nat.le_refl _) (.cells cs 67)
    exact ⟨blk_below (blk_below hbv h3) h6, h5, hnew, ⟨by have := h3.size; omega, blk_lt hnew⟩, h6⟩
  have HFC : Hid (∀ V, Below W1.heap.size W1 V → ∀ j, F j → IsC V j) := fun V hV => ((hm.below hb1).below hV).f
  have HFC4 : Hid (∀ V, Below w.heap.size w V → ∀ j, F j → IsC V j) := fun V hV => (hm.below hV).f
  clear hbv hb1 hm hT
  by_cases hf : S.findE b k id 0 = 0
  rotate_left
  · have hR : S.getE b k id = S.findE b k id 0 := by unfold St.getE; rw [if_pos hf]
    obtain ⟨er, her⟩ : ∃ er, S.findE b k id 0 = er := ⟨_, rfl⟩
    have HF := Lib.hid hf
    rw [her] at hR hf
    have HFE : Hid (Calls Tryz.prog 55 #[.pointer (some ⟨g, 0, none⟩), .string (mkS b), .string (mkS k), .int .i64 id, .int .i64 0] W1 fun e w' => e = .returned (.tuple #[.agg #[.int .i64 0, .bool false, .int .i64 0, .int .u32 0, .slice none 0 0], .int .i64 0, .int .i64 er]) ∧ Below W1.heap.size W1 w') := hfe.mono fun e w' h => by
      refine ⟨?_, h.2⟩
      rcases h.1 with ⟨_, he⟩ | ⟨h0, _⟩
      · rw [he, her]
      · exact absurd (her.symm.trans h0) hf
    have de : (er == 0) = false := by simp [hf]
    have HR := Lib.hid hR
    clear hfe hR her
    go_enter Tryz.func20, Tryz.ntmps20
    go_upto_region 1 with (fail)
    clear hW1
    go_wp2_with (first | (go_at_call 55; refine HFE.out.mono ?_; rintro e w3 ⟨rfl, hb3⟩; obtain ⟨W4, hW4⟩ : ∃ W4, (w3.alloc (.cells #[.int .i64 0, .bool false, .int .i64 0, .int .u32 0, .slice none 0 0] 67)).setRow w3.heap.size #[.int .i64 0, .bool false, .int .i64 0, .int .u32 0, .slice none 0 0] = W4 := ⟨_, rfl⟩; obtain ⟨HBV4, HB4, HS4, HBD4, HK4⟩ := HW4.out w3 W4 #[.int .i64 0, .bool false, .int .i64 0, .int .u32 0, .slice none 0 0] hb3 hW4; clear hb3) | (refine wpList_store_row rfl 67 (.tmp 11) (.tmp 20) rfl w3.heap.size #[.int .i64 0, .bool false, .int .i64 0, .int .u32 0, .slice none 0 0] rfl rfl 67 _ (heap_alloc_new w3 _) (by kernel_rfl) rfl (by simp [Value.oneCell']) ?_; rw [hW4]; clear hW4) | (refine wpList_store_row rfl 38 (.tmp 8) (.tmp 26) rfl w.heap.size #[.int .i64 0, .bool false, .int .i64 0, .int .u32 0] rfl rfl 38 _ HBV4.out (by kernel_rfl) rfl (by simp [Value.oneCell']) ?_))
    refine bodyPost_ret (results_ctt rfl _ _ w.heap.size 38 #[.int .i64 0, .bool false, .int .i64 0, .int .u32 0] (0, 0) _ rfl (setRow_heap _ _ _ _ _ _ HBV4.out) Tryz.underlying38 rfl (by kernel_rfl)) rfl ?_
    exact ⟨⟨kp0, _, by rw [HR.out]; rfl, .inl ⟨HF.out, rfl, rfl⟩⟩, below_setRow HB4.out (Nat.le_refl _) _⟩
  · have HFE : Hid (Calls Tryz.prog 55 #[.pointer (some ⟨g, 0, none⟩), .string (mkS b), .string (mkS k), .int .i64 id, .int .i64 0] W1 fun e w' => (∃ (y : Kp) (A : Option Addr) (c i : Nat), e = .returned (.tuple #[.agg #[.int .i64 y.id, .bool y.mark, .int .i64 y.sz, .int .u32 y.sum, .slice A y.dt.length c], .int .i64 (i : Int), .int .i64 0]) ∧ S.getK b k id = some y ∧ y.dt.length ≤ c ∧ DatF w' F A y.dt) ∧ Below W1.heap.size W1 w') := hfe.mono fun e w' h => by
      refine ⟨?_, h.2⟩
      rcases h.1 with ⟨h0, _⟩ | ⟨_, i, y, A, c, hi, hil, hy, hc, hd, he⟩
      · exact absurd hf h0
      · exact ⟨y, A, c, i, he, by unfold St.getK; rw [hi]; exact hy, hc, hd⟩
    have HF := Lib.hid hf
    obtain ⟨y, hy⟩ : ∃ y, S.getK b k id = some y := by
      have : 0 ≤ idxK id (S.V b k) := by
        refine Classical.byContradiction fun hn => ?_
        unfold St.findE at hf
        have := find_in (S := S) (b := b) (k := k) (id := id) (least := 0) HF.out
        rw [if_neg (by rw [this.2.2]; simp)] at hf
        by_cases h2 : id < 0
        · rw [if_pos h2] at hf; cases hf
        · rw [if_neg h2, if_neg (fun h => h this.1), if_neg this.2.1, if_pos (by omega)] at hf; cases hf
      rcases idxK_lt (id := id) (l := S.V b k) with h | ⟨i, h, hi⟩
      · omega
      · exact ⟨(S.V b k)[i], by unfold St.getK; rw [h]; simp [hi]⟩
    have hyd : y.dt.length ≤ 1000000 := by
      refine hd y ?_
      unfold St.getK at hy
      exact List.mem_of_getElem? hy
    have HY := Lib.hid hy
    have HFE : Hid (Calls Tryz.prog 55 #[.pointer (some ⟨g, 0, none⟩), .string (mkS b), .string (mkS k), .int .i64 id, .int .i64 0] W1 fun e w' => (∃ (A : Option Addr) (c i : Nat), e = .returned (.tuple #[.agg #[.int .i64 y.id, .bool y.mark, .int .i64 y.sz, .int .u32 y.sum, .slice A y.dt.length c], .int .i64 (i : Int), .int .i64 0]) ∧ y.dt.length ≤ c ∧ DatF w' F A y.dt) ∧ Below W1.heap.size W1 w') := HFE.out.mono fun e w' ⟨⟨y', A, c, i, h1, h2, h3⟩, h4⟩ => by
      rw [HY.out] at h2
      injection h2 with h2
      subst h2
      exact ⟨⟨A, c, i, h1, h3⟩, h4⟩
    obtain ⟨mk, hmk⟩ : ∃ mk, y.mark = mk := ⟨_, rfl⟩
    cases mk with
    | true =>
      have HR : Hid (S.getE b k id = 16) := by show _ = _; unfold St.getE; rw [if_neg (fun h => h HF.out), HY.out]; simp [hmk]
      have HMK := Lib.hid hmk
      clear hfe hy hf
      rw [hmk] at HFE
      go_enter Tryz.func20, Tryz.ntmps20
      go_upto_region 1 with (fail)
      clear hW1
      go_wp2_with (first | (go_at_call 55; refine HFE.out.mono ?_; rintro e w3 ⟨⟨A, c, i, rfl, hdc, hdf⟩, hb3⟩; obtain ⟨W4, hW4⟩ : ∃ W4, w3.alloc (.cells #[.int .i64 y.id, .bool true, .int .i64 y.sz, .int .u32 y.sum, .slice A y.dt.length c] 67) = W4 := ⟨_, rfl⟩; obtain ⟨HBV4, HB4, HS4, HBD4, HK4⟩ := HW4b.out w3 W4 #[.int .i64 y.id, .bool true, .int .i64 y.sz, .int .u32 y.sum, .slice A y.dt.length c] hb3 hW4; have z0 := (blk_cell HS4.out 0).trans (rfl : _ = some (Value.int .i64 y.id)); have z1 := (blk_cell HS4.out 1).trans (rfl : _ = some (Value.bool true)); have z2 := (blk_cell HS4.out 2).trans (rfl : _ = some (Value.int .i64 y.sz)); have z3 := (blk_cell HS4.out 3).trans (rfl : _ = some (Value.int .u32 y.sum)); have z4 := (blk_cell HS4.out 4).trans (rfl : _ = some (Value.slice A y.dt.length c)); have HDA := Lib.hid (And.intro hdc hdf); have HB3 := Lib.hid hb3; clear hb3 hdc hdf) | (refine wpList_store_row rfl 38 (.tmp 8) (.tmp 33) rfl w.heap.size #[.int .i64 y.id, .bool true, .int .i64 y.sz, .int .u32 y.sum] rfl rfl 38 _ HBV4.out (by kernel_rfl) rfl (by simp [Value.oneCell']) ?_))
      refine bodyPost_ret (results_ctt rfl _ _ w.heap.size 38 #[.int .i64 y.id, .bool true, .int .i64 y.sz, .int .u32 y.sum] (0, 0) _ rfl (setRow_heap _ _ _ _ _ _ HBV4.out) Tryz.underlying38 rfl (by kernel_rfl)) rfl ?_
      exact ⟨⟨y, _, by rw [HR.out]; unfold verV; rw [HMK.out]; rfl, .inr (.inl ⟨HF.out, HY.out, HR.out, HMK.out, rfl⟩)⟩, below_setRow HB4.out (Nat.le_refl _) _⟩
    | false =>
      have HR : Hid (S.getE b k id = 0) := by show _ = _; unfold St.getE; rw [if_neg (fun h => h HF.out), HY.out]; simp [hmk]
      have HMK := Lib.hid hmk
      have HCl : Hid (∀ W A c, (Kd.int .u8).C W A y.dt.length (byN y.dt) → Calls Tryz.prog 53 #[.slice A y.dt.length c] W fun e w' => (∃ A' c', e = .returned (.slice A' y.dt.length c') ∧ y.dt.length ≤ c' ∧ ∃ Fb, DatF w' Fb A' y.dt ∧ ∀ k, Fb k → IsC w' k ∧ W.heap.size ≤ k) ∧ Below W.heap.size W w') := fun W A c h => bclone_is W A c y.dt hyd h
      clear hfe hy hf hyd
      rw [hmk] at HFE
      go_enter Tryz.func20, Tryz.ntmps20
      go_upto_region 1 with (fail)
      clear hW1
      go_wp2_with (first | (go_at_call 55; refine HFE.out.mono ?_; rintro e w3 ⟨⟨A, c, i, rfl, hdc, hdf⟩, hb3⟩; obtain ⟨W4, hW4⟩ : ∃ W4, w3.alloc (.cells #[.int .i64 y.id, .bool false, .int .i64 y.sz, .int .u32 y.sum, .slice A y.dt.length c] 67) = W4 := ⟨_, rfl⟩; obtain ⟨HBV4, HB4, HS4, HBD4, HK4⟩ := HW4b.out w3 W4 #[.int .i64 y.id, .bool false, .int .i64 y.sz, .int .u32 y.sum, .slice A y.dt.length c] hb3 hW4; have z0 := (blk_cell HS4.out 0).trans (rfl : _ = some (Value.int .i64 y.id)); have z1 := (blk_cell HS4.out 1).trans (rfl : _ = some (Value.bool false)); have z2 := (blk_cell HS4.out 2).trans (rfl : _ = some (Value.int .i64 y.sz)); have z3 := (blk_cell HS4.out 3).trans (rfl : _ = some (Value.int .u32 y.sum)); have z4 := (blk_cell HS4.out 4).trans (rfl : _ = some (Value.slice A y.dt.length c)); have HDA := Lib.hid (And.intro hdc hdf); have HB3 := Lib.hid hb3; clear hb3 hdc hdf) | fail)
      have hDF : DatF W4 F A y.dt := HDA.out.2.kept (below_cells HK4.out (fun j hj => (HFC.out w3 HB3.out j hj)))
      have HDF := Lib.hid hDF
      clear hDF
      have HSf : Hid (∀ V, Below W4.heap.size W4 V → V.cell? ⟨w3.heap.size, 0, none⟩ = some (.int .i64 y.id) ∧ V.cell? ⟨w3.heap.size, 1, none⟩ = some (.bool false) ∧ V.cell? ⟨w3.heap.size, 2, none⟩ = some (.int .i64 y.sz) ∧ V.cell? ⟨w3.heap.size, 3, none⟩ = some (.int .u32 y.sum) ∧ V.cell? ⟨w3.heap.size, 4, none⟩ = some (.slice A y.dt.length c)) := fun V hV => by
        have hbx := blk_below HS4.out hV
        exact ⟨(blk_cell hbx 0).trans rfl, (blk_cell hbx 1).trans rfl, (blk_cell hbx 2).trans rfl, (blk_cell hbx 3).trans rfl, (blk_cell hbx 4).trans rfl⟩
      have hne1 : w3.heap.size ≠ w.heap.size := by have := HBD4.out.1; omega
      have hB0 : Below W4.heap.size W4 W4.drew := (Below.refl _ _).drew
      have HC4 : Hid (∀ V, Below W4.heap.size W4 V → Calls Tryz.prog 53 #[.slice A y.dt.length c] V fun e w' => (∃ A' c', e = .returned (.slice A' y.dt.length c') ∧ Hid (y.dt.length ≤ c' ∧ ∃ Fb, DatF w' Fb A' y.dt ∧ ∀ k, Fb k → IsC w' k ∧ w.heap.size < k)) ∧ Below W4.heap.size W4 w' ∧ Hid (w'.heap[w.heap.size]? = some (.cells #[.int .i64 0, .bool false, .int .i64 0, .int .u32 0] 38 (0, 0)))) := fun V hV =>
        (HCl.out V A c (HDF.out.kept (below_cells hV (fun j hj => (HFC4.out W4 HB4.out j hj)))).now).mono fun e w' ⟨⟨A', c', h1, h2, Fb, h3, h4⟩, h5⟩ =>
          ⟨⟨A', c', h1, h2, Fb, h3, fun k hk => ⟨(h4 k hk).1, by have := (h4 k hk).2; have := hV.size; have := HBD4.out; omega⟩⟩, hV.trans (h5.mono hV.size), blk_below (blk_below HBV4.out hV) (h5.mono (Nat.le_refl _))⟩
      go_region_with (first | (go_at_call 53; refine (HC4.out _ hB0).mono ?_; rintro e w5 ⟨⟨A', c', rfl, HDD⟩, hb5, HBV5⟩; have q0 := HSf.out _ hb5; obtain ⟨q0, q1, q2, q3, q4⟩ := q0; have r0 := (blk_cell HBV5.out 0).trans (rfl : _ = some (Value.int .i64 0)); have r1 := (blk_cell HBV5.out 1).trans (rfl : _ = some (Value.bool false)); have r2 := (blk_cell HBV5.out 2).trans (rfl : _ = some (Value.int .i64 0)); have r3 := (blk_cell HBV5.out 3).trans (rfl : _ = some (Value.int .u32 0)); have f0 := blk_frozen HBV5.out 0; have f1 := blk_frozen HBV5.out 1; have f2 := blk_frozen HBV5.out 2; have f3 := blk_frozen HBV5.out 3))
      all_goals
        clear q0 q1 q2 q3 q4 r0 r1 r2 r3 f0 f1 f2 f3 z0 z1 z2 z3 z4
        obtain ⟨hdc5, Fb, hdf5, hfb5⟩ := HDD.out
        have hfn : ∀ j, Fb j → j ≠ w.heap.size := fun j h => by have := (hfb5 _ h).2; omega
        have HD5 := Lib.hid hdc5
        have HF5 := Lib.hid hdf5
        have HB5 := Lib.hid hfb5
        have HN5 := Lib.hid hfn
        have HL5 := Lib.hid hb5
        clear hdc5 hdf5 hfb5 hfn hb5 hne1 hB0
        go_wp2_with fail
        refine bodyPost_ret (results_ctt rfl _ _ w.heap.size 38 #[.int .i64 y.id, .bool false, .int .i64 y.sz, .int .u32 y.sum] (0, 0) _ rfl (blk_put (blk_put (blk_put (blk_put HBV5.out 0 _ rfl) 1 _ rfl) 2 _ rfl) 3 _ rfl) Tryz.underlying38 rfl (by kernel_rfl)) rfl ?_
        have hkp := (((fkept_put w5 (p := ⟨w.heap.size, 0, none⟩) HN5.out (.int .i64 y.id)).trans (fkept_put _ (p := ⟨w.heap.size, 1, none⟩) HN5.out (.bool false))).trans (fkept_put _ (p := ⟨w.heap.size, 2, none⟩) HN5.out (.int .i64 y.sz))).trans (fkept_put _ (p := ⟨w.heap.size, 3, none⟩) HN5.out (.int .u32 y.sum))
        refine ⟨⟨y, _, by rw [HR.out]; unfold verV; rw [HMK.out]; rfl, .inr (.inr ⟨HF.out, HY.out, HR.out, HMK.out, A', c', rfl, HD5.out, Fb, HF5.out.kept hkp, fun j hj => ⟨?_, (HB5.out j hj).2⟩⟩)⟩, below_put (below_put (below_put (below_put (HB4.out.trans (HL5.out.mono HB4.out.size)) (Nat.le_refl _) _) (Nat.le_refl _) _) (Nat.le_refl _) _) (Nat.le_refl _) _⟩
        obtain ⟨x1, x2, x3, x4⟩ := (HB5.out j hj).1
        exact ⟨x1, x2, x3, (hkp j hj).trans x4⟩
end Go.Proofs.YtjbjcfnbgcloiaaGreatDoor
