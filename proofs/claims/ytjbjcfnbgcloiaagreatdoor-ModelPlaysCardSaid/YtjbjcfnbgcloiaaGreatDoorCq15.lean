/- The document's own model: a copy. -/
import Derived.Test.YtjbjcfnbgcloiaaGreatDoorCq14
import Derived.Deep.RegionHeld3
set_option linter.unusedSimpArgs false
set_option linter.unusedVariables false

set_option linter.unusedSimpArgs false
set_option linter.unusedVariables false
namespace Go.Proofs.YtjbjcfnbgcloiaaGreatDoor
open Go.RowKit Nam YtjbjcfnbgcloiaaGreatDoorW.PrintWords Go.Shelf

theorem RefM.addC {w V0 w4 : World} {g b0 : Nat} {B : List (List UInt8)} {L : List Ob} {Q F Fn : Nat → Prop} (h : RefM w g B L b0 Q F) (hb0 : b0 ≤ w.heap.size) {vb vl v4 vs ds : Value} {news : List Value} {o : Ob}
    (k1 : w.heap[g]? = some (.cells #[vb, vl] 62 (0, 0))) (k2 : RowG StrE 1 w F vb B) (k3 : w.ownsRow b0 71 4 vl L.length news) (k4 : Reps (ObE w F) 4 L news) (k5 : ∀ k, vl.ownBlock = some k → Q k)
    (hV : Below w.heap.size w V0) (own4 : w4.ownsRow b0 71 4 v4 (L.length + 1) (news ++ [.string (mkS o.bk), .string (mkS o.ky), vs, ds])) (hgr : V0.grownBy w4 vl.ownBlock) (hob : v4.ownBlock = vl.ownBlock ∨ v4.ownBlock = some V0.heap.size)
    (hFn : ∀ k, Fn k → w.heap.size ≤ k ∧ IsC V0 k) (hv : RowG VerE 4 V0 Fn vs o.rs) (hd : RowG DatE 1 V0 (fun k => F k ∨ Fn k) ds o.rs) :
    RefM (w4.setCell ⟨g, 1, none⟩ v4) g B (L ++ [o]) b0 (fun j => j = g ∨ v4.ownBlock = some j) (fun k => F k ∨ Fn k) := by
  have hgl : g < w.heap.size := isC_lt (h.ic g (.inl h.qg))
  have hNe : some g ≠ vl.ownBlock := own_ne k3 k1 (by decide)
  have hmv : Moved Q w (w4.setCell ⟨g, 1, none⟩ v4) := ((Moved.of_below (Q := Q) hV).trans (moved_grown (Q := Q) hgr k5) (fun i hi => .inl hi)).trans (moved_set (Q := Q) w4 h.qg 1 v4) (fun i hi => .inl hi)
  have hk4 := blk_grown (blk_below k1 hV) hgr hNe
  have hg : (w4.setCell ⟨g, 1, none⟩ v4).heap[g]? = some (.cells #[vb, v4] 62 (0, 0)) := blk_set hk4 1 v4
  have hFK : FKept F w (w4.setCell ⟨g, 1, none⟩ v4) := fun j hj => hmv.block j (isC_lt (h.ic j (.inr hj))) (fun q => h.ap j q hj)
  have hFnb : ∀ j, Fn j → (w4.setCell ⟨g, 1, none⟩ v4).heap[j]? = V0.heap[j]? := fun j hj => by
    obtain ⟨h1, h2⟩ := hFn j hj
    rw [Below.heap_setCell w4 ⟨g, 1, none⟩ v4 j (fun e => by subst e; omega)]
    exact hgr.block j (isC_lt h2) (fun e => by have := isC_lt (h.ic j (.inl (k5 j e.symm))); omega)
  have hFKn : FKept Fn V0 (w4.setCell ⟨g, 1, none⟩ v4) := hFnb
  have hFK0 : FKept (fun k => F k ∨ Fn k) V0 (w4.setCell ⟨g, 1, none⟩ v4) := fun j hj => by
    rcases hj with hj | hj
    · rw [hFK j hj]
      exact (hV.block j (isC_lt (h.ic j (.inr hj)))).symm
    · exact hFnb j hj
  have hne4 : some g ≠ v4.ownBlock := fun e => by
    rcases hob with h1 | h1
    · exact hNe (e.trans h1)
    · rw [h1] at e
      injection e with e
      have := hV.size
      omega
  have hvl : ∀ j, v4.ownBlock = some j → Q j ∨ V0.heap.size ≤ j := fun j hj => by
    rcases hob with h1 | h1
    · exact .inl (k5 j (h1 ▸ hj))
    · rw [h1] at hj
      injection hj with hj
      exact .inr (by omega)
  refine h.remade hmv hb0 hg ((k2.kept str_stays hFK).mono str_stays fun _ hk => .inl hk) (by rw [List.length_append]; exact own_setCell own4 hne4 v4) (rg_app (k4.imp_ fun _ _ hp => ob_stays.mono (ob_stays.kept hp hFK) fun _ hk => .inl hk) (reps_sing ⟨_, _, rfl, (hv.kept ver_stays hFKn).mono ver_stays fun _ hk => .inr hk, hd.kept dat_stays hFK0⟩ rfl)) (fun j hj => (hvl j hj).imp_right fun e => Nat.le_trans hV.size e) (fun j hj => ?_)
  rcases hj with hj | hj
  · exact .inl hj
  · obtain ⟨h1, h2⟩ := hFn j hj
    refine .inr ⟨h1, ?_, fun e => ?_⟩
    · obtain ⟨a, b, c, e⟩ := h2
      exact ⟨a, b, c, (hFnb j hj).trans e⟩
    · rcases hvl j e with q | q
      · have := isC_lt (h.ic j (.inl q))
        omega
      · have := isC_lt h2
        omega
structure CpyTo (w wr : World) (gc : Nat) (B : List (List UInt8)) (L : List Ob) (F : Nat → Prop) : Prop where
  b : Below w.heap.size w wr
  r : ∃ Q' F', RefM wr gc B L w.heap.size Q' F' ∧ (∀ j, F' j → F j ∨ w.heap.size ≤ j) ∧ ∀ j, F j → F' j
set_option maxHeartbeats 8000000 in
set_option maxRecDepth 100000 in
theorem rcopy_is (w : World) (g : Nat) (B : List (List UInt8)) (L : List Ob) (b0 : Nat) (Q F : Nat → Prop) (hB : B.length ≤ 100000) (hL : L.length ≤ 100000) (hrs : ∀ o ∈ L, o.rs.length ≤ 100000) (hm : RefM w g B L b0 Q F) :
    Calls Tryz.prog 10 #[.pointer (some ⟨g, 0, none⟩)] w fun e w' => ∃ gc, e = .returned (.pointer (some ⟨gc, 0, none⟩)) ∧ CpyTo w w' gc B L F := by
  have HM := Lib.hid hm
  obtain ⟨A, c, A2, c2, hcB, hcL, HG, HBc, HO⟩ := hm.lay
  obtain ⟨n, hn⟩ : ∃ n, B.length = n := ⟨_, rfl⟩
  obtain ⟨m, hmm⟩ : ∃ m, L.length = m := ⟨_, rfl⟩
  rw [hn, hmm] at HG
  rw [hn] at hcB hB
  rw [hmm] at hcL hL
  obtain ⟨g0, g1⟩ := HG.out _ (Below.refl _ _)
  have hrB : RowG StrE 1 w F (.slice A n c) B := hm.rowB g0
  obtain ⟨nb, hnb, rnb⟩ := hrB
  have hnbl : nb.length = n * 1 := by rw [← hn]; exact rnb.1
  have HLb : Hid (LiesAt w (.slice A n c) n nb) := by show LiesAt w _ n nb; rw [← hn]; rw [hn]; have := hnb.lies; rwa [hn] at this
  have HOb : Hid (∀ u ∈ nb, u.oneCell' = true) := rg_ones rnb (by decide) (fun p c hp u hu => by rw [show c = _ from hp] at hu; simp at hu; subst hu; rfl)
  have HRb := Lib.hid rnb
  have HNB := Lib.hid hn
  have HNL := Lib.hid hmm
  have HRS := Lib.hid hrs
  clear hn hmm hm hnb rnb hrs
  go_enter Tryz.func10, Tryz.ntmps10
  go_wp2_with (at_builtin; refine wpList_ap_lies (base := w.heap.size) (n := 0) (m := n) (xs := []) (cs := nb) apS (by rfl) (.const (.slice none 0 0)) (.tmp 9) (by rfl) (by rfl) (own_nil _ _ _ _) (by rfl) HLb.out hnbl HOb.out (by omega) (Nat.le_refl _) ?_; intro v1 w1 hown1 hgr1 _; rw [Nat.zero_add, List.nil_append] at hown1; obtain ⟨p1, q1, rfl⟩ := own_slice hown1; have HO1 := Lib.hid hown1; have HB1 : Hid (Below w.heap.size w w1) := (Below.refl _ _).grown hgr1 (Nat.le_refl _) (fun k hk => by cases hk); clear hown1 hgr1)
  obtain ⟨gc, hgc⟩ : ∃ gc, w1.heap.size = gc := ⟨_, rfl⟩
  obtain ⟨W2, hW2⟩ : ∃ W2, w1.alloc (.cells #[.slice p1 n q1, .slice none 0 0] 62) = W2 := ⟨_, rfl⟩
  have hk2 : W2.heap[gc]? = some (.cells #[.slice p1 n q1, .slice none 0 0] 62 (0, 0)) := by rw [← hW2, ← hgc]; exact blk_new w1 _
  have ho2 : W2.ownsRow w.heap.size 9 1 (.slice p1 n q1) n nb := by rw [← hW2]; exact own_alloc HO1.out _
  have hb2 : Below w.heap.size w W2 := by rw [← hW2]; exact HB1.out.alloc HB1.out.size _
  have hgw : w.heap.size ≤ gc := by rw [← hgc]; exact HB1.out.size
  have hC2 : CpyTo w W2 gc B (L.take 0) F := ⟨hb2, _, (fun k => F k ∨ (Value.slice p1 n q1).ownBlock = some k), ⟨fun k hk => by
      rcases hk with hk | hk | hk
      · rw [show k = gc from hk]
        exact ⟨_, _, _, hk2⟩
      · obtain ⟨a, b, c, e⟩ := HM.out.ic k (.inr hk)
        exact ⟨a, b, c, (hb2.block k (isC_lt ⟨a, b, c, e⟩)).trans e⟩
      · obtain ⟨cells, hc⟩ := own_typed ho2 k hk
        exact ⟨_, _, _, hc⟩, fun k hk => (show k = gc from hk) ▸ hgw, fun k hk hf => by
      rw [show k = gc from hk] at hf
      rcases hf with hf | hf
      · have := isC_lt (HM.out.ic gc (.inr hf))
        omega
      · exact own_ne ho2 hk2 (by decide) hf.symm, rfl, .slice p1 n q1, .slice none 0 0, [], hk2, by
      have := HNB.out
      refine rowG_own (E := 9) (base := w.heap.size) (by rw [this]; exact ho2) (HRb.out.imp_ fun _ _ h => h) (fun k hk => .inr hk), own_nil _ _ _ _, Reps.none _ _, fun k hk => by simp [Value.ownBlock] at hk⟩, fun j hj => hj.imp_right (own_ge ho2 j), fun j hj => .inl hj⟩
  have HC2 := Lib.hid hC2
  rw [hgc, hW2]
  clear hgc hW2 hk2 ho2 hb2 hC2 HO1 HB1 HRb HOb hnbl HLb
  go_wp2_with fail
  go_loopw [4] (fun vi wr => ∃ (j : Nat), vi = .int .i64 j ∧ j ≤ m ∧ Hid (CpyTo w wr gc B (L.take j) F)) (fun vi _ => m - (intOf vi).toNat)
  case atStart => exact ⟨0, rfl, Nat.zero_le _, HC2⟩
  case round =>
    clear HC2
    obtain ⟨j, rfl, hj, HC⟩ := hrel
    have HW : Hid (Below w.heap.size w wr) := HC.out.b
    obtain ⟨g0, g1⟩ := HG.out _ HW.out
    by_cases hlt : j < m
    · have hltz : (j : Int) < (m : Int) := by omega
      obtain ⟨o, ho⟩ : ∃ o, L[j]? = some o := ⟨_, List.getElem?_eq_getElem (by have := HNL.out; omega)⟩
      obtain ⟨gl, vs, ds, rfl, hv, hd, hcell⟩ := HO.out j o ho
      obtain ⟨a0, a1, a2, a3⟩ := hcell _ HW.out
      obtain ⟨nv, hnv, rnv⟩ := hv
      obtain ⟨nd, hnd, rnd⟩ := hd
      obtain ⟨r, hr⟩ : ∃ r, o.rs.length = r := ⟨_, rfl⟩
      rw [hr] at hnv hnd
      obtain ⟨vp, vc, rfl, _⟩ := hnv.slice
      obtain ⟨dp, dc, rfl, _⟩ := hnd.slice
      have hnvl : nv.length = r * 4 := by rw [← hr]; exact rnv.1
      have hndl : nd.length = r * 1 := by rw [← hr]; exact rnd.1
      have hr1 : r ≤ 100000 := by rw [← hr]; exact HRS.out o (List.mem_of_getElem? ho)
      have HLv : Hid (∀ V, Below w.heap.size w V → LiesAt V (.slice vp r vc) r nv) := fun V hV => hnv.lies.below hV
      have HLd : Hid (∀ V, Below w.heap.size w V → LiesAt V (.slice dp r dc) r nd) := fun V hV => hnd.lies.below hV
      have HOv : Hid (∀ u ∈ nv, u.oneCell' = true) := rg_ones rnv (by decide) (fun p c hp u hu => by rw [show c = _ from hp] at hu; simp at hu; rcases hu with rfl | rfl | rfl | rfl <;> rfl)
      have HOd : Hid (∀ u ∈ nd, u.oneCell' = true) := rg_ones rnd (by decide) (fun p c hp u hu => by
        obtain ⟨a1, a2, a3, _⟩ := hp
        rw [a3, List.mem_singleton] at hu
        subst hu
        rfl)
      obtain ⟨_, Q', F', hR, hF1, hF2⟩ := HC.out
      obtain ⟨vb, vl, news, x1, x2, x3, x4, x5⟩ := hR.ex
      have hjl : (L.take j).length = j := by rw [List.length_take, HNL.out]; omega
      have htk : L.take (j + 1) = L.take j ++ [o] := by rw [List.take_add_one, ho]; rfl
      obtain ⟨pl, cl, hvl⟩ := own_slice x3
      rw [hjl] at hvl
      subst hvl
      obtain ⟨ob, hob⟩ : ∃ ob, wr.heap.size = ob := ⟨_, rfl⟩
      have hgo : gc < ob := by rw [← hob]; exact isC_lt (hR.ic gc (.inl hR.qg))
      have HEnd : Hid (∀ (V0 wd : World) (pv pd p4 : Option Addr) (qv qd q4 : Nat), Below ob wr V0 → V0.ownsRow ob 38 4 (.slice pv r qv) r nv → V0.ownsRow ob 30 1 (.slice pd r qd) r nd → wd.ownsRow w.heap.size 71 4 (.slice p4 (j + 1) q4) (j + 1) (news ++ [.string (mkS o.bk), .string (mkS o.ky), .slice pv r qv, .slice pd r qd]) → V0.grownBy wd (Value.slice pl j cl).ownBlock → ((Value.slice p4 (j + 1) q4).ownBlock = (Value.slice pl j cl).ownBlock ∨ (Value.slice p4 (j + 1) q4).ownBlock = some V0.heap.size) → CpyTo w (wd.setCell ⟨gc, 1, none⟩ (.slice p4 (j + 1) q4)) gc B (L.take (j + 1)) F) := by
        intro V0 wd pv pd p4 qv qd q4 hV ov od o4 hg4 hob4
        rw [← hob] at hV ov od
        have hbw : Below w.heap.size w V0 := HW.out.trans (hV.mono HW.out.size)
        have hFK : FKept F w V0 := fun k hk => hbw.block k (isC_lt (HM.out.ic k (.inr hk)))
        have hC' := hR.addC (Fn := fun k => (Value.slice pv r qv).ownBlock = some k ∨ (Value.slice pd r qd).ownBlock = some k) HW.out.size x1 x2 x3 x4 x5 hV (by rw [hjl]; exact o4) hg4 hob4 (fun k hk => by
            rcases hk with hk | hk
            · obtain ⟨cells, hc⟩ := own_typed ov k hk
              exact ⟨own_ge ov k hk, _, _, _, hc⟩
            · obtain ⟨cells, hc⟩ := own_typed od k hk
              exact ⟨own_ge od k hk, _, _, _, hc⟩)
          (rowG_own (by rw [hr]; exact ov) (rnv.imp_ fun _ _ h => h) (fun k hk => .inl hk))
          (rowG_own (by rw [hr]; exact od) (rnd.imp_ fun _ _ h => dat_stays.mono (dat_stays.kept h hFK) fun k hk => .inl (hF2 k hk)) (fun k hk => .inr (.inr hk)))
        rw [htk]
        refine ⟨?_, _, _, hC', fun k hk => ?_, fun k hk => .inl (hF2 k hk)⟩
        · have h1 : Below w.heap.size w wd := hbw.grown hg4 hbw.size (fun k hk => own_ge x3 k hk)
          exact ⟨h1.os, h1.tape, h1.output, by simpa using h1.size, fun k hk => (Below.heap_setCell wd ⟨gc, 1, none⟩ _ k (fun e => by subst e; omega)).trans (h1.block k hk)⟩
        · rcases hk with hk | hk | hk
          · exact hF1 k hk
          · exact .inr (Nat.le_trans HW.out.size (own_ge ov k hk))
          · exact .inr (Nat.le_trans HW.out.size (own_ge od k hk))
      rw [hjl] at x3
      have HX1 := Lib.hid x1
      have HX3 := Lib.hid x3
      have HNe : Hid (some gc ≠ (Value.slice pl j cl).ownBlock) := own_ne x3 x1 (by decide)
      have cc := blk_cell x1 1
      clear hnv hnd rnv rnd hcell hR hF1 hF2 x1 x2 x3 x4 x5 htk hjl hr ho HC
      go_wp2_with fail
      obtain ⟨W3, hW3⟩ : ∃ W3, wr.alloc (.cells #[.string (mkS o.bk), .string (mkS o.ky), .slice vp r vc, .slice dp r dc] 71) = W3 := ⟨_, rfl⟩
      have k3 : W3.drew.heap[ob]? = some (.cells #[.string (mkS o.bk), .string (mkS o.ky), .slice vp r vc, .slice dp r dc] 71 (0, 0)) := by
        show W3.heap[ob]? = _
        rw [← hW3, ← hob]
        exact blk_new wr _
      have b3 : Below ob wr W3.drew := by rw [← hW3, ← hob]; exact ((Below.refl _ _).alloc (Nat.le_refl _) _).drew
      have s3 : ob ≤ W3.drew.heap.size := by rw [← hob]; exact hob ▸ b3.size
      have hbW : ∀ V, Below ob wr V → Below w.heap.size w V := fun V hV => HW.out.trans (hV.mono (hob ▸ HW.out.size))
      have HBW := Lib.hid hbW
      have hcc : ∀ V, Below ob wr V → V.cell? ⟨gc, 1, none⟩ = some (.slice pl j cl) := fun V hV => (hV.cell (p := ⟨gc, 1, none⟩) hgo).trans cc
      have HCC := Lib.hid hcc
      have HSB : Hid (∀ V : World, V.heap[ob]? = some (.cells #[.string (mkS o.bk), .string (mkS o.ky), .slice vp r vc, .slice dp r dc] 71 (0, 0)) → V.cell? ⟨ob, 0, none⟩ = some (.string (mkS o.bk)) ∧ V.cell? ⟨ob, 1, none⟩ = some (.string (mkS o.ky)) ∧ V.cell? ⟨ob, 2, none⟩ = some (.slice vp r vc) ∧ V.cell? ⟨ob, 3, none⟩ = some (.slice dp r dc)) := fun V h => ⟨blk_cell h 0, blk_cell h 1, blk_cell h 2, blk_cell h 3⟩
      have c3 := hcc _ b3
      have HXo : Hid (∀ V, Below ob wr V → V.ownsRow w.heap.size 71 4 (.slice pl j cl) j news) := fun V hV => pw_own_below HX3.out (hob ▸ hV)
      have HXc : Hid (∀ V, Below ob wr V → V.heap[gc]? = some (.cells #[vb, .slice pl j cl] 62 (0, 0))) := fun V hV => blk_below HX1.out (hob ▸ hV)
      have HOg : Hid (∀ k, (Value.slice pl j cl).ownBlock = some k → k < ob) := fun k hk => hob ▸ own_lt HX3.out k hk
      have hgo2 : ob ≠ gc := by omega
      rw [hW3]
      clear hW3 hbW hcc cc HX1 HX3 a0 a1 a2 a3 g0 g1
      refine wp_region_held_drew (S := (fun V => V.cell? ⟨ob, 0, none⟩ = some (.string (mkS o.bk)) ∧ V.cell? ⟨ob, 1, none⟩ = some (.string (mkS o.ky)) ∧ V.cell? ⟨ob, 2, none⟩ = some (.slice vp r vc) ∧ V.cell? ⟨ob, 3, none⟩ = some (.slice dp r dc))) (by kernel_rfl) (HSB.out _ k3) (fun hHeld0 => ?_)
      refine wpAnyH_take (i := 0) (v := ?_) rfl (by kernel_rfl) (by kernel_rfl) (by kernel_rfl) (fun _ _ _ h => h) (Or.inl ⟨by rfl, ?_⟩) (by assumption) ?_
      rotate_left
      · (intro V hSw; (try dsimp only at hSw); go_simp) <;> with_reducible rfl
      try simp only [List.getElem_toArray, List.getElem_cons_succ, List.getElem_cons_zero, Act.put, List.setIfInBounds_toArray, List.set_cons_zero, List.set_cons_succ]
      refine wpAnyH_take (i := 1) (v := ?_) rfl (by kernel_rfl) (by kernel_rfl) (by kernel_rfl) (fun _ _ _ h => h) (Or.inl ⟨by rfl, ?_⟩) (by assumption) ?_
      rotate_left
      · (intro V hSw; (try dsimp only at hSw); go_simp) <;> with_reducible rfl
      try simp only [List.getElem_toArray, List.getElem_cons_succ, List.getElem_cons_zero, Act.put, List.setIfInBounds_toArray, List.set_cons_zero, List.set_cons_succ]
      refine wpAnyH_take (i := 2) (v := ?_) rfl (by kernel_rfl) (by kernel_rfl) (by kernel_rfl) (fun _ _ _ h => h) (Or.inl ⟨by rfl, ?_⟩) (by assumption) ?_
      rotate_left
      · (intro V hSw; (try dsimp only at hSw); go_simp) <;> with_reducible rfl
      try simp only [List.getElem_toArray, List.getElem_cons_succ, List.getElem_cons_zero, Act.put, List.setIfInBounds_toArray, List.set_cons_zero, List.set_cons_succ]
      refine wpAnyH_take (i := 3) (v := ?_) rfl (by kernel_rfl) (by kernel_rfl) (by kernel_rfl) (fun _ _ _ h => h) (Or.inl ⟨by rfl, ?_⟩) (by assumption) ?_
      rotate_left
      · (intro V hSw; (try dsimp only at hSw); go_simp) <;> with_reducible rfl
      try simp only [List.getElem_toArray, List.getElem_cons_succ, List.getElem_cons_zero, Act.put, List.setIfInBounds_toArray, List.set_cons_zero, List.set_cons_succ]
      refine wpAnyH_take (i := 5) (v := ?_) rfl (by kernel_rfl) (by kernel_rfl) (by kernel_rfl) (fun _ _ _ h => h) (Or.inl ⟨by rfl, ?_⟩) (by assumption) ?_
      rotate_left
      · (intro V hSw; (try dsimp only at hSw); go_simp) <;> with_reducible rfl
      try simp only [List.getElem_toArray, List.getElem_cons_succ, List.getElem_cons_zero, Act.put, List.setIfInBounds_toArray, List.set_cons_zero, List.set_cons_succ]
      refine wpAnyH_take (i := 6) (v := ?_) rfl (by kernel_rfl) (by kernel_rfl) (by kernel_rfl) (fun _ _ _ h => h) (Or.inl ⟨by rfl, ?_⟩) (by assumption) ?_
      rotate_left
      · (intro V hSw; (try dsimp only at hSw); go_simp) <;> with_reducible rfl
      try simp only [List.getElem_toArray, List.getElem_cons_succ, List.getElem_cons_zero, Act.put, List.setIfInBounds_toArray, List.set_cons_zero, List.set_cons_succ]
      refine wpAnyH_take (i := 7) (v := ?_) rfl (by kernel_rfl) (by kernel_rfl) (by kernel_rfl) (fun _ _ _ h => h) (Or.inl ⟨by rfl, ?_⟩) (by assumption) ?_
      rotate_left
      · (intro V hSw; (try dsimp only at hSw); go_simp) <;> with_reducible rfl
      try simp only [List.getElem_toArray, List.getElem_cons_succ, List.getElem_cons_zero, Act.put, List.setIfInBounds_toArray, List.set_cons_zero, List.set_cons_succ]
      refine wpAnyH_take (i := 8) (v := ?_) rfl (by kernel_rfl) (by kernel_rfl) (by kernel_rfl) (fun _ _ _ h => h) (Or.inl ⟨by rfl, ?_⟩) (by assumption) ?_
      rotate_left
      · (intro V hSw; (try dsimp only at hSw); go_simp) <;> with_reducible rfl
      try simp only [List.getElem_toArray, List.getElem_cons_succ, List.getElem_cons_zero, Act.put, List.setIfInBounds_toArray, List.set_cons_zero, List.set_cons_succ]
      refine wpAnyH_take (i := 9) (v := ?_) rfl (by kernel_rfl) (by kernel_rfl) (by kernel_rfl) (fun _ _ _ h => h) (Or.inl ⟨by rfl, ?_⟩) (by assumption) ?_
      rotate_left
      · (intro V hSw; (try dsimp only at hSw); go_simp) <;> with_reducible rfl
      try simp only [List.getElem_toArray, List.getElem_cons_succ, List.getElem_cons_zero, Act.put, List.setIfInBounds_toArray, List.set_cons_zero, List.set_cons_succ]
      refine wpAnyH_take (i := 10) (v := ?_) rfl (by kernel_rfl) (by kernel_rfl) (by kernel_rfl) (fun _ _ _ h => h) (Or.inl ⟨by rfl, ?_⟩) (by assumption) ?_
      rotate_left
      · (intro V hSw; (try dsimp only at hSw); go_simp) <;> with_reducible rfl
      try simp only [List.getElem_toArray, List.getElem_cons_succ, List.getElem_cons_zero, Act.put, List.setIfInBounds_toArray, List.set_cons_zero, List.set_cons_succ]
      refine wpAnyH_take (i := 12) (v := ?_) rfl (by kernel_rfl) (by kernel_rfl) (by kernel_rfl) (fun _ _ _ h => h) (Or.inl ⟨by rfl, ?_⟩) (by assumption) ?_
      rotate_left
      · (intro V hSw; (try dsimp only at hSw); go_simp) <;> with_reducible rfl
      try simp only [List.getElem_toArray, List.getElem_cons_succ, List.getElem_cons_zero, Act.put, List.setIfInBounds_toArray, List.set_cons_zero, List.set_cons_succ]
      refine wpAnyH_take (i := 13) (v := ?_) rfl (by kernel_rfl) (by kernel_rfl) (by kernel_rfl) (fun _ _ _ h => h) (Or.inl ⟨by rfl, ?_⟩) (by assumption) ?_
      rotate_left
      · (intro V hSw; (try dsimp only at hSw); go_simp) <;> with_reducible rfl
      try simp only [List.getElem_toArray, List.getElem_cons_succ, List.getElem_cons_zero, Act.put, List.setIfInBounds_toArray, List.set_cons_zero, List.set_cons_succ]
      refine wpAnyH_ready (rs := [4, 11]) (by kernel_rfl) (by simp) ?_
      refine AllReadyH.cons rfl (fun K hK => ?_) ?_
      · go_simp
        refine hK.out _ _ (HSB.out _ (k3)) (fun hHeld1 => ?_)
        clear hK K
        try simp only [List.getElem_toArray, List.getElem_cons_succ, List.getElem_cons_zero, Act.put, List.setIfInBounds_toArray, List.set_cons_zero, List.set_cons_succ]
        refine wpAnyH_ready (rs := [11]) (by kernel_rfl) (by simp) ?_
        refine AllReadyH.cons rfl (fun K hK => ?_) AllReadyH.nil
        refine step_ap_lies (base := ob) (n := 0) (m := r) (xs := []) (cs := nv) apV (by rfl) (.const (.slice none 0 0)) (.tmp 39) (by rfl) (by rfl) (own_nil _ _ _ _) (by rfl) (HLv.out _ (HBW.out _ b3)) hnvl HOv.out (by omega) s3 ?_
        intro u1 wa hown1 hgr1 _
        rw [Nat.zero_add, List.nil_append] at hown1
        obtain ⟨pv, qv, rfl⟩ := own_slice hown1
        have HOV := Lib.hid hown1
        have ba : Below ob wr wa := Below.grown b3 hgr1 s3 (fun k hk => by cases hk)
        have sa : ob ≤ wa.heap.size := Nat.le_trans s3 hgr1.size
        have ka : wa.heap[ob]? = some (.cells #[.string (mkS o.bk), .string (mkS o.ky), .slice vp r vc, .slice dp r dc] 71 (0, 0)) := blk_grown k3 hgr1 (by intro h; cases h)
        have ca := HCC.out _ ba
        have caa : ∀ o, (wa.alloc o).cell? ⟨gc, 1, none⟩ = some (.slice pl j cl) := fun o => HCC.out _ (ba.alloc sa o)
        clear hown1 hgr1
        refine hK.out _ _ (HSB.out _ ka) (fun hHeld2 => ?_)
        clear hK K
        try simp only [List.getElem_toArray, List.getElem_cons_succ, List.getElem_cons_zero, Act.put, List.setIfInBounds_toArray, List.set_cons_zero, List.set_cons_succ]
        refine wpAnyH_ready (rs := [14]) (by kernel_rfl) (by simp) ?_
        refine AllReadyH.cons rfl (fun K hK => ?_) AllReadyH.nil
        refine step_ap_lies (base := ob) (n := 0) (m := r) (xs := []) (cs := nd) apD (by rfl) (.const (.slice none 0 0)) (.tmp 42) (by rfl) (by rfl) (own_nil _ _ _ _) (by rfl) (HLd.out _ (HBW.out _ ba)) hndl HOd.out (by omega) sa ?_
        intro u1 wb hown1 hgr1 _
        rw [Nat.zero_add, List.nil_append] at hown1
        obtain ⟨pd, qd, rfl⟩ := own_slice hown1
        have HOD := Lib.hid hown1
        have bb : Below ob wr wb := Below.grown ba hgr1 sa (fun k hk => by cases hk)
        have sb : ob ≤ wb.heap.size := Nat.le_trans sa hgr1.size
        have kb : wb.heap[ob]? = some (.cells #[.string (mkS o.bk), .string (mkS o.ky), .slice vp r vc, .slice dp r dc] 71 (0, 0)) := blk_grown ka hgr1 (by intro h; cases h)
        have cb := HCC.out _ bb
        have cba : ∀ o, (wb.alloc o).cell? ⟨gc, 1, none⟩ = some (.slice pl j cl) := fun o => HCC.out _ (bb.alloc sb o)
        have HOV2 : Hid (wb.ownsRow ob 38 4 (.slice pv r qv) r nv) := pw_own_below HOV.out (Below.grown (Below.refl _ _) hgr1 (Nat.le_refl _) (fun k hk => by cases hk))
        clear hown1 hgr1
        refine hK.out _ _ (HSB.out _ kb) (fun hHeld3 => ?_)
        clear hK K
        try simp only [List.getElem_toArray, List.getElem_cons_succ, List.getElem_cons_zero, Act.put, List.setIfInBounds_toArray, List.set_cons_zero, List.set_cons_succ]
        refine wpAnyH_take (i := 15) (v := ?_) rfl (by kernel_rfl) (by kernel_rfl) (by kernel_rfl) (fun _ _ _ h => h) (Or.inl ⟨by rfl, ?_⟩) (by assumption) ?_
        rotate_left
        · (intro V hSw; (try dsimp only at hSw); go_simp) <;> with_reducible rfl
        try simp only [List.getElem_toArray, List.getElem_cons_succ, List.getElem_cons_zero, Act.put, List.setIfInBounds_toArray, List.set_cons_zero, List.set_cons_succ]
        refine wpAnyH_ready (rs := [16]) (by kernel_rfl) (by simp) ?_
        refine AllReadyH.cons rfl (fun K hK => ?_) AllReadyH.nil
        go_simp
        refine hK.out _ _ (HSB.out _ (blk_alloc kb _)) (fun hHeld4 => ?_)
        clear hK K
        try simp only [List.getElem_toArray, List.getElem_cons_succ, List.getElem_cons_zero, Act.put, List.setIfInBounds_toArray, List.set_cons_zero, List.set_cons_succ]
        refine wpAnyH_ready (rs := [17]) (by kernel_rfl) (by simp) ?_
        refine AllReadyH.cons rfl (fun K hK => ?_) AllReadyH.nil
        refine step_ap_lies (base := w.heap.size) (n := j) (m := 1) (xs := news) (cs := [.string (mkS o.bk), .string (mkS o.ky), .slice pv r qv, .slice pd r qd]) apO (by rfl) (.tmp 33) (.tmp 45) (by rfl) (by rfl) (HXo.out _ (bb.alloc sb _)) (by rfl) (lies_obj wb #[.string (mkS o.bk), .string (mkS o.ky), .slice pv r qv, .slice pd r qd] _ _ 1) (by rfl) (by simp [Value.oneCell']) (by omega) (HBW.out _ (bb.alloc sb _)).size ?_
        intro v4 wd hown4 hgr4 hob4
        obtain ⟨p4, q4, rfl⟩ := own_slice hown4
        have HE : Hid _ := HEnd.out _ wd pv pd p4 qv qd q4 (bb.alloc sb _) (pw_own_below HOV2.out ((Below.refl _ _).alloc (Nat.le_refl _) _)) (pw_own_below HOD.out ((Below.refl _ _).alloc (Nat.le_refl _) _)) hown4 hgr4 hob4
        have kd : wd.heap[ob]? = some (.cells #[.string (mkS o.bk), .string (mkS o.ky), .slice vp r vc, .slice dp r dc] 71 (0, 0)) := blk_grown (blk_alloc kb _) hgr4 (fun h => by have := HOg.out ob h.symm; omega)
        have kg := blk_grown (HXc.out _ (bb.alloc sb _)) hgr4 HNe.out
        have cd : wd.cell? ⟨gc, 1, none⟩ = some (.slice pl j cl) := blk_cell kg 1
        have fd : wd.frozen? ⟨gc, 1, none⟩ = false := blk_frozen kg 1
        clear hown4 hgr4 hob4 kg
        refine hK.out _ _ (HSB.out _ kd) (fun hHeld5 => ?_)
        clear hK K
        try simp only [List.getElem_toArray, List.getElem_cons_succ, List.getElem_cons_zero, Act.put, List.setIfInBounds_toArray, List.set_cons_zero, List.set_cons_succ]
        refine wpAnyH_take (i := 18) (v := ?_) rfl (by kernel_rfl) (by kernel_rfl) (by kernel_rfl) (fun _ _ _ h => h) (Or.inl ⟨by rfl, ?_⟩) (by assumption) ?_
        rotate_left
        · (intro V hSw; (try dsimp only at hSw); go_simp) <;> with_reducible rfl
        try simp only [List.getElem_toArray, List.getElem_cons_succ, List.getElem_cons_zero, Act.put, List.setIfInBounds_toArray, List.set_cons_zero, List.set_cons_succ]
        refine wpAnyH_take (i := 19) (v := ?_) rfl (by kernel_rfl) (by kernel_rfl) (by kernel_rfl) (fun _ _ _ h => h) (Or.inl ⟨by rfl, ?_⟩) (by assumption) ?_
        rotate_left
        · (intro V hSw; (try dsimp only at hSw); go_simp) <;> with_reducible rfl
        try simp only [List.getElem_toArray, List.getElem_cons_succ, List.getElem_cons_zero, Act.put, List.setIfInBounds_toArray, List.set_cons_zero, List.set_cons_succ]
        refine wpAnyH_ready (rs := [20]) (by kernel_rfl) (by simp) ?_
        refine AllReadyH.cons rfl (fun K hK => ?_) AllReadyH.nil
        go_simp
        refine hK.out _ _ (HSB.out _ (blk_far kd hgo2 _)) (fun hHeld6 => ?_)
        clear hK K
        try simp only [List.getElem_toArray, List.getElem_cons_succ, List.getElem_cons_zero, Act.put, List.setIfInBounds_toArray, List.set_cons_zero, List.set_cons_succ]
        refine wpAnyH_done (by kernel_rfl) ?_ _
        clear hHeld0 hHeld1 hHeld2 hHeld3 hHeld4 hHeld5 hHeld6 c3
        go_wp2_with fail
        go_roundw
        case rel => exact ⟨j + 1, by go_num, by omega, HE⟩
        case measure => simp [intOf]; omega
      refine AllReadyH.cons rfl (fun K hK => ?_) AllReadyH.nil
      · refine step_ap_lies (base := ob) (n := 0) (m := r) (xs := []) (cs := nv) apV (by rfl) (.const (.slice none 0 0)) (.tmp 39) (by rfl) (by rfl) (own_nil _ _ _ _) (by rfl) (HLv.out _ (HBW.out _ b3)) hnvl HOv.out (by omega) s3 ?_
        intro u1 wa hown1 hgr1 _
        rw [Nat.zero_add, List.nil_append] at hown1
        obtain ⟨pv, qv, rfl⟩ := own_slice hown1
        have HOV := Lib.hid hown1
        have ba : Below ob wr wa := Below.grown b3 hgr1 s3 (fun k hk => by cases hk)
        have sa : ob ≤ wa.heap.size := Nat.le_trans s3 hgr1.size
        have ka : wa.heap[ob]? = some (.cells #[.string (mkS o.bk), .string (mkS o.ky), .slice vp r vc, .slice dp r dc] 71 (0, 0)) := blk_grown k3 hgr1 (by intro h; cases h)
        have ca := HCC.out _ ba
        have caa : ∀ o, (wa.alloc o).cell? ⟨gc, 1, none⟩ = some (.slice pl j cl) := fun o => HCC.out _ (ba.alloc sa o)
        clear hown1 hgr1
        refine hK.out _ _ (HSB.out _ ka) (fun hHeld1 => ?_)
        clear hK K
        try simp only [List.getElem_toArray, List.getElem_cons_succ, List.getElem_cons_zero, Act.put, List.setIfInBounds_toArray, List.set_cons_zero, List.set_cons_succ]
        refine wpAnyH_ready (rs := [4, 14]) (by kernel_rfl) (by simp) ?_
        refine AllReadyH.cons rfl (fun K hK => ?_) ?_
        · go_simp
          refine hK.out _ _ (HSB.out _ (ka)) (fun hHeld2 => ?_)
          clear hK K
          try simp only [List.getElem_toArray, List.getElem_cons_succ, List.getElem_cons_zero, Act.put, List.setIfInBounds_toArray, List.set_cons_zero, List.set_cons_succ]
          refine wpAnyH_ready (rs := [14]) (by kernel_rfl) (by simp) ?_
          refine AllReadyH.cons rfl (fun K hK => ?_) AllReadyH.nil
          refine step_ap_lies (base := ob) (n := 0) (m := r) (xs := []) (cs := nd) apD (by rfl) (.const (.slice none 0 0)) (.tmp 42) (by rfl) (by rfl) (own_nil _ _ _ _) (by rfl) (HLd.out _ (HBW.out _ ba)) hndl HOd.out (by omega) sa ?_
          intro u1 wb hown1 hgr1 _
          rw [Nat.zero_add, List.nil_append] at hown1
          obtain ⟨pd, qd, rfl⟩ := own_slice hown1
          have HOD := Lib.hid hown1
          have bb : Below ob wr wb := Below.grown ba hgr1 sa (fun k hk => by cases hk)
          have sb : ob ≤ wb.heap.size := Nat.le_trans sa hgr1.size
          have kb : wb.heap[ob]? = some (.cells #[.string (mkS o.bk), .string (mkS o.ky), .slice vp r vc, .slice dp r dc] 71 (0, 0)) := blk_grown ka hgr1 (by intro h; cases h)
          have cb := HCC.out _ bb
          have cba : ∀ o, (wb.alloc o).cell? ⟨gc, 1, none⟩ = some (.slice pl j cl) := fun o => HCC.out _ (bb.alloc sb o)
          have HOV2 : Hid (wb.ownsRow ob 38 4 (.slice pv r qv) r nv) := pw_own_below HOV.out (Below.grown (Below.refl _ _) hgr1 (Nat.le_refl _) (fun k hk => by cases hk))
          clear hown1 hgr1
          refine hK.out _ _ (HSB.out _ kb) (fun hHeld3 => ?_)
          clear hK K
          try simp only [List.getElem_toArray, List.getElem_cons_succ, List.getElem_cons_zero, Act.put, List.setIfInBounds_toArray, List.set_cons_zero, List.set_cons_succ]
          refine wpAnyH_take (i := 15) (v := ?_) rfl (by kernel_rfl) (by kernel_rfl) (by kernel_rfl) (fun _ _ _ h => h) (Or.inl ⟨by rfl, ?_⟩) (by assumption) ?_
          rotate_left
          · (intro V hSw; (try dsimp only at hSw); go_simp) <;> with_reducible rfl
          try simp only [List.getElem_toArray, List.getElem_cons_succ, List.getElem_cons_zero, Act.put, List.setIfInBounds_toArray, List.set_cons_zero, List.set_cons_succ]
          refine wpAnyH_ready (rs := [16]) (by kernel_rfl) (by simp) ?_
          refine AllReadyH.cons rfl (fun K hK => ?_) AllReadyH.nil
          go_simp
          refine hK.out _ _ (HSB.out _ (blk_alloc kb _)) (fun hHeld4 => ?_)
          clear hK K
          try simp only [List.getElem_toArray, List.getElem_cons_succ, List.getElem_cons_zero, Act.put, List.setIfInBounds_toArray, List.set_cons_zero, List.set_cons_succ]
          refine wpAnyH_ready (rs := [17]) (by kernel_rfl) (by simp) ?_
          refine AllReadyH.cons rfl (fun K hK => ?_) AllReadyH.nil
          refine step_ap_lies (base := w.heap.size) (n := j) (m := 1) (xs := news) (cs := [.string (mkS o.bk), .string (mkS o.ky), .slice pv r qv, .slice pd r qd]) apO (by rfl) (.tmp 33) (.tmp 45) (by rfl) (by rfl) (HXo.out _ (bb.alloc sb _)) (by rfl) (lies_obj wb #[.string (mkS o.bk), .string (mkS o.ky), .slice pv r qv, .slice pd r qd] _ _ 1) (by rfl) (by simp [Value.oneCell']) (by omega) (HBW.out _ (bb.alloc sb _)).size ?_
          intro v4 wd hown4 hgr4 hob4
          obtain ⟨p4, q4, rfl⟩ := own_slice hown4
          have HE : Hid _ := HEnd.out _ wd pv pd p4 qv qd q4 (bb.alloc sb _) (pw_own_below HOV2.out ((Below.refl _ _).alloc (Nat.le_refl _) _)) (pw_own_below HOD.out ((Below.refl _ _).alloc (Nat.le_refl _) _)) hown4 hgr4 hob4
          have kd : wd.heap[ob]? = some (.cells #[.string (mkS o.bk), .string (mkS o.ky), .slice vp r vc, .slice dp r dc] 71 (0, 0)) := blk_grown (blk_alloc kb _) hgr4 (fun h => by have := HOg.out ob h.symm; omega)
          have kg := blk_grown (HXc.out _ (bb.alloc sb _)) hgr4 HNe.out
          have cd : wd.cell? ⟨gc, 1, none⟩ = some (.slice pl j cl) := blk_cell kg 1
          have fd : wd.frozen? ⟨gc, 1, none⟩ = false := blk_frozen kg 1
          clear hown4 hgr4 hob4 kg
          refine hK.out _ _ (HSB.out _ kd) (fun hHeld5 => ?_)
          clear hK K
          try simp only [List.getElem_toArray, List.getElem_cons_succ, List.getElem_cons_zero, Act.put, List.setIfInBounds_toArray, List.set_cons_zero, List.set_cons_succ]
          refine wpAnyH_take (i := 18) (v := ?_) rfl (by kernel_rfl) (by kernel_rfl) (by kernel_rfl) (fun _ _ _ h => h) (Or.inl ⟨by rfl, ?_⟩) (by assumption) ?_
          rotate_left
          · (intro V hSw; (try dsimp only at hSw); go_simp) <;> with_reducible rfl
          try simp only [List.getElem_toArray, List.getElem_cons_succ, List.getElem_cons_zero, Act.put, List.setIfInBounds_toArray, List.set_cons_zero, List.set_cons_succ]
          refine wpAnyH_take (i := 19) (v := ?_) rfl (by kernel_rfl) (by kernel_rfl) (by kernel_rfl) (fun _ _ _ h => h) (Or.inl ⟨by rfl, ?_⟩) (by assumption) ?_
          rotate_left
          · (intro V hSw; (try dsimp only at hSw); go_simp) <;> with_reducible rfl
          try simp only [List.getElem_toArray, List.getElem_cons_succ, List.getElem_cons_zero, Act.put, List.setIfInBounds_toArray, List.set_cons_zero, List.set_cons_succ]
          refine wpAnyH_ready (rs := [20]) (by kernel_rfl) (by simp) ?_
          refine AllReadyH.cons rfl (fun K hK => ?_) AllReadyH.nil
          go_simp
          refine hK.out _ _ (HSB.out _ (blk_far kd hgo2 _)) (fun hHeld6 => ?_)
          clear hK K
          try simp only [List.getElem_toArray, List.getElem_cons_succ, List.getElem_cons_zero, Act.put, List.setIfInBounds_toArray, List.set_cons_zero, List.set_cons_succ]
          refine wpAnyH_done (by kernel_rfl) ?_ _
          clear hHeld0 hHeld1 hHeld2 hHeld3 hHeld4 hHeld5 hHeld6 c3
          go_wp2_with fail
          go_roundw
          case rel => exact ⟨j + 1, by go_num, by omega, HE⟩
          case measure => simp [intOf]; omega
        refine AllReadyH.cons rfl (fun K hK => ?_) AllReadyH.nil
        · refine step_ap_lies (base := ob) (n := 0) (m := r) (xs := []) (cs := nd) apD (by rfl) (.const (.slice none 0 0)) (.tmp 42) (by rfl) (by rfl) (own_nil _ _ _ _) (by rfl) (HLd.out _ (HBW.out _ ba)) hndl HOd.out (by omega) sa ?_
          intro u1 wb hown1 hgr1 _
          rw [Nat.zero_add, List.nil_append] at hown1
          obtain ⟨pd, qd, rfl⟩ := own_slice hown1
          have HOD := Lib.hid hown1
          have bb : Below ob wr wb := Below.grown ba hgr1 sa (fun k hk => by cases hk)
          have sb : ob ≤ wb.heap.size := Nat.le_trans sa hgr1.size
          have kb : wb.heap[ob]? = some (.cells #[.string (mkS o.bk), .string (mkS o.ky), .slice vp r vc, .slice dp r dc] 71 (0, 0)) := blk_grown ka hgr1 (by intro h; cases h)
          have cb := HCC.out _ bb
          have cba : ∀ o, (wb.alloc o).cell? ⟨gc, 1, none⟩ = some (.slice pl j cl) := fun o => HCC.out _ (bb.alloc sb o)
          have HOV2 : Hid (wb.ownsRow ob 38 4 (.slice pv r qv) r nv) := pw_own_below HOV.out (Below.grown (Below.refl _ _) hgr1 (Nat.le_refl _) (fun k hk => by cases hk))
          clear hown1 hgr1
          refine hK.out _ _ (HSB.out _ kb) (fun hHeld2 => ?_)
          clear hK K
          try simp only [List.getElem_toArray, List.getElem_cons_succ, List.getElem_cons_zero, Act.put, List.setIfInBounds_toArray, List.set_cons_zero, List.set_cons_succ]
          refine wpAnyH_take (i := 15) (v := ?_) rfl (by kernel_rfl) (by kernel_rfl) (by kernel_rfl) (fun _ _ _ h => h) (Or.inl ⟨by rfl, ?_⟩) (by assumption) ?_
          rotate_left
          · (intro V hSw; (try dsimp only at hSw); go_simp) <;> with_reducible rfl
          try simp only [List.getElem_toArray, List.getElem_cons_succ, List.getElem_cons_zero, Act.put, List.setIfInBounds_toArray, List.set_cons_zero, List.set_cons_succ]
          refine wpAnyH_ready (rs := [4, 16]) (by kernel_rfl) (by simp) ?_
          refine AllReadyH.cons rfl (fun K hK => ?_) ?_
          · go_simp
            refine hK.out _ _ (HSB.out _ (kb)) (fun hHeld3 => ?_)
            clear hK K
            try simp only [List.getElem_toArray, List.getElem_cons_succ, List.getElem_cons_zero, Act.put, List.setIfInBounds_toArray, List.set_cons_zero, List.set_cons_succ]
            refine wpAnyH_ready (rs := [16]) (by kernel_rfl) (by simp) ?_
            refine AllReadyH.cons rfl (fun K hK => ?_) AllReadyH.nil
            go_simp
            refine hK.out _ _ (HSB.out _ (blk_alloc kb _)) (fun hHeld4 => ?_)
            clear hK K
            try simp only [List.getElem_toArray, List.getElem_cons_succ, List.getElem_cons_zero, Act.put, List.setIfInBounds_toArray, List.set_cons_zero, List.set_cons_succ]
            refine wpAnyH_ready (rs := [17]) (by kernel_rfl) (by simp) ?_
            refine AllReadyH.cons rfl (fun K hK => ?_) AllReadyH.nil
            refine step_ap_lies (base := w.heap.size) (n := j) (m := 1) (xs := news) (cs := [.string (mkS o.bk), .string (mkS o.ky), .slice pv r qv, .slice pd r qd]) apO (by rfl) (.tmp 33) (.tmp 45) (by rfl) (by rfl) (HXo.out _ (bb.alloc sb _)) (by rfl) (lies_obj wb #[.string (mkS o.bk), .string (mkS o.ky), .slice pv r qv, .slice pd r qd] _ _ 1) (by rfl) (by simp [Value.oneCell']) (by omega) (HBW.out _ (bb.alloc sb _)).size ?_
            intro v4 wd hown4 hgr4 hob4
            obtain ⟨p4, q4, rfl⟩ := own_slice hown4
            have HE : Hid _ := HEnd.out _ wd pv pd p4 qv qd q4 (bb.alloc sb _) (pw_own_below HOV2.out ((Below.refl _ _).alloc (Nat.le_refl _) _)) (pw_own_below HOD.out ((Below.refl _ _).alloc (Nat.le_refl _) _)) hown4 hgr4 hob4
            have kd : wd.heap[ob]? = some (.cells #[.string (mkS o.bk), .string (mkS o.ky), .slice vp r vc, .slice dp r dc] 71 (0, 0)) := blk_grown (blk_alloc kb _) hgr4 (fun h => by have := HOg.out ob h.symm; omega)
            have kg := blk_grown (HXc.out _ (bb.alloc sb _)) hgr4 HNe.out
            have cd : wd.cell? ⟨gc, 1, none⟩ = some (.slice pl j cl) := blk_cell kg 1
            have fd : wd.frozen? ⟨gc, 1, none⟩ = false := blk_frozen kg 1
            clear hown4 hgr4 hob4 kg
            refine hK.out _ _ (HSB.out _ kd) (fun hHeld5 => ?_)
            clear hK K
            try simp only [List.getElem_toArray, List.getElem_cons_succ, List.getElem_cons_zero, Act.put, List.setIfInBounds_toArray, List.set_cons_zero, List.set_cons_succ]
            refine wpAnyH_take (i := 18) (v := ?_) rfl (by kernel_rfl) (by kernel_rfl) (by kernel_rfl) (fun _ _ _ h => h) (Or.inl ⟨by rfl, ?_⟩) (by assumption) ?_
            rotate_left
            · (intro V hSw; (try dsimp only at hSw); go_simp) <;> with_reducible rfl
            try simp only [List.getElem_toArray, List.getElem_cons_succ, List.getElem_cons_zero, Act.put, List.setIfInBounds_toArray, List.set_cons_zero, List.set_cons_succ]
            refine wpAnyH_take (i := 19) (v := ?_) rfl (by kernel_rfl) (by kernel_rfl) (by kernel_rfl) (fun _ _ _ h => h) (Or.inl ⟨by rfl, ?_⟩) (by assumption) ?_
            rotate_left
            · (intro V hSw; (try dsimp only at hSw); go_simp) <;> with_reducible rfl
            try simp only [List.getElem_toArray, List.getElem_cons_succ, List.getElem_cons_zero, Act.put, List.setIfInBounds_toArray, List.set_cons_zero, List.set_cons_succ]
            refine wpAnyH_ready (rs := [20]) (by kernel_rfl) (by simp) ?_
            refine AllReadyH.cons rfl (fun K hK => ?_) AllReadyH.nil
            go_simp
            refine hK.out _ _ (HSB.out _ (blk_far kd hgo2 _)) (fun hHeld6 => ?_)
            clear hK K
            try simp only [List.getElem_toArray, List.getElem_cons_succ, List.getElem_cons_zero, Act.put, List.setIfInBounds_toArray, List.set_cons_zero, List.set_cons_succ]
            refine wpAnyH_done (by kernel_rfl) ?_ _
            clear hHeld0 hHeld1 hHeld2 hHeld3 hHeld4 hHeld5 hHeld6 c3
            go_wp2_with fail
            go_roundw
            case rel => exact ⟨j + 1, by go_num, by omega, HE⟩
            case measure => simp [intOf]; omega
          refine AllReadyH.cons rfl (fun K hK => ?_) AllReadyH.nil
          · go_simp
            refine hK.out _ _ (HSB.out _ (blk_alloc kb _)) (fun hHeld3 => ?_)
            clear hK K
            try simp only [List.getElem_toArray, List.getElem_cons_succ, List.getElem_cons_zero, Act.put, List.setIfInBounds_toArray, List.set_cons_zero, List.set_cons_succ]
            refine wpAnyH_ready (rs := [4]) (by kernel_rfl) (by simp) ?_
            refine AllReadyH.cons rfl (fun K hK => ?_) AllReadyH.nil
            go_simp
            refine hK.out _ _ (HSB.out _ ((blk_alloc kb _))) (fun hHeld4 => ?_)
            clear hK K
            try simp only [List.getElem_toArray, List.getElem_cons_succ, List.getElem_cons_zero, Act.put, List.setIfInBounds_toArray, List.set_cons_zero, List.set_cons_succ]
            refine wpAnyH_ready (rs := [17]) (by kernel_rfl) (by simp) ?_
            refine AllReadyH.cons rfl (fun K hK => ?_) AllReadyH.nil
            refine step_ap_lies (base := w.heap.size) (n := j) (m := 1) (xs := news) (cs := [.string (mkS o.bk), .string (mkS o.ky), .slice pv r qv, .slice pd r qd]) apO (by rfl) (.tmp 33) (.tmp 45) (by rfl) (by rfl) (HXo.out _ (bb.alloc sb _)) (by rfl) (lies_obj wb #[.string (mkS o.bk), .string (mkS o.ky), .slice pv r qv, .slice pd r qd] _ _ 1) (by rfl) (by simp [Value.oneCell']) (by omega) (HBW.out _ (bb.alloc sb _)).size ?_
            intro v4 wd hown4 hgr4 hob4
            obtain ⟨p4, q4, rfl⟩ := own_slice hown4
            have HE : Hid _ := HEnd.out _ wd pv pd p4 qv qd q4 (bb.alloc sb _) (pw_own_below HOV2.out ((Below.refl _ _).alloc (Nat.le_refl _) _)) (pw_own_below HOD.out ((Below.refl _ _).alloc (Nat.le_refl _) _)) hown4 hgr4 hob4
            have kd : wd.heap[ob]? = some (.cells #[.string (mkS o.bk), .string (mkS o.ky), .slice vp r vc, .slice dp r dc] 71 (0, 0)) := blk_grown (blk_alloc kb _) hgr4 (fun h => by have := HOg.out ob h.symm; omega)
            have kg := blk_grown (HXc.out _ (bb.alloc sb _)) hgr4 HNe.out
            have cd : wd.cell? ⟨gc, 1, none⟩ = some (.slice pl j cl) := blk_cell kg 1
            have fd : wd.frozen? ⟨gc, 1, none⟩ = false := blk_frozen kg 1
            clear hown4 hgr4 hob4 kg
            refine hK.out _ _ (HSB.out _ kd) (fun hHeld5 => ?_)
            clear hK K
            try simp only [List.getElem_toArray, List.getElem_cons_succ, List.getElem_cons_zero, Act.put, List.setIfInBounds_toArray, List.set_cons_zero, List.set_cons_succ]
            refine wpAnyH_take (i := 18) (v := ?_) rfl (by kernel_rfl) (by kernel_rfl) (by kernel_rfl) (fun _ _ _ h => h) (Or.inl ⟨by rfl, ?_⟩) (by assumption) ?_
            rotate_left
            · (intro V hSw; (try dsimp only at hSw); go_simp) <;> with_reducible rfl
            try simp only [List.getElem_toArray, List.getElem_cons_succ, List.getElem_cons_zero, Act.put, List.setIfInBounds_toArray, List.set_cons_zero, List.set_cons_succ]
            refine wpAnyH_take (i := 19) (v := ?_) rfl (by kernel_rfl) (by kernel_rfl) (by kernel_rfl) (fun _ _ _ h => h) (Or.inl ⟨by rfl, ?_⟩) (by assumption) ?_
            rotate_left
            · (intro V hSw; (try dsimp only at hSw); go_simp) <;> with_reducible rfl
            try simp only [List.getElem_toArray, List.getElem_cons_succ, List.getElem_cons_zero, Act.put, List.setIfInBounds_toArray, List.set_cons_zero, List.set_cons_succ]
            refine wpAnyH_ready (rs := [20]) (by kernel_rfl) (by simp) ?_
            refine AllReadyH.cons rfl (fun K hK => ?_) AllReadyH.nil
            go_simp
            refine hK.out _ _ (HSB.out _ (blk_far kd hgo2 _)) (fun hHeld6 => ?_)
            clear hK K
            try simp only [List.getElem_toArray, List.getElem_cons_succ, List.getElem_cons_zero, Act.put, List.setIfInBounds_toArray, List.set_cons_zero, List.set_cons_succ]
            refine wpAnyH_done (by kernel_rfl) ?_ _
            clear hHeld0 hHeld1 hHeld2 hHeld3 hHeld4 hHeld5 hHeld6 c3
            go_wp2_with fail
            go_roundw
            case rel => exact ⟨j + 1, by go_num, by omega, HE⟩
            case measure => simp [intOf]; omega
    · have hltz : ¬ (j : Int) < (m : Int) := by omega
      have HC3 : Hid (CpyTo w wr gc B L F) := by
        have h := HC.out
        rw [List.take_of_length_le (by have := HNL.out; omega)] at h
        exact h
      clear HC
      go_wp2_with fail
      go_ret
      exact ⟨gc, rfl, HC3.out⟩
end Go.Proofs.YtjbjcfnbgcloiaaGreatDoor

/- The document's own model: are two the same. -/
set_option linter.unusedSimpArgs false
set_option linter.unusedVariables false
namespace Go.Proofs.YtjbjcfnbgcloiaaGreatDoor
open Go.RowKit Nam YtjbjcfnbgcloiaaGreatDoorW.PrintWords

set_option maxHeartbeats 1000000 in
theorem rsamem_is (w : World) (g g2 : Nat) (B : List (List UInt8)) (L : List Ob) (b0 : Nat) (Q F : Nat → Prop) (B2 : List (List UInt8)) (L2 : List Ob) (b02 : Nat) (Q2 F2 : Nat → Prop) (hB : B.length ≤ 100000) (hL : L.length ≤ 100000) (hB2 : B2.length ≤ 100000) (hL2 : L2.length ≤ 100000) (hrs : ∀ o ∈ L, o.rs.length ≤ 100000) (hrs2 : ∀ o ∈ L2, o.rs.length ≤ 100000) (hm : RefM w g B L b0 Q F) (hm2 : RefM w g2 B2 L2 b02 Q2 F2) :
    Calls Tryz.prog 15 #[.pointer (some ⟨g, 0, none⟩), .pointer (some ⟨g2, 0, none⟩)] w fun e w' => e = .returned (.bool (withinB B L B2 L2 && withinB B2 L2 B L)) ∧ Below w.heap.size w w' := by
  obtain ⟨p, hp⟩ : ∃ p, withinB B L B2 L2 = p := ⟨_, rfl⟩
  obtain ⟨q, hq⟩ : ∃ q, withinB B2 L2 B L = q := ⟨_, rfl⟩
  have H1 : Hid (Calls Tryz.prog 47 #[.pointer (some ⟨g, 0, none⟩), .pointer (some ⟨g2, 0, none⟩)] w fun e w' => e = .returned (.bool p) ∧ Below w.heap.size w w') := by
    have := rwithin_is w g g2 B L b0 Q F B2 L2 b02 Q2 F2 hB hL hB2 hL2 hrs hm hm2
    rw [hp] at this
    exact this
  have H2 : Hid (∀ V, Below w.heap.size w V → Calls Tryz.prog 47 #[.pointer (some ⟨g2, 0, none⟩), .pointer (some ⟨g, 0, none⟩)] V fun e w' => e = .returned (.bool q) ∧ Below w.heap.size w w') := fun V hV => by
    have := rwithin_is V g2 g B2 L2 b02 Q2 F2 B L b0 Q F hB2 hL2 hB hL hrs2 (hm2.below hV) (hm.below hV)
    rw [hq] at this
    exact this.mono fun e w' ⟨he, hb⟩ => ⟨he, hV.trans (hb.mono hV.size)⟩
  rw [hp, hq]
  clear hp hq hm hm2 hrs hrs2
  cases p with
  | false =>
    go_enter Tryz.func15, Tryz.ntmps15
    go_wp2_with fail
    refine H1.out.mono ?_
    rintro e w1 ⟨rfl, hb1⟩
    go_wp2_with fail
    go_ret
    exact ⟨rfl, hb1⟩
  | true =>
    go_enter Tryz.func15, Tryz.ntmps15
    go_wp2_with fail
    refine H1.out.mono ?_
    rintro e w1 ⟨rfl, hb1⟩
    go_wp2_with fail
    refine (H2.out _ hb1).mono ?_
    rintro e w2 ⟨rfl, hb2⟩
    go_wp2_with fail
    go_ret
    exact ⟨by rw [Bool.true_and]; rfl, hb2⟩
end Go.Proofs.YtjbjcfnbgcloiaaGreatDoor

/- ModelPlays: an answer in memory; any choice on a model of the program's and on one of the document's. -/
set_option linter.unusedSimpArgs false
set_option linter.unusedVariables false
namespace Go.Proofs.YtjbjcfnbgcloiaaGreatDoor
open Go.RowKit Nam YtjbjcfnbgcloiaaGreatDoorW.PrintWords Go.Lib

def IsAns (W : World) (base : Nat) (a : Ans) (v : Value) : Prop :=
  ∃ A c sv nv, v = .agg (ansAll a.er a.y (.slice A a.l.length c) sv a.m a.k a.i nv) ∧ (∃ Fb, DatF W Fb A a.l ∧ ∀ j, Fb j → base ≤ j ∧ j < W.heap.size) ∧
    RowE W sv a.o ∧ (∀ b f n c, sv = .slice (some ⟨b, f, none⟩) n c → base ≤ b) ∧ StrRow W nv a.B ∧ (∀ b f n c, nv = .slice (some ⟨b, f, none⟩) n c → base ≤ b)
theorem StrRow.keep {W W' : World} {v : Value} {B : List (List UInt8)} (h : StrRow W v B) (hk : ∀ b f n c, v = .slice (some ⟨b, f, none⟩) n c → b < W.heap.size → W'.heap[b]? = W.heap[b]?) (hs : W.heap.size ≤ W'.heap.size) : StrRow W' v B := by
  obtain ⟨A, c, h1, h2, h3⟩ := h
  refine ⟨A, c, h1, h2, fun j s hj => ?_⟩
  obtain ⟨g, e, hlt, hc⟩ := h3 j s hj
  refine ⟨g, e, Nat.lt_of_lt_of_le hlt hs, ?_⟩
  have := hk g 0 B.length c (by rw [h1, e]) hlt
  exact (World.cell?_of_block this).trans hc
theorem IsAns.kept {W W' : World} {base : Nat} {a : Ans} {v : Value} (h : IsAns W base a v) (hk : ∀ j, base ≤ j → j < W.heap.size → W'.heap[j]? = W.heap[j]?) (hs : W.heap.size ≤ W'.heap.size) : IsAns W' base a v := by
  obtain ⟨A, c, sv, nv, h1, ⟨Fb, h2, h3⟩, h4, h5, h6, h7⟩ := h
  exact ⟨A, c, sv, nv, h1, ⟨Fb, h2.kept fun j hj => hk j (h3 j hj).1 (h3 j hj).2, fun j hj => ⟨(h3 j hj).1, Nat.lt_of_lt_of_le (h3 j hj).2 hs⟩⟩, rowE_keep h4 (fun b f n c e hlt => hk b (h5 b f n c e) hlt) hs, h5, h6.keep (fun b f n c e hlt => hk b (h7 b f n c e) hlt) hs, h7⟩
theorem IsAns.moved {W W' : World} {base : Nat} {a : Ans} {v : Value} {P : Nat → Prop} (h : IsAns W base a v) (hm : Moved P W W') (hP : ∀ k, P k → k < base) : IsAns W' base a v :=
  h.kept (fun j h1 h2 => hm.block j h2 fun hp => by have := hP j hp; omega) hm.size
theorem IsAns.low {W : World} {base base' : Nat} {a : Ans} {v : Value} (h : IsAns W base a v) (hb : base' ≤ base) : IsAns W base' a v := by
  obtain ⟨A, c, sv, nv, h1, ⟨Fb, h2, h3⟩, h4, h5, h6, h7⟩ := h
  exact ⟨A, c, sv, nv, h1, ⟨Fb, h2, fun j hj => ⟨Nat.le_trans hb (h3 j hj).1, (h3 j hj).2⟩⟩, h4, fun b f n c e => Nat.le_trans hb (h5 b f n c e), h6, fun b f n c e => Nat.le_trans hb (h7 b f n c e)⟩
theorem datF_nil (W : World) (F : Nat → Prop) : DatF W F none [] := fun _ _ => Kd.C_nil _ _
theorem no_slice {base : Nat} : ∀ (b f n c : Nat), Value.slice none 0 0 = .slice (some ⟨b, f, none⟩) n c → base ≤ b := fun b f n c e => by cases e
theorem ans_plain (W : World) (base : Nat) (er : Int) (y : Kp) : IsAns W base (plainA er y []) (.agg (ansL er y (.slice none 0 0)).toArray) :=
  ⟨none, 0, .slice none 0 0, .slice none 0 0, rfl, ⟨fun _ => False, datF_nil _ _, fun _ h => h.elim⟩, .inl ⟨rfl, rfl⟩, no_slice, strRow_nil _, no_slice⟩
theorem ans_data {W : World} {base : Nat} {er : Int} {y : Kp} {A : Option Addr} {c : Nat} {l : List UInt8} {Fb : Nat → Prop} (h : DatF W Fb A l) (hb : ∀ j, Fb j → base ≤ j ∧ j < W.heap.size) : IsAns W base (plainA er y l) (.agg (ansL er y (.slice A l.length c)).toArray) :=
  ⟨A, c, .slice none 0 0, .slice none 0 0, rfl, ⟨Fb, h, hb⟩, .inl ⟨rfl, rfl⟩, no_slice, strRow_nil _, no_slice⟩
theorem IsAns.same {W : World} {base : Nat} {a : Ans} {v v' : Value} (h : IsAns W base a v) (h' : IsAns W base a v') (ho : a.o.length ≤ 1000000) (hB : a.B.length ≤ 100000) :
    Calls Tryz.prog 12 #[v, v'] W fun e w' => e = .returned (.bool true) ∧ Below W.heap.size W w' := by
  obtain ⟨A, c, sv, nv, rfl, ⟨Fb, h2, h3⟩, h4, h5, h6, h7⟩ := h
  obtain ⟨A', c', sv', nv', rfl, ⟨Fb', h2', h3'⟩, h4', h5', h6', h7'⟩ := h'
  exact rsamea_is W a.er a.y a.l _ _ sv sv' nv nv' a.o a.m a.k a.i a.B ho hB
    ⟨A, c, rfl, fun V hV => h2 V fun j hj => hV.block j (h3 j hj).2⟩ ⟨A', c', rfl, fun V hV => h2' V fun j hj => hV.block j (h3' j hj).2⟩ h4 h4' h6 h6'
theorem tells_size {S : St} {s : List UInt8} {q : AskV} {er : Int} {o : List Ent} {m : Bool} {k : ByteArray} {i : Int} {Res : List Ent → List Ent → Bool → ByteArray → Int → Prop} (hR : ∀ l o m k i, Res l o m k i → o.length ≤ q.most.toNat) (h : Tells S s q Res er o m k i) : o.length ≤ 1000000 := by
  have := tells_len hR h
  omega
theorem getA_size {f g : Int} {z : Option Kp} {d : Bool} {a : Ans} (h : getA f g z d a) : a.o.length ≤ 1000000 ∧ a.B.length ≤ 100000 := by
  rcases h with ⟨_, h⟩ | ⟨_, y, _, h⟩ <;> subst h <;> exact ⟨Nat.zero_le _, Nat.zero_le _⟩
theorem ar_size {S : St} (hS : S.Few) {x : Ch} {id : Int} {a : Ans} (h : AR S x id a) : a.o.length ≤ 1000000 ∧ a.B.length ≤ 100000 := by
  have hp : ∀ er y l, (plainA er y l).o.length ≤ 1000000 ∧ (plainA er y l).B.length ≤ 100000 := fun _ _ _ => ⟨Nat.zero_le _, Nat.zero_le _⟩
  unfold AR at h
  split at h
  · rw [h]; exact hp _ _ _
  split at h
  · rw [h]; exact hp _ _ _
  split at h
  · obtain ⟨ss, h1, h2⟩ := h
    rw [h2]
    refine ⟨Nat.zero_le _, ?_⟩
    show (ss.mergeSort _).length ≤ 100000
    rw [List.length_mergeSort, h1.length_eq]
    have := hS.few
    omega
  split at h
  · rw [h]; exact hp _ _ _
  split at h
  · exact getA_size h
  split at h
  · exact getA_size h
  split at h
  · rw [h]; exact hp _ _ _
  split at h
  · rw [h]; exact hp _ _ _
  split at h
  · obtain ⟨_, _, h3, h4⟩ := h
    exact ⟨tells_size objR_len h4, by rw [h3]; exact Nat.zero_le _⟩
  split at h
  · obtain ⟨_, _, h3, h4⟩ := h
    exact ⟨tells_size verR_len h4, by rw [h3]; exact Nat.zero_le _⟩
  · rw [h]; exact hp _ _ _
end Go.Proofs.YtjbjcfnbgcloiaaGreatDoor

/- Call of the statements of layer 22: objects, versions: the answer's row is a new one (mpxf.py). -/
set_option linter.unusedSimpArgs false
set_option linter.unusedVariables false
namespace Go.Proofs.YtjbjcfnbgcloiaaGreatDoor
open Go.RowKit Nam YtjbjcfnbgcloiaaGreatDoorW.PrintWords Go.Lib

def PgIsF (S : St) (s : List UInt8) (q : AskV) (Res : List Ent → List Ent → Bool → ByteArray → Int → Prop) (w : World) (e : Ending) (w' : World) : Prop :=
  (∃ (er : Int) (sv : Value) (m : Bool) (k : ByteArray) (i : Int) (L : List Ent), e = .returned (.agg (ansPg er sv m k i)) ∧ RowE w' sv L ∧ (∀ b f n c, sv = .slice (some ⟨b, f, none⟩) n c → w.heap.size ≤ b) ∧ Tells S s q Res er L m k i) ∧ Below w.heap.size w w'
set_option maxHeartbeats 2000000 in
set_option maxRecDepth 100000 in
theorem call_versF (w : World) (g : Nat) (S : St) (n : Nat) (Q F : Nat → Prop) (b k pf fr : List UInt8) (dv : Value) (id nn a fi mo : Int) (hb : b.length ≤ 100000) (hpf : pf.length ≤ 100000) (hn : n ≤ 10000) (hfi : S.Fine) (hm : HasM w g S n Q F) :
    Calls Tryz.prog 13 #[.pointer (some ⟨g, 0, none⟩), .agg #[.int .i64 10, .string (mkS b), .string (mkS k), dv, .int .i64 nn, .int .i64 a, .string (mkS pf), .string (mkS fr), .int .i64 fi, .int .i64 mo], .int .i64 id] w (PgIsF S b (askV pf fr fi mo) (VerR (askV pf fr fi mo)) w) := by
  obtain ⟨W3, hW3⟩ : ∃ W3, ((w.alloc (.cells #[.int .i64 10, .string (mkS b), .string (mkS k), dv, .int .i64 nn, .int .i64 a, .string (mkS pf), .string (mkS fr), .int .i64 fi, .int .i64 mo] 34)).alloc (.cells ans0 44)).alloc (.cells ans0 44) = W3 := ⟨_, rfl⟩
  have hbx := boxed_mk w #[.int .i64 10, .string (mkS b), .string (mkS k), dv, .int .i64 nn, .int .i64 a, .string (mkS pf), .string (mkS fr), .int .i64 fi, .int .i64 mo]
  rw [hW3] at hbx
  have hps : (mkS pf).size ≤ maxLen := by rw [mkS_size]; unfold maxLen; omega
  have HC : Hid (∀ V, Below W3.heap.size W3 V → Calls Tryz.prog 39 #[.pointer (some ⟨g, 0, none⟩), .string (mkS b), .agg #[.string (mkS pf), .string (mkS fr), .int .i64 fi, .int .i64 mo]] V (PartIs S b (askV pf fr fi mo) (VerR (askV pf fr fi mo)) V)) := fun V hV =>
    mversions_is V g S n Q F b (askV pf fr fi mo) hb hps ((hm.below hbx.b).below hV) hfi hn
  have HA : Hid (∀ V, Below W3.heap.size W3 V → Calls Tryz.prog 37 #[.agg #[.string (mkS pf), .string (mkS fr), .int .i64 fi, .int .i64 mo]] V fun e w' => e = .returned (.agg #[.string (mkS pf), .string (mkS fr), .int .i64 fi, .int .i64 mo]) ∧ Below W3.heap.size W3 w' ∧ Below V.heap.size V w') := fun V hV =>
    (ask_is (mkS pf) (mkS fr) fi mo V).mono fun e w' ⟨h1, h2⟩ => ⟨h1, hV.trans (h2.mono hV.size), h2⟩
  have HS : Hid (∀ V, Below W3.heap.size W3 V → V.cell? ⟨w.heap.size, 1, none⟩ = some (.string (mkS b)) ∧ V.cell? ⟨w.heap.size, 6, none⟩ = some (.string (mkS pf)) ∧ V.cell? ⟨w.heap.size, 7, none⟩ = some (.string (mkS fr)) ∧ V.cell? ⟨w.heap.size, 8, none⟩ = some (.int .i64 fi) ∧ V.cell? ⟨w.heap.size, 9, none⟩ = some (.int .i64 mo)) := fun V hV => by
    obtain ⟨c0, c1, c2, c3, c4, c5, c6, c7, c8, c9⟩ := chAt_of ((hV.block w.heap.size (by have := hbx.s; omega)).trans hbx.k4)
    exact ⟨c1, c6, c7, c8, c9⟩
  have HBX := Lib.hid hbx
  have HM := Lib.hid hm
  have HW3 := Lib.hid hW3
  obtain ⟨c0, c1, c2, c3, c4, c5, c6, c7, c8, c9⟩ := chAt_of hbx.k4
  clear c2 c3 c4 c5
  clear hm hbx hW3 hfi hps
  go_enter Tryz.func13, Tryz.ntmps13
  go_upto_region 2 with (fail)
  rw [HW3.out]
  clear HW3
  go_upto_region 27 with (fail)
  have hb3 : Below W3.heap.size W3 W3.drew := (Below.refl _ _).drew
  have hb3n : Below W3.heap.size W3 W3 := Below.refl _ _
  go_region_held3 (fun V => V.cell? ⟨w.heap.size, 1, none⟩ = some (.string (mkS b)) ∧ V.cell? ⟨w.heap.size, 6, none⟩ = some (.string (mkS pf)) ∧ V.cell? ⟨w.heap.size, 7, none⟩ = some (.string (mkS fr)) ∧ V.cell? ⟨w.heap.size, 8, none⟩ = some (.int .i64 fi) ∧ V.cell? ⟨w.heap.size, 9, none⟩ = some (.int .i64 mo)) (first | exact HS.out _ (by assumption) | exact HS.out _ (by first | exact hb3.alloc hb3.size _ | exact hb4a.alloc hb4a.size _ | exact hb5a.alloc hb5a.size _ | exact (((hb5a.setCell (p := ⟨W3.heap.size, 0, none⟩) (Nat.le_refl _) _).setCell (p := ⟨W3.heap.size, 1, none⟩) (Nat.le_refl _) _).setCell (p := ⟨W3.heap.size, 2, none⟩) (Nat.le_refl _) _).setCell (p := ⟨W3.heap.size, 3, none⟩) (Nat.le_refl _) _ | exact (((hb5a.setCell (p := ⟨w4.heap.size, 0, none⟩) hb4a.size _).setCell (p := ⟨w4.heap.size, 1, none⟩) hb4a.size _).setCell (p := ⟨w4.heap.size, 2, none⟩) hb4a.size _).setCell (p := ⟨w4.heap.size, 3, none⟩) hb4a.size _)) ((first | (go_at_call 37; refine (HA.out _ (by assumption)).mono ?_; rintro e w4 ⟨rfl, hb4a, hb4b⟩) | (go_at_call 37; refine (HA.out (W3.drew.alloc (.cells #[.slice none 0 0, .bool false, .string ⟨#[]⟩, .int .i64 0] 85)) (hb3.alloc hb3.size _)).mono ?_; rintro e w4 ⟨rfl, hb4a, hb4b⟩; have hz4 : w4.heap[W3.heap.size]? = some (.cells #[.slice none 0 0, .bool false, .string ⟨#[]⟩, .int .i64 0] 85 (0, 0)) := (hb4b.block W3.heap.size (by simp)).trans (heap_alloc_new W3.drew _)) | (go_at_call 39; refine (HC.out (w4.alloc (.cells #[.slice none 0 0, .bool false, .string ⟨#[]⟩, .int .i64 0] 85)) (hb4a.alloc hb4a.size _)).mono ?_; intro e w5 hpa; obtain ⟨p, nv, cv, m, ky, i, er, L, rfl, hb5, hrow5, hfr5, htell⟩ := part_tells hpa; have HR5 := Lib.hid (And.intro hrow5 (And.intro hfr5 htell)); clear hrow5 hfr5 htell; clear hpa; have h5 : w5.heap[w4.heap.size]? = some (.cells #[.slice none 0 0, .bool false, .string ⟨#[]⟩, .int .i64 0] 85 (0, 0)) := (hb5.block w4.heap.size (by simp)).trans (heap_alloc_new w4 _); have r0 := (cells_of_heap h5).1 0 _ rfl; have r1 := (cells_of_heap h5).1 1 _ rfl; have r2 := (cells_of_heap h5).1 2 _ rfl; have r3 := (cells_of_heap h5).1 3 _ rfl; have z0 := (cells_of_heap h5).2 0; have z1 := (cells_of_heap h5).2 1; have z2 := (cells_of_heap h5).2 2; have z3 := (cells_of_heap h5).2 3; have hb5a : Below W3.heap.size W3 w5 := (hb4a.alloc hb4a.size _).trans (hb5.mono (by have := hb4a.size; simp; omega))) | (go_at_call 39; refine (HC.out _ (by assumption)).mono ?_; intro e w5 hpa; obtain ⟨p, nv, cv, m, ky, i, er, L, rfl, hb5, hrow5, hfr5, htell⟩ := part_tells hpa; have HR5 := Lib.hid (And.intro hrow5 (And.intro hfr5 htell)); clear hrow5 hfr5 htell; clear hpa; have h5 : w5.heap[W3.heap.size]? = some (.cells #[.slice none 0 0, .bool false, .string ⟨#[]⟩, .int .i64 0] 85 (0, 0)) := (hb5.block W3.heap.size (Array.getElem?_eq_some_iff.1 hz4).1).trans hz4; have r0 := (cells_of_heap h5).1 0 _ rfl; have r1 := (cells_of_heap h5).1 1 _ rfl; have r2 := (cells_of_heap h5).1 2 _ rfl; have r3 := (cells_of_heap h5).1 3 _ rfl; have z0 := (cells_of_heap h5).2 0; have z1 := (cells_of_heap h5).2 1; have z2 := (cells_of_heap h5).2 2; have z3 := (cells_of_heap h5).2 3; have hb5a : Below W3.heap.size W3 w5 := hb4a.trans (hb5.mono hb4a.size)) | (go_at_call 39; refine (HC.out _ (by assumption)).mono ?_; intro e w5 hpa; obtain ⟨p, nv, cv, m, ky, i, er, L, rfl, hb5, hrow5, hfr5, htell⟩ := part_tells hpa; have HR5 := Lib.hid (And.intro hrow5 (And.intro hfr5 htell)); clear hrow5 hfr5 htell; clear hpa; have hb5a : Below W3.heap.size W3 w5 := hb4a.trans (hb5.mono hb4a.size))))
  · obtain ⟨V6, hV6⟩ : ∃ V6, w5.alloc (.cells #[.slice p nv cv, .bool m, .string ky, .int .i64 i] 85) = V6 := ⟨_, rfl⟩
    rw [hV6]
    have h6 : V6.heap[w5.heap.size]? = some (.cells #[.slice p nv cv, .bool m, .string ky, .int .i64 i] 85 (0, 0)) := by rw [← hV6]; exact heap_alloc_new w5 _
    have HB6 : Hid (Below W3.heap.size W3 V6) := by show Below _ _ _; rw [← hV6]; exact hb5a.alloc hb5a.size _
    have hr6 : RowE V6 (.slice p nv cv) L := by rw [← hV6]; exact HR5.out.1.below ((Below.refl _ _).alloc (Nat.le_refl _) _)
    clear hV6 
    have HAn := Lib.hid (answer_is (.slice p nv cv) L m ky i (by have := tells_len verR_len HR5.out.2.2; omega) V6 hr6)
    have k0 : V6.cell? ⟨w5.heap.size, 0, none⟩ = some (.slice p nv cv) := (cells_of_heap h6).1 0 _ rfl
    have k1 : V6.cell? ⟨w5.heap.size, 1, none⟩ = some (.bool m) := (cells_of_heap h6).1 1 _ rfl
    have k2 : V6.cell? ⟨w5.heap.size, 2, none⟩ = some (.string ky) := (cells_of_heap h6).1 2 _ rfl
    have k3 : V6.cell? ⟨w5.heap.size, 3, none⟩ = some (.int .i64 i) := (cells_of_heap h6).1 3 _ rfl
    clear h6 hr6
    go_wp2_with fail
    refine HAn.out.mono ?_
    rintro e w7 ⟨sv', rfl, hr7, hf7, hb7⟩
    obtain ⟨p7, c7_, rfl, _⟩ := len_of_row hr7
    have HR7 := Lib.hid hr7
    have HB7 : Hid (Below W3.heap.size W3 w7) := HB6.out.trans (hb7.mono HB6.out.size)
    have HBo := Lib.hid (boxed_after HBX.out HM.out.q (Moved.of_below (Q := Q) HB7.out))
    obtain ⟨W8, HTH, hW8, ⟨z0, z1, z2, z3, z4, z5, z6, z7, z8, z9, z10⟩, HK7, HK6, HON⟩ := box_pg w w7 (.slice p7 L.length c7_) m ky i HBo.out.1 HBo.out.2.1 HBo.out.2.2
    have HW8 := Lib.hid hW8
    have HK6h := Lib.hid HK6
    have HTHh := Lib.hid HTH
    have HONh := Lib.hid HON
    have HF7 : Hid (∀ b f n c, Value.slice p7 L.length c7_ = .slice (some ⟨b, f, none⟩) n c → w.heap.size + 3 ≤ b) := fun b f n c h => by
      have h1 := hf7 b f n c h
      have h2 := HB6.out.size
      have h3 := HBX.out.s
      omega
    have f0 := blk_frozen HK7 0
    clear hW8 HK6 HK7 HTH HON hf7 hb7 hr7 k0 k1 k2 k3
    have HBs : Hid (∀ u, (W8.setCell ⟨w.heap.size + 1 + 1, 0, none⟩ u).heap[w.heap.size + 1]? = some (.cells ans0 44 (0, 0))) := fun u => blk_far HK6h.out (by simp) u
    go_wp2_with (first | (refine wpList_store_mid rfl 41 (.tmp 157) (.tmp 155) rfl (w.heap.size + 1 + 1) 6 (pgA (.slice p7 L.length c7_) m ky i) rfl rfl HTHh.out (by kernel_rfl) (by simp [Value.oneCell']) ?_; rw [HW8.out]) | (refine wpList_store_row rfl 44 (.tmp 6) (.tmp 159) rfl (w.heap.size + 1) (ansPg er (.slice p7 L.length c7_) m ky i) rfl rfl 44 _ (HBs.out _) (by kernel_rfl) rfl (by simp [Value.oneCell']) ?_))
    refine bodyPost_ret (results_single rfl (.cell (w.heap.size + 1) 44 (ansPg er (.slice p7 L.length c7_) m ky i) (0, 0) _ rfl (setRow_heap _ _ _ _ _ _ (HBs.out _)) Tryz.underlying44 rfl (by kernel_rfl) .nil)) rfl ?_
    have hon := (HONh.out.put 0 (.int .i64 er) (g := w.heap.size + 1 + 1) (by omega) (by omega)).row (g := w.heap.size + 1) (ansPg er (.slice p7 L.length c7_) m ky i) (by omega) (by omega)
    exact ⟨⟨er, _, m, ky, i, L, rfl, rowE_keep HR7.out (fun b f n c h hlt => hon.block b hlt (.inr (HF7.out b f n c h))) hon.size, (fun b f n c h => by have := HF7.out b f n c h; omega), HR5.out.2.2⟩, below_only (HBX.out.b.trans (HB7.out.mono HBX.out.b.size)) hon⟩
  · obtain ⟨V6, hV6⟩ : ∃ V6, ((((w5.setCell ⟨w4.heap.size, 0, none⟩ (.slice p nv cv)).setCell ⟨w4.heap.size, 1, none⟩ (.bool m)).setCell ⟨w4.heap.size, 2, none⟩ (.string ky)).setCell ⟨w4.heap.size, 3, none⟩ (.int .i64 i)) = V6 := ⟨_, rfl⟩
    rw [hV6]
    have h6 : V6.heap[w4.heap.size]? = some (.cells #[.slice p nv cv, .bool m, .string ky, .int .i64 i] 85 (0, 0)) := by rw [← hV6]; exact heap_set (heap_set (heap_set (heap_set h5 0 (.slice p nv cv)) 1 (.bool m)) 2 (.string ky)) 3 (.int .i64 i)
    have HB6 : Hid (Below W3.heap.size W3 V6) := by show Below _ _ _; rw [← hV6]; exact (((hb5a.setCell (p := ⟨w4.heap.size, 0, none⟩) hb4a.size _).setCell (p := ⟨w4.heap.size, 1, none⟩) hb4a.size _).setCell (p := ⟨w4.heap.size, 2, none⟩) hb4a.size _).setCell (p := ⟨w4.heap.size, 3, none⟩) hb4a.size _
    have hr6 : RowE V6 (.slice p nv cv) L := by rw [← hV6]; exact rowE_set (rowE_set (rowE_set (rowE_set HR5.out.1 (fun b f n c h => by have := HR5.out.2.1 b f n c h; simp at this; omega) _ _) (fun b f n c h => by have := HR5.out.2.1 b f n c h; simp at this; omega) _ _) (fun b f n c h => by have := HR5.out.2.1 b f n c h; simp at this; omega) _ _) (fun b f n c h => by have := HR5.out.2.1 b f n c h; simp at this; omega) _ _
    clear hV6 h5 r0 r1 r2 r3 z0 z1 z2 z3
    have HAn := Lib.hid (answer_is (.slice p nv cv) L m ky i (by have := tells_len verR_len HR5.out.2.2; omega) V6 hr6)
    have k0 : V6.cell? ⟨w4.heap.size, 0, none⟩ = some (.slice p nv cv) := (cells_of_heap h6).1 0 _ rfl
    have k1 : V6.cell? ⟨w4.heap.size, 1, none⟩ = some (.bool m) := (cells_of_heap h6).1 1 _ rfl
    have k2 : V6.cell? ⟨w4.heap.size, 2, none⟩ = some (.string ky) := (cells_of_heap h6).1 2 _ rfl
    have k3 : V6.cell? ⟨w4.heap.size, 3, none⟩ = some (.int .i64 i) := (cells_of_heap h6).1 3 _ rfl
    clear h6 hr6
    go_wp2_with fail
    refine HAn.out.mono ?_
    rintro e w7 ⟨sv', rfl, hr7, hf7, hb7⟩
    obtain ⟨p7, c7_, rfl, _⟩ := len_of_row hr7
    have HR7 := Lib.hid hr7
    have HB7 : Hid (Below W3.heap.size W3 w7) := HB6.out.trans (hb7.mono HB6.out.size)
    have HBo := Lib.hid (boxed_after HBX.out HM.out.q (Moved.of_below (Q := Q) HB7.out))
    obtain ⟨W8, HTH, hW8, ⟨z0, z1, z2, z3, z4, z5, z6, z7, z8, z9, z10⟩, HK7, HK6, HON⟩ := box_pg w w7 (.slice p7 L.length c7_) m ky i HBo.out.1 HBo.out.2.1 HBo.out.2.2
    have HW8 := Lib.hid hW8
    have HK6h := Lib.hid HK6
    have HTHh := Lib.hid HTH
    have HONh := Lib.hid HON
    have HF7 : Hid (∀ b f n c, Value.slice p7 L.length c7_ = .slice (some ⟨b, f, none⟩) n c → w.heap.size + 3 ≤ b) := fun b f n c h => by
      have h1 := hf7 b f n c h
      have h2 := HB6.out.size
      have h3 := HBX.out.s
      omega
    have f0 := blk_frozen HK7 0
    clear hW8 HK6 HK7 HTH HON hf7 hb7 hr7 k0 k1 k2 k3
    have HBs : Hid (∀ u, (W8.setCell ⟨w.heap.size + 1 + 1, 0, none⟩ u).heap[w.heap.size + 1]? = some (.cells ans0 44 (0, 0))) := fun u => blk_far HK6h.out (by simp) u
    go_wp2_with (first | (refine wpList_store_mid rfl 41 (.tmp 157) (.tmp 155) rfl (w.heap.size + 1 + 1) 6 (pgA (.slice p7 L.length c7_) m ky i) rfl rfl HTHh.out (by kernel_rfl) (by simp [Value.oneCell']) ?_; rw [HW8.out]) | (refine wpList_store_row rfl 44 (.tmp 6) (.tmp 159) rfl (w.heap.size + 1) (ansPg er (.slice p7 L.length c7_) m ky i) rfl rfl 44 _ (HBs.out _) (by kernel_rfl) rfl (by simp [Value.oneCell']) ?_))
    refine bodyPost_ret (results_single rfl (.cell (w.heap.size + 1) 44 (ansPg er (.slice p7 L.length c7_) m ky i) (0, 0) _ rfl (setRow_heap _ _ _ _ _ _ (HBs.out _)) Tryz.underlying44 rfl (by kernel_rfl) .nil)) rfl ?_
    have hon := (HONh.out.put 0 (.int .i64 er) (g := w.heap.size + 1 + 1) (by omega) (by omega)).row (g := w.heap.size + 1) (ansPg er (.slice p7 L.length c7_) m ky i) (by omega) (by omega)
    exact ⟨⟨er, _, m, ky, i, L, rfl, rowE_keep HR7.out (fun b f n c h hlt => hon.block b hlt (.inr (HF7.out b f n c h))) hon.size, (fun b f n c h => by have := HF7.out b f n c h; omega), HR5.out.2.2⟩, below_only (HBX.out.b.trans (HB7.out.mono HBX.out.b.size)) hon⟩
  · obtain ⟨V6, hV6⟩ : ∃ V6, ((((w5.setCell ⟨W3.heap.size, 0, none⟩ (.slice p nv cv)).setCell ⟨W3.heap.size, 1, none⟩ (.bool m)).setCell ⟨W3.heap.size, 2, none⟩ (.string ky)).setCell ⟨W3.heap.size, 3, none⟩ (.int .i64 i)) = V6 := ⟨_, rfl⟩
    rw [hV6]
    have h6 : V6.heap[W3.heap.size]? = some (.cells #[.slice p nv cv, .bool m, .string ky, .int .i64 i] 85 (0, 0)) := by rw [← hV6]; exact heap_set (heap_set (heap_set (heap_set h5 0 (.slice p nv cv)) 1 (.bool m)) 2 (.string ky)) 3 (.int .i64 i)
    have HB6 : Hid (Below W3.heap.size W3 V6) := by show Below _ _ _; rw [← hV6]; exact (((hb5a.setCell (p := ⟨W3.heap.size, 0, none⟩) (Nat.le_refl _) _).setCell (p := ⟨W3.heap.size, 1, none⟩) (Nat.le_refl _) _).setCell (p := ⟨W3.heap.size, 2, none⟩) (Nat.le_refl _) _).setCell (p := ⟨W3.heap.size, 3, none⟩) (Nat.le_refl _) _
    have hr6 : RowE V6 (.slice p nv cv) L := by rw [← hV6]; exact rowE_set (rowE_set (rowE_set (rowE_set HR5.out.1 (fun b f n c h => by have := HR5.out.2.1 b f n c h; have := (Array.getElem?_eq_some_iff.1 hz4).1; omega) _ _) (fun b f n c h => by have := HR5.out.2.1 b f n c h; have := (Array.getElem?_eq_some_iff.1 hz4).1; omega) _ _) (fun b f n c h => by have := HR5.out.2.1 b f n c h; have := (Array.getElem?_eq_some_iff.1 hz4).1; omega) _ _) (fun b f n c h => by have := HR5.out.2.1 b f n c h; have := (Array.getElem?_eq_some_iff.1 hz4).1; omega) _ _
    clear hV6 h5 r0 r1 r2 r3 z0 z1 z2 z3
    have HAn := Lib.hid (answer_is (.slice p nv cv) L m ky i (by have := tells_len verR_len HR5.out.2.2; omega) V6 hr6)
    have k0 : V6.cell? ⟨W3.heap.size, 0, none⟩ = some (.slice p nv cv) := (cells_of_heap h6).1 0 _ rfl
    have k1 : V6.cell? ⟨W3.heap.size, 1, none⟩ = some (.bool m) := (cells_of_heap h6).1 1 _ rfl
    have k2 : V6.cell? ⟨W3.heap.size, 2, none⟩ = some (.string ky) := (cells_of_heap h6).1 2 _ rfl
    have k3 : V6.cell? ⟨W3.heap.size, 3, none⟩ = some (.int .i64 i) := (cells_of_heap h6).1 3 _ rfl
    clear h6 hr6
    go_wp2_with fail
    refine HAn.out.mono ?_
    rintro e w7 ⟨sv', rfl, hr7, hf7, hb7⟩
    obtain ⟨p7, c7_, rfl, _⟩ := len_of_row hr7
    have HR7 := Lib.hid hr7
    have HB7 : Hid (Below W3.heap.size W3 w7) := HB6.out.trans (hb7.mono HB6.out.size)
    have HBo := Lib.hid (boxed_after HBX.out HM.out.q (Moved.of_below (Q := Q) HB7.out))
    obtain ⟨W8, HTH, hW8, ⟨z0, z1, z2, z3, z4, z5, z6, z7, z8, z9, z10⟩, HK7, HK6, HON⟩ := box_pg w w7 (.slice p7 L.length c7_) m ky i HBo.out.1 HBo.out.2.1 HBo.out.2.2
    have HW8 := Lib.hid hW8
    have HK6h := Lib.hid HK6
    have HTHh := Lib.hid HTH
    have HONh := Lib.hid HON
    have HF7 : Hid (∀ b f n c, Value.slice p7 L.length c7_ = .slice (some ⟨b, f, none⟩) n c → w.heap.size + 3 ≤ b) := fun b f n c h => by
      have h1 := hf7 b f n c h
      have h2 := HB6.out.size
      have h3 := HBX.out.s
      omega
    have f0 := blk_frozen HK7 0
    clear hW8 HK6 HK7 HTH HON hf7 hb7 hr7 k0 k1 k2 k3
    have HBs : Hid (∀ u, (W8.setCell ⟨w.heap.size + 1 + 1, 0, none⟩ u).heap[w.heap.size + 1]? = some (.cells ans0 44 (0, 0))) := fun u => blk_far HK6h.out (by simp) u
    go_wp2_with (first | (refine wpList_store_mid rfl 41 (.tmp 157) (.tmp 155) rfl (w.heap.size + 1 + 1) 6 (pgA (.slice p7 L.length c7_) m ky i) rfl rfl HTHh.out (by kernel_rfl) (by simp [Value.oneCell']) ?_; rw [HW8.out]) | (refine wpList_store_row rfl 44 (.tmp 6) (.tmp 159) rfl (w.heap.size + 1) (ansPg er (.slice p7 L.length c7_) m ky i) rfl rfl 44 _ (HBs.out _) (by kernel_rfl) rfl (by simp [Value.oneCell']) ?_))
    refine bodyPost_ret (results_single rfl (.cell (w.heap.size + 1) 44 (ansPg er (.slice p7 L.length c7_) m ky i) (0, 0) _ rfl (setRow_heap _ _ _ _ _ _ (HBs.out _)) Tryz.underlying44 rfl (by kernel_rfl) .nil)) rfl ?_
    have hon := (HONh.out.put 0 (.int .i64 er) (g := w.heap.size + 1 + 1) (by omega) (by omega)).row (g := w.heap.size + 1) (ansPg er (.slice p7 L.length c7_) m ky i) (by omega) (by omega)
    exact ⟨⟨er, _, m, ky, i, L, rfl, rowE_keep HR7.out (fun b f n c h hlt => hon.block b hlt (.inr (HF7.out b f n c h))) hon.size, (fun b f n c h => by have := HF7.out b f n c h; omega), HR5.out.2.2⟩, below_only (HBX.out.b.trans (HB7.out.mono HBX.out.b.size)) hon⟩
set_option maxHeartbeats 2000000 in
set_option maxRecDepth 100000 in
theorem call_objsF (w : World) (g : Nat) (S : St) (n : Nat) (Q F : Nat → Prop) (b k pf fr : List UInt8) (dv : Value) (id nn a fi mo : Int) (hb : b.length ≤ 100000) (hpf : pf.length ≤ 100000) (hn : n ≤ 10000) (hfi : S.Fine) (hm : HasM w g S n Q F) :
    Calls Tryz.prog 13 #[.pointer (some ⟨g, 0, none⟩), .agg #[.int .i64 9, .string (mkS b), .string (mkS k), dv, .int .i64 nn, .int .i64 a, .string (mkS pf), .string (mkS fr), .int .i64 fi, .int .i64 mo], .int .i64 id] w (PgIsF S b (askV pf fr fi mo) (ObjR (askV pf fr fi mo)) w) := by
  obtain ⟨W3, hW3⟩ : ∃ W3, ((w.alloc (.cells #[.int .i64 9, .string (mkS b), .string (mkS k), dv, .int .i64 nn, .int .i64 a, .string (mkS pf), .string (mkS fr), .int .i64 fi, .int .i64 mo] 34)).alloc (.cells ans0 44)).alloc (.cells ans0 44) = W3 := ⟨_, rfl⟩
  have hbx := boxed_mk w #[.int .i64 9, .string (mkS b), .string (mkS k), dv, .int .i64 nn, .int .i64 a, .string (mkS pf), .string (mkS fr), .int .i64 fi, .int .i64 mo]
  rw [hW3] at hbx
  have hps : (mkS pf).size ≤ maxLen := by rw [mkS_size]; unfold maxLen; omega
  have HC : Hid (∀ V, Below W3.heap.size W3 V → Calls Tryz.prog 36 #[.pointer (some ⟨g, 0, none⟩), .string (mkS b), .agg #[.string (mkS pf), .string (mkS fr), .int .i64 fi, .int .i64 mo]] V (PartIs S b (askV pf fr fi mo) (ObjR (askV pf fr fi mo)) V)) := fun V hV =>
    mobjects_is V g S n Q F b (askV pf fr fi mo) hb hps ((hm.below hbx.b).below hV) hfi hn
  have HA : Hid (∀ V, Below W3.heap.size W3 V → Calls Tryz.prog 37 #[.agg #[.string (mkS pf), .string (mkS fr), .int .i64 fi, .int .i64 mo]] V fun e w' => e = .returned (.agg #[.string (mkS pf), .string (mkS fr), .int .i64 fi, .int .i64 mo]) ∧ Below W3.heap.size W3 w' ∧ Below V.heap.size V w') := fun V hV =>
    (ask_is (mkS pf) (mkS fr) fi mo V).mono fun e w' ⟨h1, h2⟩ => ⟨h1, hV.trans (h2.mono hV.size), h2⟩
  have HS : Hid (∀ V, Below W3.heap.size W3 V → V.cell? ⟨w.heap.size, 1, none⟩ = some (.string (mkS b)) ∧ V.cell? ⟨w.heap.size, 6, none⟩ = some (.string (mkS pf)) ∧ V.cell? ⟨w.heap.size, 7, none⟩ = some (.string (mkS fr)) ∧ V.cell? ⟨w.heap.size, 8, none⟩ = some (.int .i64 fi) ∧ V.cell? ⟨w.heap.size, 9, none⟩ = some (.int .i64 mo)) := fun V hV => by
    obtain ⟨c0, c1, c2, c3, c4, c5, c6, c7, c8, c9⟩ := chAt_of ((hV.block w.heap.size (by have := hbx.s; omega)).trans hbx.k4)
    exact ⟨c1, c6, c7, c8, c9⟩
  have HBX := Lib.hid hbx
  have HM := Lib.hid hm
  have HW3 := Lib.hid hW3
  obtain ⟨c0, c1, c2, c3, c4, c5, c6, c7, c8, c9⟩ := chAt_of hbx.k4
  clear c2 c3 c4 c5
  clear hm hbx hW3 hfi hps
  go_enter Tryz.func13, Tryz.ntmps13
  go_upto_region 2 with (fail)
  rw [HW3.out]
  clear HW3
  go_upto_region 24 with (fail)
  have hb3 : Below W3.heap.size W3 W3.drew := (Below.refl _ _).drew
  have hb3n : Below W3.heap.size W3 W3 := Below.refl _ _
  go_region_held3 (fun V => V.cell? ⟨w.heap.size, 1, none⟩ = some (.string (mkS b)) ∧ V.cell? ⟨w.heap.size, 6, none⟩ = some (.string (mkS pf)) ∧ V.cell? ⟨w.heap.size, 7, none⟩ = some (.string (mkS fr)) ∧ V.cell? ⟨w.heap.size, 8, none⟩ = some (.int .i64 fi) ∧ V.cell? ⟨w.heap.size, 9, none⟩ = some (.int .i64 mo)) (first | exact HS.out _ (by assumption) | exact HS.out _ (by first | exact hb3.alloc hb3.size _ | exact hb4a.alloc hb4a.size _ | exact hb5a.alloc hb5a.size _ | exact (((hb5a.setCell (p := ⟨W3.heap.size, 0, none⟩) (Nat.le_refl _) _).setCell (p := ⟨W3.heap.size, 1, none⟩) (Nat.le_refl _) _).setCell (p := ⟨W3.heap.size, 2, none⟩) (Nat.le_refl _) _).setCell (p := ⟨W3.heap.size, 3, none⟩) (Nat.le_refl _) _ | exact (((hb5a.setCell (p := ⟨w4.heap.size, 0, none⟩) hb4a.size _).setCell (p := ⟨w4.heap.size, 1, none⟩) hb4a.size _).setCell (p := ⟨w4.heap.size, 2, none⟩) hb4a.size _).setCell (p := ⟨w4.heap.size, 3, none⟩) hb4a.size _)) ((first | (go_at_call 37; refine (HA.out _ (by assumption)).mono ?_; rintro e w4 ⟨rfl, hb4a, hb4b⟩) | (go_at_call 37; refine (HA.out (W3.drew.alloc (.cells #[.slice none 0 0, .bool false, .string ⟨#[]⟩, .int .i64 0] 85)) (hb3.alloc hb3.size _)).mono ?_; rintro e w4 ⟨rfl, hb4a, hb4b⟩; have hz4 : w4.heap[W3.heap.size]? = some (.cells #[.slice none 0 0, .bool false, .string ⟨#[]⟩, .int .i64 0] 85 (0, 0)) := (hb4b.block W3.heap.size (by simp)).trans (heap_alloc_new W3.drew _)) | (go_at_call 36; refine (HC.out (w4.alloc (.cells #[.slice none 0 0, .bool false, .string ⟨#[]⟩, .int .i64 0] 85)) (hb4a.alloc hb4a.size _)).mono ?_; intro e w5 hpa; obtain ⟨p, nv, cv, m, ky, i, er, L, rfl, hb5, hrow5, hfr5, htell⟩ := part_tells hpa; have HR5 := Lib.hid (And.intro hrow5 (And.intro hfr5 htell)); clear hrow5 hfr5 htell; clear hpa; have h5 : w5.heap[w4.heap.size]? = some (.cells #[.slice none 0 0, .bool false, .string ⟨#[]⟩, .int .i64 0] 85 (0, 0)) := (hb5.block w4.heap.size (by simp)).trans (heap_alloc_new w4 _); have r0 := (cells_of_heap h5).1 0 _ rfl; have r1 := (cells_of_heap h5).1 1 _ rfl; have r2 := (cells_of_heap h5).1 2 _ rfl; have r3 := (cells_of_heap h5).1 3 _ rfl; have z0 := (cells_of_heap h5).2 0; have z1 := (cells_of_heap h5).2 1; have z2 := (cells_of_heap h5).2 2; have z3 := (cells_of_heap h5).2 3; have hb5a : Below W3.heap.size W3 w5 := (hb4a.alloc hb4a.size _).trans (hb5.mono (by have := hb4a.size; simp; omega))) | (go_at_call 36; refine (HC.out _ (by assumption)).mono ?_; intro e w5 hpa; obtain ⟨p, nv, cv, m, ky, i, er, L, rfl, hb5, hrow5, hfr5, htell⟩ := part_tells hpa; have HR5 := Lib.hid (And.intro hrow5 (And.intro hfr5 htell)); clear hrow5 hfr5 htell; clear hpa; have h5 : w5.heap[W3.heap.size]? = some (.cells #[.slice none 0 0, .bool false, .string ⟨#[]⟩, .int .i64 0] 85 (0, 0)) := (hb5.block W3.heap.size (Array.getElem?_eq_some_iff.1 hz4).1).trans hz4; have r0 := (cells_of_heap h5).1 0 _ rfl; have r1 := (cells_of_heap h5).1 1 _ rfl; have r2 := (cells_of_heap h5).1 2 _ rfl; have r3 := (cells_of_heap h5).1 3 _ rfl; have z0 := (cells_of_heap h5).2 0; have z1 := (cells_of_heap h5).2 1; have z2 := (cells_of_heap h5).2 2; have z3 := (cells_of_heap h5).2 3; have hb5a : Below W3.heap.size W3 w5 := hb4a.trans (hb5.mono hb4a.size)) | (go_at_call 36; refine (HC.out _ (by assumption)).mono ?_; intro e w5 hpa; obtain ⟨p, nv, cv, m, ky, i, er, L, rfl, hb5, hrow5, hfr5, htell⟩ := part_tells hpa; have HR5 := Lib.hid (And.intro hrow5 (And.intro hfr5 htell)); clear hrow5 hfr5 htell; clear hpa; have hb5a : Below W3.heap.size W3 w5 := hb4a.trans (hb5.mono hb4a.size))))
  · obtain ⟨V6, hV6⟩ : ∃ V6, w5.alloc (.cells #[.slice p nv cv, .bool m, .string ky, .int .i64 i] 85) = V6 := ⟨_, rfl⟩
    rw [hV6]
    have h6 : V6.heap[w5.heap.size]? = some (.cells #[.slice p nv cv, .bool m, .string ky, .int .i64 i] 85 (0, 0)) := by rw [← hV6]; exact heap_alloc_new w5 _
    have HB6 : Hid (Below W3.heap.size W3 V6) := by show Below _ _ _; rw [← hV6]; exact hb5a.alloc hb5a.size _
    have hr6 : RowE V6 (.slice p nv cv) L := by rw [← hV6]; exact HR5.out.1.below ((Below.refl _ _).alloc (Nat.le_refl _) _)
    clear hV6 
    have HAn := Lib.hid (answer_is (.slice p nv cv) L m ky i (by have := tells_len objR_len HR5.out.2.2; omega) V6 hr6)
    have k0 : V6.cell? ⟨w5.heap.size, 0, none⟩ = some (.slice p nv cv) := (cells_of_heap h6).1 0 _ rfl
    have k1 : V6.cell? ⟨w5.heap.size, 1, none⟩ = some (.bool m) := (cells_of_heap h6).1 1 _ rfl
    have k2 : V6.cell? ⟨w5.heap.size, 2, none⟩ = some (.string ky) := (cells_of_heap h6).1 2 _ rfl
    have k3 : V6.cell? ⟨w5.heap.size, 3, none⟩ = some (.int .i64 i) := (cells_of_heap h6).1 3 _ rfl
    clear h6 hr6
    go_wp2_with fail
    refine HAn.out.mono ?_
    rintro e w7 ⟨sv', rfl, hr7, hf7, hb7⟩
    obtain ⟨p7, c7_, rfl, _⟩ := len_of_row hr7
    have HR7 := Lib.hid hr7
    have HB7 : Hid (Below W3.heap.size W3 w7) := HB6.out.trans (hb7.mono HB6.out.size)
    have HBo := Lib.hid (boxed_after HBX.out HM.out.q (Moved.of_below (Q := Q) HB7.out))
    obtain ⟨W8, HTH, hW8, ⟨z0, z1, z2, z3, z4, z5, z6, z7, z8, z9, z10⟩, HK7, HK6, HON⟩ := box_pg w w7 (.slice p7 L.length c7_) m ky i HBo.out.1 HBo.out.2.1 HBo.out.2.2
    have HW8 := Lib.hid hW8
    have HK6h := Lib.hid HK6
    have HTHh := Lib.hid HTH
    have HONh := Lib.hid HON
    have HF7 : Hid (∀ b f n c, Value.slice p7 L.length c7_ = .slice (some ⟨b, f, none⟩) n c → w.heap.size + 3 ≤ b) := fun b f n c h => by
      have h1 := hf7 b f n c h
      have h2 := HB6.out.size
      have h3 := HBX.out.s
      omega
    have f0 := blk_frozen HK7 0
    clear hW8 HK6 HK7 HTH HON hf7 hb7 hr7 k0 k1 k2 k3
    have HBs : Hid (∀ u, (W8.setCell ⟨w.heap.size + 1 + 1, 0, none⟩ u).heap[w.heap.size + 1]? = some (.cells ans0 44 (0, 0))) := fun u => blk_far HK6h.out (by simp) u
    go_wp2_with (first | (refine wpList_store_mid rfl 41 (.tmp 140) (.tmp 138) rfl (w.heap.size + 1 + 1) 6 (pgA (.slice p7 L.length c7_) m ky i) rfl rfl HTHh.out (by kernel_rfl) (by simp [Value.oneCell']) ?_; rw [HW8.out]) | (refine wpList_store_row rfl 44 (.tmp 6) (.tmp 159) rfl (w.heap.size + 1) (ansPg er (.slice p7 L.length c7_) m ky i) rfl rfl 44 _ (HBs.out _) (by kernel_rfl) rfl (by simp [Value.oneCell']) ?_))
    refine bodyPost_ret (results_single rfl (.cell (w.heap.size + 1) 44 (ansPg er (.slice p7 L.length c7_) m ky i) (0, 0) _ rfl (setRow_heap _ _ _ _ _ _ (HBs.out _)) Tryz.underlying44 rfl (by kernel_rfl) .nil)) rfl ?_
    have hon := (HONh.out.put 0 (.int .i64 er) (g := w.heap.size + 1 + 1) (by omega) (by omega)).row (g := w.heap.size + 1) (ansPg er (.slice p7 L.length c7_) m ky i) (by omega) (by omega)
    exact ⟨⟨er, _, m, ky, i, L, rfl, rowE_keep HR7.out (fun b f n c h hlt => hon.block b hlt (.inr (HF7.out b f n c h))) hon.size, (fun b f n c h => by have := HF7.out b f n c h; omega), HR5.out.2.2⟩, below_only (HBX.out.b.trans (HB7.out.mono HBX.out.b.size)) hon⟩
  · obtain ⟨V6, hV6⟩ : ∃ V6, ((((w5.setCell ⟨w4.heap.size, 0, none⟩ (.slice p nv cv)).setCell ⟨w4.heap.size, 1, none⟩ (.bool m)).setCell ⟨w4.heap.size, 2, none⟩ (.string ky)).setCell ⟨w4.heap.size, 3, none⟩ (.int .i64 i)) = V6 := ⟨_, rfl⟩
    rw [hV6]
    have h6 : V6.heap[w4.heap.size]? = some (.cells #[.slice p nv cv, .bool m, .string ky, .int .i64 i] 85 (0, 0)) := by rw [← hV6]; exact heap_set (heap_set (heap_set (heap_set h5 0 (.slice p nv cv)) 1 (.bool m)) 2 (.string ky)) 3 (.int .i64 i)
    have HB6 : Hid (Below W3.heap.size W3 V6) := by show Below _ _ _; rw [← hV6]; exact (((hb5a.setCell (p := ⟨w4.heap.size, 0, none⟩) hb4a.size _).setCell (p := ⟨w4.heap.size, 1, none⟩) hb4a.size _).setCell (p := ⟨w4.heap.size, 2, none⟩) hb4a.size _).setCell (p := ⟨w4.heap.size, 3, none⟩) hb4a.size _
    have hr6 : RowE V6 (.slice p nv cv) L := by rw [← hV6]; exact rowE_set (rowE_set (rowE_set (rowE_set HR5.out.1 (fun b f n c h => by have := HR5.out.2.1 b f n c h; simp at this; omega) _ _) (fun b f n c h => by have := HR5.out.2.1 b f n c h; simp at this; omega) _ _) (fun b f n c h => by have := HR5.out.2.1 b f n c h; simp at this; omega) _ _) (fun b f n c h => by have := HR5.out.2.1 b f n c h; simp at this; omega) _ _
    clear hV6 h5 r0 r1 r2 r3 z0 z1 z2 z3
    have HAn := Lib.hid (answer_is (.slice p nv cv) L m ky i (by have := tells_len objR_len HR5.out.2.2; omega) V6 hr6)
    have k0 : V6.cell? ⟨w4.heap.size, 0, none⟩ = some (.slice p nv cv) := (cells_of_heap h6).1 0 _ rfl
    have k1 : V6.cell? ⟨w4.heap.size, 1, none⟩ = some (.bool m) := (cells_of_heap h6).1 1 _ rfl
    have k2 : V6.cell? ⟨w4.heap.size, 2, none⟩ = some (.string ky) := (cells_of_heap h6).1 2 _ rfl
    have k3 : V6.cell? ⟨w4.heap.size, 3, none⟩ = some (.int .i64 i) := (cells_of_heap h6).1 3 _ rfl
    clear h6 hr6
    go_wp2_with fail
    refine HAn.out.mono ?_
    rintro e w7 ⟨sv', rfl, hr7, hf7, hb7⟩
    obtain ⟨p7, c7_, rfl, _⟩ := len_of_row hr7
    have HR7 := Lib.hid hr7
    have HB7 : Hid (Below W3.heap.size W3 w7) := HB6.out.trans (hb7.mono HB6.out.size)
    have HBo := Lib.hid (boxed_after HBX.out HM.out.q (Moved.of_below (Q := Q) HB7.out))
    obtain ⟨W8, HTH, hW8, ⟨z0, z1, z2, z3, z4, z5, z6, z7, z8, z9, z10⟩, HK7, HK6, HON⟩ := box_pg w w7 (.slice p7 L.length c7_) m ky i HBo.out.1 HBo.out.2.1 HBo.out.2.2
    have HW8 := Lib.hid hW8
    have HK6h := Lib.hid HK6
    have HTHh := Lib.hid HTH
    have HONh := Lib.hid HON
    have HF7 : Hid (∀ b f n c, Value.slice p7 L.length c7_ = .slice (some ⟨b, f, none⟩) n c → w.heap.size + 3 ≤ b) := fun b f n c h => by
      have h1 := hf7 b f n c h
      have h2 := HB6.out.size
      have h3 := HBX.out.s
      omega
    have f0 := blk_frozen HK7 0
    clear hW8 HK6 HK7 HTH HON hf7 hb7 hr7 k0 k1 k2 k3
    have HBs : Hid (∀ u, (W8.setCell ⟨w.heap.size + 1 + 1, 0, none⟩ u).heap[w.heap.size + 1]? = some (.cells ans0 44 (0, 0))) := fun u => blk_far HK6h.out (by simp) u
    go_wp2_with (first | (refine wpList_store_mid rfl 41 (.tmp 140) (.tmp 138) rfl (w.heap.size + 1 + 1) 6 (pgA (.slice p7 L.length c7_) m ky i) rfl rfl HTHh.out (by kernel_rfl) (by simp [Value.oneCell']) ?_; rw [HW8.out]) | (refine wpList_store_row rfl 44 (.tmp 6) (.tmp 159) rfl (w.heap.size + 1) (ansPg er (.slice p7 L.length c7_) m ky i) rfl rfl 44 _ (HBs.out _) (by kernel_rfl) rfl (by simp [Value.oneCell']) ?_))
    refine bodyPost_ret (results_single rfl (.cell (w.heap.size + 1) 44 (ansPg er (.slice p7 L.length c7_) m ky i) (0, 0) _ rfl (setRow_heap _ _ _ _ _ _ (HBs.out _)) Tryz.underlying44 rfl (by kernel_rfl) .nil)) rfl ?_
    have hon := (HONh.out.put 0 (.int .i64 er) (g := w.heap.size + 1 + 1) (by omega) (by omega)).row (g := w.heap.size + 1) (ansPg er (.slice p7 L.length c7_) m ky i) (by omega) (by omega)
    exact ⟨⟨er, _, m, ky, i, L, rfl, rowE_keep HR7.out (fun b f n c h hlt => hon.block b hlt (.inr (HF7.out b f n c h))) hon.size, (fun b f n c h => by have := HF7.out b f n c h; omega), HR5.out.2.2⟩, below_only (HBX.out.b.trans (HB7.out.mono HBX.out.b.size)) hon⟩
  · obtain ⟨V6, hV6⟩ : ∃ V6, ((((w5.setCell ⟨W3.heap.size, 0, none⟩ (.slice p nv cv)).setCell ⟨W3.heap.size, 1, none⟩ (.bool m)).setCell ⟨W3.heap.size, 2, none⟩ (.string ky)).setCell ⟨W3.heap.size, 3, none⟩ (.int .i64 i)) = V6 := ⟨_, rfl⟩
    rw [hV6]
    have h6 : V6.heap[W3.heap.size]? = some (.cells #[.slice p nv cv, .bool m, .string ky, .int .i64 i] 85 (0, 0)) := by rw [← hV6]; exact heap_set (heap_set (heap_set (heap_set h5 0 (.slice p nv cv)) 1 (.bool m)) 2 (.string ky)) 3 (.int .i64 i)
    have HB6 : Hid (Below W3.heap.size W3 V6) := by show Below _ _ _; rw [← hV6]; exact (((hb5a.setCell (p := ⟨W3.heap.size, 0, none⟩) (Nat.le_refl _) _).setCell (p := ⟨W3.heap.size, 1, none⟩) (Nat.le_refl _) _).setCell (p := ⟨W3.heap.size, 2, none⟩) (Nat.le_refl _) _).setCell (p := ⟨W3.heap.size, 3, none⟩) (Nat.le_refl _) _
    have hr6 : RowE V6 (.slice p nv cv) L := by rw [← hV6]; exact rowE_set (rowE_set (rowE_set (rowE_set HR5.out.1 (fun b f n c h => by have := HR5.out.2.1 b f n c h; have := (Array.getElem?_eq_some_iff.1 hz4).1; omega) _ _) (fun b f n c h => by have := HR5.out.2.1 b f n c h; have := (Array.getElem?_eq_some_iff.1 hz4).1; omega) _ _) (fun b f n c h => by have := HR5.out.2.1 b f n c h; have := (Array.getElem?_eq_some_iff.1 hz4).1; omega) _ _) (fun b f n c h => by have := HR5.out.2.1 b f n c h; have := (Array.getElem?_eq_some_iff.1 hz4).1; omega) _ _
    clear hV6 h5 r0 r1 r2 r3 z0 z1 z2 z3
    have HAn := Lib.hid (answer_is (.slice p nv cv) L m ky i (by have := tells_len objR_len HR5.out.2.2; omega) V6 hr6)
    have k0 : V6.cell? ⟨W3.heap.size, 0, none⟩ = some (.slice p nv cv) := (cells_of_heap h6).1 0 _ rfl
    have k1 : V6.cell? ⟨W3.heap.size, 1, none⟩ = some (.bool m) := (cells_of_heap h6).1 1 _ rfl
    have k2 : V6.cell? ⟨W3.heap.size, 2, none⟩ = some (.string ky) := (cells_of_heap h6).1 2 _ rfl
    have k3 : V6.cell? ⟨W3.heap.size, 3, none⟩ = some (.int .i64 i) := (cells_of_heap h6).1 3 _ rfl
    clear h6 hr6
    go_wp2_with fail
    refine HAn.out.mono ?_
    rintro e w7 ⟨sv', rfl, hr7, hf7, hb7⟩
    obtain ⟨p7, c7_, rfl, _⟩ := len_of_row hr7
    have HR7 := Lib.hid hr7
    have HB7 : Hid (Below W3.heap.size W3 w7) := HB6.out.trans (hb7.mono HB6.out.size)
    have HBo := Lib.hid (boxed_after HBX.out HM.out.q (Moved.of_below (Q := Q) HB7.out))
    obtain ⟨W8, HTH, hW8, ⟨z0, z1, z2, z3, z4, z5, z6, z7, z8, z9, z10⟩, HK7, HK6, HON⟩ := box_pg w w7 (.slice p7 L.length c7_) m ky i HBo.out.1 HBo.out.2.1 HBo.out.2.2
    have HW8 := Lib.hid hW8
    have HK6h := Lib.hid HK6
    have HTHh := Lib.hid HTH
    have HONh := Lib.hid HON
    have HF7 : Hid (∀ b f n c, Value.slice p7 L.length c7_ = .slice (some ⟨b, f, none⟩) n c → w.heap.size + 3 ≤ b) := fun b f n c h => by
      have h1 := hf7 b f n c h
      have h2 := HB6.out.size
      have h3 := HBX.out.s
      omega
    have f0 := blk_frozen HK7 0
    clear hW8 HK6 HK7 HTH HON hf7 hb7 hr7 k0 k1 k2 k3
    have HBs : Hid (∀ u, (W8.setCell ⟨w.heap.size + 1 + 1, 0, none⟩ u).heap[w.heap.size + 1]? = some (.cells ans0 44 (0, 0))) := fun u => blk_far HK6h.out (by simp) u
    go_wp2_with (first | (refine wpList_store_mid rfl 41 (.tmp 140) (.tmp 138) rfl (w.heap.size + 1 + 1) 6 (pgA (.slice p7 L.length c7_) m ky i) rfl rfl HTHh.out (by kernel_rfl) (by simp [Value.oneCell']) ?_; rw [HW8.out]) | (refine wpList_store_row rfl 44 (.tmp 6) (.tmp 159) rfl (w.heap.size + 1) (ansPg er (.slice p7 L.length c7_) m ky i) rfl rfl 44 _ (HBs.out _) (by kernel_rfl) rfl (by simp [Value.oneCell']) ?_))
    refine bodyPost_ret (results_single rfl (.cell (w.heap.size + 1) 44 (ansPg er (.slice p7 L.length c7_) m ky i) (0, 0) _ rfl (setRow_heap _ _ _ _ _ _ (HBs.out _)) Tryz.underlying44 rfl (by kernel_rfl) .nil)) rfl ?_
    have hon := (HONh.out.put 0 (.int .i64 er) (g := w.heap.size + 1 + 1) (by omega) (by omega)).row (g := w.heap.size + 1) (ansPg er (.slice p7 L.length c7_) m ky i) (by omega) (by omega)
    exact ⟨⟨er, _, m, ky, i, L, rfl, rowE_keep HR7.out (fun b f n c h hlt => hon.block b hlt (.inr (HF7.out b f n c h))) hon.size, (fun b f n c h => by have := HF7.out b f n c h; omega), HR5.out.2.2⟩, below_only (HBX.out.b.trans (HB7.out.mono HBX.out.b.size)) hon⟩
end Go.Proofs.YtjbjcfnbgcloiaaGreatDoor

/- ModelPlays: any choice on a model of the program's, on one of the document's: its answer, the state. -/
set_option linter.unusedSimpArgs false
set_option linter.unusedVariables false
namespace Go.Proofs.YtjbjcfnbgcloiaaGreatDoor
open Go.RowKit Nam YtjbjcfnbgcloiaaGreatDoorW.PrintWords Go.Lib

theorem AR_1 {S : St} {x : Ch} {id : Int} {a : Ans} (h : x.d = 1) (ha : a = plainA (S.make x.bk).2 kp0 []) : AR S x id a := by
  unfold AR
  rw [if_pos h]
  exact ha
theorem AR_2 {S : St} {x : Ch} {id : Int} {a : Ans} (h : x.d = 2) (ha : a = plainA (S.remove x.bk).2 kp0 []) : AR S x id a := by
  unfold AR
  rw [if_neg (show ¬ x.d = 1 by omega), if_pos h]
  exact ha
theorem AR_3 {S : St} {x : Ch} {id : Int} {a : Ans} (h : x.d = 3) (ha : ∃ ss : List (List UInt8), ss.Perm S.B ∧ a = ⟨0, kp0, [], [], false, ⟨#[]⟩, 0, ss.mergeSort (fun x y => decide (x ≤ y))⟩) : AR S x id a := by
  unfold AR
  rw [if_neg (show ¬ x.d = 1 by omega), if_neg (show ¬ x.d = 2 by omega), if_pos h]
  exact ha
theorem AR_4 {S : St} {x : Ch} {id : Int} {a : Ans} (h : x.d = 4) (ha : a = plainA (S.putE id x.bk x.ky x.dt) (if S.putE id x.bk x.ky x.dt = 0 then kpOf id x.dt else kp0) []) : AR S x id a := by
  unfold AR
  rw [if_neg (show ¬ x.d = 1 by omega), if_neg (show ¬ x.d = 2 by omega), if_neg (show ¬ x.d = 3 by omega), if_pos h]
  exact ha
theorem AR_5 {S : St} {x : Ch} {id : Int} {a : Ans} (h : x.d = 5) (ha : getA (S.findE x.bk x.ky x.n 0) (S.getE x.bk x.ky x.n) (S.getK x.bk x.ky x.n) true a) : AR S x id a := by
  unfold AR
  rw [if_neg (show ¬ x.d = 1 by omega), if_neg (show ¬ x.d = 2 by omega), if_neg (show ¬ x.d = 3 by omega), if_neg (show ¬ x.d = 4 by omega), if_pos h]
  exact ha
theorem AR_6 {S : St} {x : Ch} {id : Int} {a : Ans} (h : x.d = 6) (ha : getA (S.findE x.bk x.ky x.n 0) (S.getE x.bk x.ky x.n) (S.getK x.bk x.ky x.n) false a) : AR S x id a := by
  unfold AR
  rw [if_neg (show ¬ x.d = 1 by omega), if_neg (show ¬ x.d = 2 by omega), if_neg (show ¬ x.d = 3 by omega), if_neg (show ¬ x.d = 4 by omega), if_neg (show ¬ x.d = 5 by omega), if_pos h]
  exact ha
theorem AR_7 {S : St} {x : Ch} {id : Int} {a : Ans} (h : x.d = 7) (ha : a = plainA (S.delE id x.bk x.ky) (if S.delE id x.bk x.ky = 0 then kpDel id else kp0) []) : AR S x id a := by
  unfold AR
  rw [if_neg (show ¬ x.d = 1 by omega), if_neg (show ¬ x.d = 2 by omega), if_neg (show ¬ x.d = 3 by omega), if_neg (show ¬ x.d = 4 by omega), if_neg (show ¬ x.d = 5 by omega), if_neg (show ¬ x.d = 6 by omega), if_pos h]
  exact ha
theorem AR_8 {S : St} {x : Ch} {id : Int} {a : Ans} (h : x.d = 8) (ha : a = plainA (S.findE x.bk x.ky x.n 1) kp0 []) : AR S x id a := by
  unfold AR
  rw [if_neg (show ¬ x.d = 1 by omega), if_neg (show ¬ x.d = 2 by omega), if_neg (show ¬ x.d = 3 by omega), if_neg (show ¬ x.d = 4 by omega), if_neg (show ¬ x.d = 5 by omega), if_neg (show ¬ x.d = 6 by omega), if_neg (show ¬ x.d = 7 by omega), if_pos h]
  exact ha
theorem AR_9 {S : St} {x : Ch} {id : Int} {a : Ans} (h : x.d = 9) (ha : a.y = kp0 ∧ a.l = [] ∧ a.B = [] ∧ Tells S x.bk (askV x.pf x.fr x.fi x.mo) (ObjR (askV x.pf x.fr x.fi x.mo)) a.er a.o a.m a.k a.i) : AR S x id a := by
  unfold AR
  rw [if_neg (show ¬ x.d = 1 by omega), if_neg (show ¬ x.d = 2 by omega), if_neg (show ¬ x.d = 3 by omega), if_neg (show ¬ x.d = 4 by omega), if_neg (show ¬ x.d = 5 by omega), if_neg (show ¬ x.d = 6 by omega), if_neg (show ¬ x.d = 7 by omega), if_neg (show ¬ x.d = 8 by omega), if_pos h]
  exact ha
theorem AR_10 {S : St} {x : Ch} {id : Int} {a : Ans} (h : x.d = 10) (ha : a.y = kp0 ∧ a.l = [] ∧ a.B = [] ∧ Tells S x.bk (askV x.pf x.fr x.fi x.mo) (VerR (askV x.pf x.fr x.fi x.mo)) a.er a.o a.m a.k a.i) : AR S x id a := by
  unfold AR
  rw [if_neg (show ¬ x.d = 1 by omega), if_neg (show ¬ x.d = 2 by omega), if_neg (show ¬ x.d = 3 by omega), if_neg (show ¬ x.d = 4 by omega), if_neg (show ¬ x.d = 5 by omega), if_neg (show ¬ x.d = 6 by omega), if_neg (show ¬ x.d = 7 by omega), if_neg (show ¬ x.d = 8 by omega), if_neg (show ¬ x.d = 9 by omega), if_pos h]
  exact ha
theorem AR_0 {S : St} {x : Ch} {id : Int} {a : Ans} (h : ¬ (1 ≤ x.d ∧ x.d ≤ 10)) (ha : a = plainA 0 kp0 []) : AR S x id a := by
  unfold AR
  rw [if_neg (show ¬ x.d = 1 by omega), if_neg (show ¬ x.d = 2 by omega), if_neg (show ¬ x.d = 3 by omega), if_neg (show ¬ x.d = 4 by omega), if_neg (show ¬ x.d = 5 by omega), if_neg (show ¬ x.d = 6 by omega), if_neg (show ¬ x.d = 7 by omega), if_neg (show ¬ x.d = 8 by omega), if_neg (show ¬ x.d = 9 by omega), if_neg (show ¬ x.d = 10 by omega)]
  exact ha
theorem AW_1 {B : List (List UInt8)} {L : List Ob} {x : Ch} {id : Int} {a : Ans} (h : x.d = 1) (ha : a = plainA (rMake B x.bk).2 kp0 []) : AW B L x id a := by
  unfold AW
  rw [if_pos h]
  exact ha
theorem AW_2 {B : List (List UInt8)} {L : List Ob} {x : Ch} {id : Int} {a : Ans} (h : x.d = 2) (ha : a = plainA (rRemove B L x.bk).2.2 kp0 []) : AW B L x id a := by
  unfold AW
  rw [if_neg (show ¬ x.d = 1 by omega), if_pos h]
  exact ha
theorem AW_3 {B : List (List UInt8)} {L : List Ob} {x : Ch} {id : Int} {a : Ans} (h : x.d = 3) (ha : a = ⟨0, kp0, [], [], false, ⟨#[]⟩, 0, B⟩) : AW B L x id a := by
  unfold AW
  rw [if_neg (show ¬ x.d = 1 by omega), if_neg (show ¬ x.d = 2 by omega), if_pos h]
  exact ha
theorem AW_4 {B : List (List UInt8)} {L : List Ob} {x : Ch} {id : Int} {a : Ans} (h : x.d = 4) (ha : a = plainA (rPutE B L id x.bk x.ky x.dt) (if rPutE B L id x.bk x.ky x.dt = 0 then kpOf id x.dt else kp0) []) : AW B L x id a := by
  unfold AW
  rw [if_neg (show ¬ x.d = 1 by omega), if_neg (show ¬ x.d = 2 by omega), if_neg (show ¬ x.d = 3 by omega), if_pos h]
  exact ha
theorem AW_5 {B : List (List UInt8)} {L : List Ob} {x : Ch} {id : Int} {a : Ans} (h : x.d = 5) (ha : getA (rFindE B L x.bk x.ky x.n) (rGetE B L x.bk x.ky x.n) (rGetK L x.bk x.ky x.n) true a) : AW B L x id a := by
  unfold AW
  rw [if_neg (show ¬ x.d = 1 by omega), if_neg (show ¬ x.d = 2 by omega), if_neg (show ¬ x.d = 3 by omega), if_neg (show ¬ x.d = 4 by omega), if_pos h]
  exact ha
theorem AW_6 {B : List (List UInt8)} {L : List Ob} {x : Ch} {id : Int} {a : Ans} (h : x.d = 6) (ha : getA (rFindE B L x.bk x.ky x.n) (rGetE B L x.bk x.ky x.n) (rGetK L x.bk x.ky x.n) false a) : AW B L x id a := by
  unfold AW
  rw [if_neg (show ¬ x.d = 1 by omega), if_neg (show ¬ x.d = 2 by omega), if_neg (show ¬ x.d = 3 by omega), if_neg (show ¬ x.d = 4 by omega), if_neg (show ¬ x.d = 5 by omega), if_pos h]
  exact ha
theorem AW_7 {B : List (List UInt8)} {L : List Ob} {x : Ch} {id : Int} {a : Ans} (h : x.d = 7) (ha : a = plainA (rDelE B L id x.bk x.ky) (if rDelE B L id x.bk x.ky = 0 then kpDel id else kp0) []) : AW B L x id a := by
  unfold AW
  rw [if_neg (show ¬ x.d = 1 by omega), if_neg (show ¬ x.d = 2 by omega), if_neg (show ¬ x.d = 3 by omega), if_neg (show ¬ x.d = 4 by omega), if_neg (show ¬ x.d = 5 by omega), if_neg (show ¬ x.d = 6 by omega), if_pos h]
  exact ha
theorem AW_8 {B : List (List UInt8)} {L : List Ob} {x : Ch} {id : Int} {a : Ans} (h : x.d = 8) (ha : a = plainA (rFindE B L x.bk x.ky (rEraI x.n)) kp0 []) : AW B L x id a := by
  unfold AW
  rw [if_neg (show ¬ x.d = 1 by omega), if_neg (show ¬ x.d = 2 by omega), if_neg (show ¬ x.d = 3 by omega), if_neg (show ¬ x.d = 4 by omega), if_neg (show ¬ x.d = 5 by omega), if_neg (show ¬ x.d = 6 by omega), if_neg (show ¬ x.d = 7 by omega), if_pos h]
  exact ha
theorem AW_9 {B : List (List UInt8)} {L : List Ob} {x : Ch} {id : Int} {a : Ans} (h : x.d = 9) (ha : a.y = kp0 ∧ a.l = [] ∧ a.B = [] ∧ RTells B L x.bk (askV x.pf x.fr x.fi x.mo) false a.er a.o a.m a.k a.i) : AW B L x id a := by
  unfold AW
  rw [if_neg (show ¬ x.d = 1 by omega), if_neg (show ¬ x.d = 2 by omega), if_neg (show ¬ x.d = 3 by omega), if_neg (show ¬ x.d = 4 by omega), if_neg (show ¬ x.d = 5 by omega), if_neg (show ¬ x.d = 6 by omega), if_neg (show ¬ x.d = 7 by omega), if_neg (show ¬ x.d = 8 by omega), if_pos h]
  exact ha
theorem AW_10 {B : List (List UInt8)} {L : List Ob} {x : Ch} {id : Int} {a : Ans} (h : x.d = 10) (ha : a.y = kp0 ∧ a.l = [] ∧ a.B = [] ∧ RTells B L x.bk (askV x.pf x.fr x.fi x.mo) true a.er a.o a.m a.k a.i) : AW B L x id a := by
  unfold AW
  rw [if_neg (show ¬ x.d = 1 by omega), if_neg (show ¬ x.d = 2 by omega), if_neg (show ¬ x.d = 3 by omega), if_neg (show ¬ x.d = 4 by omega), if_neg (show ¬ x.d = 5 by omega), if_neg (show ¬ x.d = 6 by omega), if_neg (show ¬ x.d = 7 by omega), if_neg (show ¬ x.d = 8 by omega), if_neg (show ¬ x.d = 9 by omega), if_pos h]
  exact ha
theorem AW_0 {B : List (List UInt8)} {L : List Ob} {x : Ch} {id : Int} {a : Ans} (h : ¬ (1 ≤ x.d ∧ x.d ≤ 10)) (ha : a = plainA 0 kp0 []) : AW B L x id a := by
  unfold AW
  rw [if_neg (show ¬ x.d = 1 by omega), if_neg (show ¬ x.d = 2 by omega), if_neg (show ¬ x.d = 3 by omega), if_neg (show ¬ x.d = 4 by omega), if_neg (show ¬ x.d = 5 by omega), if_neg (show ¬ x.d = 6 by omega), if_neg (show ¬ x.d = 7 by omega), if_neg (show ¬ x.d = 8 by omega), if_neg (show ¬ x.d = 9 by omega), if_neg (show ¬ x.d = 10 by omega)]
  exact ha
def CallAr (S : St) (x : Ch) (id : Int) (n : Nat) (Q F : Nat → Prop) (g : Nat) (w : World) (e : Ending) (w' : World) : Prop :=
  (∃ a v, e = .returned v ∧ AR S x id a ∧ IsAns w' w.heap.size a v) ∧ (∃ Q' F', HasM w' g (S.allS x id) (n + 1) Q' F' ∧ (∀ j, Q' j → Q j ∨ w.heap.size ≤ j) ∧ ∀ j, F' j → F j ∨ w.heap.size ≤ j) ∧ Moved Q w w'
theorem ar_ans {S S' : St} {x : Ch} {id : Int} {n : Nat} {Q F : Nat → Prop} {g : Nat} {w w' : World} {e : Ending} {er : Int} {P : Kp → Value → World → Prop} (hS : S.allS x id = S') (h : AnsIs P S' n Q F g er w e w')
    (hP : ∀ y dv, P y dv w' → ∃ a v, (.agg (ansL er y dv).toArray : Value) = v ∧ AR S x id a ∧ IsAns w' w.heap.size a v) : CallAr S x id n Q F g w e w' := by
  obtain ⟨⟨y, dv, he, hp⟩, ⟨F', h1, h2⟩, h3⟩ := h
  obtain ⟨a, v, hv, ha, hi⟩ := hP y dv hp
  exact ⟨⟨a, v, by rw [he, hv], ha, hi⟩, ⟨Q, F', by rw [hS]; exact h1, fun j hj => .inl hj, h2⟩, h3⟩
theorem ar_below {S : St} {x : Ch} {id : Int} {n : Nat} {Q F : Nat → Prop} {g : Nat} {w w' : World} {e : Ending} (hS : S.allS x id = S) (hm : HasM w g S n Q F) (hb : Below w.heap.size w w')
    (h : ∃ a v, e = .returned v ∧ AR S x id a ∧ IsAns w' w.heap.size a v) : CallAr S x id n Q F g w e w' :=
  ⟨h, ⟨Q, F, by rw [hS]; exact (hm.below hb).mono (by omega), fun j hj => .inl hj, fun j hj => .inl hj⟩, Moved.of_below hb⟩
theorem call_ar (w : World) (g : Nat) (S : St) (n : Nat) (Q F : Nat → Prop) (x : Ch) (A : Option Addr) (c : Nat) (id : Int) (hx : x.Short) (hn : n ≤ 10000) (hS : S.Few) (hm : HasM w g S n Q F)
    (hC : ∀ V, Below w.heap.size w V → (Kd.int .u8).C V A x.dt.length (byN x.dt)) (hT : Tabs w) :
    Calls Tryz.prog 13 #[.pointer (some ⟨g, 0, none⟩), .agg (chCells x (.slice A x.dt.length c)).toArray, .int .i64 id] w (CallAr S x id n Q F g w) := by
  have hb := hx.bk
  have hk := hx.ky
  have hd := hx.dt
  have hpf := hx.pf
  have hl := hS.fine.len x.bk x.ky
  have hdd : ∀ y ∈ S.V x.bk x.ky, y.dt.length ≤ 1000000 := fun y hy => by have := hS.fine.dt _ _ y hy; omega
  obtain ⟨d, bk, ky, dt, nn, a, pf, fr, fi, mo⟩ := x
  simp only at hb hk hd hpf hl hdd hC
  by_cases d1 : d = 1
  · subst d1
    exact (call_make w g S n Q F bk ky pf fr _ id nn a fi mo (by omega) (by omega) hm).mono fun e w' h => by
      obtain ⟨⟨y, dv, he, rfl, rfl⟩, ⟨Q', F', h1, h2, h4⟩, h3⟩ := h
      exact ⟨⟨_, _, he, AR_1 rfl rfl, ans_plain _ _ _ _⟩, ⟨Q', F', by rw [show St.allS S ⟨1, bk, ky, dt, nn, a, pf, fr, fi, mo⟩ id = (S.make bk).1 from if_pos rfl]; exact h1, h2, h4⟩, h3⟩
  by_cases d2 : d = 2
  · subst d2
    exact (call_rem w g S n Q F bk ky pf fr _ id nn a fi mo (by omega) (by omega) hm).mono fun e w' h =>
      ar_ans (x := ⟨2, bk, ky, dt, nn, a, pf, fr, fi, mo⟩) (by unfold St.allS; rw [if_neg (show ¬ (2 : Int) = 1 by decide), if_pos rfl]) h fun y dv hp => (by obtain ⟨rfl, rfl⟩ := hp; exact ⟨_, _, rfl, AR_2 rfl rfl, ans_plain _ _ _ _⟩)
  have hA : St.allS S ⟨d, bk, ky, dt, nn, a, pf, fr, fi, mo⟩ id = S.callS ⟨d, bk, ky, dt, nn, a, pf, fr, fi, mo⟩ id := by
    unfold St.allS
    rw [if_neg d1, if_neg d2]
  by_cases d3 : d = 3
  · subst d3
    exact (call_buckets w g S n Q F bk ky pf fr _ id nn a fi mo (by have := hS.few; omega) hm).mono fun e w' h => by
      obtain ⟨⟨v, ss, he, hp, ho⟩, hb⟩ := h
      refine ar_below hA hm hb ⟨⟨0, kp0, [], [], false, ⟨#[]⟩, 0, ss.mergeSort (fun x y => decide (x ≤ y))⟩, _, he, ?_, ?_⟩
      · exact AR_3 rfl (⟨ss, hp, rfl⟩)
      · refine ⟨none, 0, .slice none 0 0, v, rfl, ⟨fun _ => False, datF_nil _ _, fun _ h => h.elim⟩, .inl ⟨rfl, rfl⟩, no_slice, strRow_own ho (List.length_mergeSort ..).symm, fun b f n c hv => ?_⟩
        exact own_ge ho b (by rw [hv]; rfl)
  by_cases d4 : d = 4
  · subst d4
    exact (call_put w g S n Q F bk ky dt pf fr A c id nn a fi mo (by omega) (by omega) (by omega) (by omega) hm hC hT).mono fun e w' h =>
      ar_ans (x := ⟨4, bk, ky, dt, nn, a, pf, fr, fi, mo⟩) hA h fun y dv hp => (by obtain ⟨rfl, rfl⟩ := hp; exact ⟨_, _, rfl, AR_4 rfl rfl, ans_plain _ _ _ _⟩)
  by_cases d5 : d = 5
  · subst d5
    exact (call_get w g S n Q F bk ky pf fr _ id nn a fi mo (by omega) (by omega) (by omega) hdd hm hT).mono fun e w' h => by
      refine ar_ans (x := ⟨5, bk, ky, dt, nn, a, pf, fr, fi, mo⟩) hA h fun y dv hp => ?_
      rcases hp with ⟨q1, q2, rfl⟩ | ⟨q1, q2, q3, q4, rfl⟩ | ⟨q1, q2, q3, q4, A', c', rfl, q5, Fb, q6, q7⟩
      · refine ⟨_, _, rfl, ?_, ans_plain _ _ _ _⟩
        exact AR_5 rfl (.inl ⟨q1, by rw [q2]⟩)
      · refine ⟨_, _, rfl, ?_, ans_plain _ _ _ _⟩
        exact AR_5 rfl (.inr ⟨q1, y, q2, by rw [q4]; rfl⟩)
      · refine ⟨_, _, rfl, ?_, ans_data q6 fun j hj => ⟨(q7 j hj).2, isC_lt (q7 j hj).1⟩⟩
        exact AR_5 rfl (.inr ⟨q1, y, q2, by rw [q4]; rfl⟩)
  by_cases d6 : d = 6
  · subst d6
    exact (call_head w g S n Q F bk ky pf fr _ id nn a fi mo (by omega) (by omega) (by omega) hdd hm hT).mono fun e w' h => by
      refine ar_ans (x := ⟨6, bk, ky, dt, nn, a, pf, fr, fi, mo⟩) hA h fun y dv hp => ?_
      obtain ⟨hp, rfl⟩ := hp
      refine ⟨_, _, rfl, ?_, ans_plain _ _ _ _⟩
      refine AR_6 rfl ?_
      rcases hp with ⟨q1, q2⟩ | ⟨q1, q2⟩
      · exact .inl ⟨q1, by rw [q2]⟩
      · exact .inr ⟨q1, y, q2, rfl⟩
  by_cases d7 : d = 7
  · subst d7
    exact (call_del w g S n Q F bk ky pf fr _ id nn a fi mo (by omega) (by omega) (by omega) (by omega) hm hT).mono fun e w' h =>
      ar_ans (x := ⟨7, bk, ky, dt, nn, a, pf, fr, fi, mo⟩) hA h fun y dv hp => (by obtain ⟨rfl, rfl⟩ := hp; exact ⟨_, _, rfl, AR_7 rfl rfl, ans_plain _ _ _ _⟩)
  by_cases d8 : d = 8
  · subst d8
    exact (call_era w g S n Q F bk ky pf fr _ id nn a fi mo (by omega) (by omega) (by omega) (by omega) hm hT).mono fun e w' h =>
      ar_ans (x := ⟨8, bk, ky, dt, nn, a, pf, fr, fi, mo⟩) hA h fun y dv hp => (by obtain ⟨rfl, rfl⟩ := hp; exact ⟨_, _, rfl, AR_8 rfl rfl, ans_plain _ _ _ _⟩)
  have hS0 : St.allS S ⟨d, bk, ky, dt, nn, a, pf, fr, fi, mo⟩ id = S := by
    rw [hA]
    unfold St.callS
    rw [if_neg d4, if_neg d7, if_neg d8]
  by_cases d9 : d = 9
  · subst d9
    exact (call_objsF w g S n Q F bk ky pf fr _ id nn a fi mo (by omega) (by omega) hn hS.fine hm).mono fun e w' h => by
      obtain ⟨⟨er, sv, m, k, i, L, he, hr, hf, ht⟩, hb⟩ := h
      refine ar_below hS0 hm hb ⟨⟨er, kp0, [], L, m, k, i, []⟩, _, he, ?_, ⟨none, 0, sv, .slice none 0 0, rfl, ⟨fun _ => False, datF_nil _ _, fun _ h => h.elim⟩, hr, hf, strRow_nil _, no_slice⟩⟩
      exact AR_9 rfl (⟨rfl, rfl, rfl, ht⟩)
  by_cases d10 : d = 10
  · subst d10
    exact (call_versF w g S n Q F bk ky pf fr _ id nn a fi mo (by omega) (by omega) hn hS.fine hm).mono fun e w' h => by
      obtain ⟨⟨er, sv, m, k, i, L, he, hr, hf, ht⟩, hb⟩ := h
      refine ar_below hS0 hm hb ⟨⟨er, kp0, [], L, m, k, i, []⟩, _, he, ?_, ⟨none, 0, sv, .slice none 0 0, rfl, ⟨fun _ => False, datF_nil _ _, fun _ h => h.elim⟩, hr, hf, strRow_nil _, no_slice⟩⟩
      exact AR_10 rfl (⟨rfl, rfl, rfl, ht⟩)
  · exact (call_none w g S n Q F bk ky pf fr _ d id nn a fi mo d1 d2 d3 d4 d5 d6 d7 d8 d9 d10 hm).mono fun e w' h =>
      ar_ans (x := ⟨d, bk, ky, dt, nn, a, pf, fr, fi, mo⟩) hS0 h fun y dv hp => (by obtain ⟨rfl, rfl⟩ := hp; exact ⟨_, _, rfl, AR_0 (by show ¬ (1 ≤ d ∧ d ≤ 10); omega) rfl, ans_plain _ _ _ _⟩)

def WantAw (B : List (List UInt8)) (L : List Ob) (x : Ch) (id : Int) (P G : Nat → Prop) (r b0 : Nat) (w : World) (e : Ending) (w' : World) : Prop :=
  (∃ a v, e = .returned v ∧ AW B L x id a ∧ IsAns w' w.heap.size a v) ∧ Left w r b0 (rStB B L x) (rStL B L x id) P G w'
theorem aw_ans {B B' : List (List UInt8)} {L L' : List Ob} {x : Ch} {id : Int} {P G : Nat → Prop} {r b0 : Nat} {w w' : World} {e : Ending} {er : Int} {R : Kp → Value → World → Prop} (hB : rStB B L x = B') (hL : rStL B L x id = L') (h : WAns R B' L' P G r b0 er w e w')
    (hP : ∀ y dv, R y dv w' → ∃ a v, (.agg (ansL er y dv).toArray : Value) = v ∧ AW B L x id a ∧ IsAns w' w.heap.size a v) : WantAw B L x id P G r b0 w e w' := by
  obtain ⟨⟨y, dv, he, hp⟩, h3⟩ := h
  obtain ⟨a, v, hv, ha, hi⟩ := hP y dv hp
  exact ⟨⟨a, v, by rw [he, hv], ha, hi⟩, by rw [hB, hL]; exact h3⟩
theorem want_aw (w : World) (r : Nat) (B : List (List UInt8)) (L : List Ob) (b0 : Nat) (P G : Nat → Prop) (x : Ch) (A : Option Addr) (c : Nat) (id : Int) (hx : x.Short) (hok : ROk B L) (hb0 : b0 ≤ w.heap.size) (hm : RefM w r B L b0 P G)
    (hC : ∀ V, Moved P w V → (Kd.int .u8).C V A x.dt.length (byN x.dt)) (hT : Tabs w) :
    Calls Tryz.prog 14 #[.pointer (some ⟨r, 0, none⟩), .agg (chCells x (.slice A x.dt.length c)).toArray, .int .i64 id] w (WantAw B L x id P G r b0 w) := by
  have hb := hx.bk
  have hk := hx.ky
  have hd := hx.dt
  have hpf := hx.pf
  have hfr := hx.fr
  obtain ⟨d, bk, ky, dt, nn, a, pf, fr, fi, mo⟩ := x
  simp only at hb hk hd hpf hfr hC
  by_cases d1 : d = 1
  · subst d1
    exact (want_make w r B L b0 P G bk ky pf fr _ id nn a fi mo (by omega) (by omega) hok hb0 hm hT).mono fun e w' h =>
      aw_ans (x := ⟨1, bk, ky, dt, nn, a, pf, fr, fi, mo⟩) (if_pos rfl) (if_pos rfl) h fun y dv hp => (by obtain ⟨rfl, rfl⟩ := hp; exact ⟨_, _, rfl, AW_1 rfl rfl, ans_plain _ _ _ _⟩)
  by_cases d2 : d = 2
  · subst d2
    exact (want_rem w r B L b0 P G bk ky pf fr _ id nn a fi mo (by omega) (by omega) hok hb0 hm hT).mono fun e w' h =>
      aw_ans (x := ⟨2, bk, ky, dt, nn, a, pf, fr, fi, mo⟩) (by unfold rStB; rw [if_neg (show ¬ (2 : Int) = 1 by decide), if_pos rfl]) (by unfold rStL; rw [if_neg (show ¬ (2 : Int) = 1 by decide), if_pos rfl]) h fun y dv hp => (by obtain ⟨rfl, rfl⟩ := hp; exact ⟨_, _, rfl, AW_2 rfl rfl, ans_plain _ _ _ _⟩)
  have hB : rStB B L ⟨d, bk, ky, dt, nn, a, pf, fr, fi, mo⟩ = B := by
    unfold rStB
    rw [if_neg d1, if_neg d2]
  have hL4 : rStL B L ⟨d, bk, ky, dt, nn, a, pf, fr, fi, mo⟩ id = if d = 4 then rPutL B L id bk ky dt else if d = 7 then rDelL B L id bk ky else if d = 8 then rEraL B L bk ky nn else L := by
    unfold rStL
    rw [if_neg d1, if_neg d2]
  by_cases d3 : d = 3
  · subst d3
    exact (want_names w r B L b0 P G bk ky pf fr _ id nn a fi mo (by omega) (by omega) hok hb0 hm).mono fun e w' h => by
      obtain ⟨⟨v, he, ho⟩, hl⟩ := h
      refine ⟨⟨⟨0, kp0, [], [], false, ⟨#[]⟩, 0, B⟩, _, he, ?_, ?_⟩, by rw [hB, hL4]; exact hl⟩
      · exact AW_3 rfl rfl
      · refine ⟨none, 0, .slice none 0 0, v, rfl, ⟨fun _ => False, datF_nil _ _, fun _ h => h.elim⟩, .inl ⟨rfl, rfl⟩, no_slice, strRow_own ho rfl, fun b f n c hv => ?_⟩
        exact Nat.le_trans (Nat.le_add_right _ _) (own_ge ho b (by rw [hv]; rfl))
  by_cases d4 : d = 4
  · subst d4
    exact (want_put w r B L b0 P G bk ky dt pf fr A c id nn a fi mo (by omega) (by omega) hok hb0 hm (by omega) hC hT).mono fun e w' h =>
      aw_ans (x := ⟨4, bk, ky, dt, nn, a, pf, fr, fi, mo⟩) hB (hL4.trans (if_pos rfl)) h fun y dv hp => (by obtain ⟨rfl, rfl⟩ := hp; exact ⟨_, _, rfl, AW_4 rfl rfl, ans_plain _ _ _ _⟩)
  have hL7 := hL4.trans (if_neg d4)
  by_cases d7 : d = 7
  · subst d7
    exact (want_del w r B L b0 P G bk ky pf fr _ id nn a fi mo (by omega) (by omega) hok hb0 hm hT).mono fun e w' h =>
      aw_ans (x := ⟨7, bk, ky, dt, nn, a, pf, fr, fi, mo⟩) hB (hL7.trans (if_pos rfl)) h fun y dv hp => (by obtain ⟨rfl, rfl⟩ := hp; exact ⟨_, _, rfl, AW_7 rfl rfl, ans_plain _ _ _ _⟩)
  have hL8 := hL7.trans (if_neg d7)
  by_cases d8 : d = 8
  · subst d8
    exact (want_era w r B L b0 P G bk ky pf fr _ id nn a fi mo (by omega) (by omega) hok hb0 hm hT).mono fun e w' h =>
      aw_ans (x := ⟨8, bk, ky, dt, nn, a, pf, fr, fi, mo⟩) hB (hL8.trans (if_pos rfl)) h fun y dv hp => (by obtain ⟨rfl, rfl⟩ := hp; exact ⟨_, _, rfl, AW_8 rfl rfl, ans_plain _ _ _ _⟩)
  have hL0 := hL8.trans (if_neg d8)
  by_cases d5 : d = 5
  · subst d5
    exact (want_get w r B L b0 P G bk ky pf fr _ id nn a fi mo (by omega) (by omega) hok hb0 hm hT).mono fun e w' h => by
      refine aw_ans (x := ⟨5, bk, ky, dt, nn, a, pf, fr, fi, mo⟩) hB hL0 h fun y dv hp => ?_
      rcases hp with ⟨q1, q2, rfl⟩ | ⟨q1, q2, q4, rfl⟩ | ⟨q1, q2, q4, q5⟩
      · refine ⟨_, _, rfl, ?_, ans_plain _ _ _ _⟩
        exact AW_5 rfl (.inl ⟨q1, by rw [q2]⟩)
      · refine ⟨_, _, rfl, ?_, ans_plain _ _ _ _⟩
        exact AW_5 rfl (.inr ⟨q1, y, q2, by rw [q4]; rfl⟩)
      · obtain ⟨A', c', e', _, hD⟩ := dat_own q5 (F := fun k => dv.ownBlock = some k) (fun k hk => hk)
        injection e' with e' _
        subst e'
        refine ⟨_, _, rfl, ?_, ans_data hD fun j hj => ⟨Nat.le_trans (Nat.le_add_right _ 3) (own_ge q5 j hj), own_lt q5 j hj⟩⟩
        exact AW_5 rfl (.inr ⟨q1, y, q2, by rw [q4]; rfl⟩)
  by_cases d6 : d = 6
  · subst d6
    exact (want_head w r B L b0 P G bk ky pf fr _ id nn a fi mo (by omega) (by omega) hok hb0 hm hT).mono fun e w' h => by
      refine aw_ans (x := ⟨6, bk, ky, dt, nn, a, pf, fr, fi, mo⟩) hB hL0 h fun y dv hp => ?_
      obtain ⟨hp, rfl⟩ := hp
      refine ⟨_, _, rfl, ?_, ans_plain _ _ _ _⟩
      refine AW_6 rfl ?_
      rcases hp with ⟨q1, q2⟩ | ⟨q1, q2⟩
      · exact .inl ⟨q1, by rw [q2]⟩
      · exact .inr ⟨q1, y, q2, rfl⟩
  by_cases d9 : d = 9
  · subst d9
    exact (want_objs w r B L b0 P G bk ky pf fr _ id nn a fi mo (by omega) (by omega) hok hb0 hm (by omega) (by omega)).mono fun e w' h => by
      obtain ⟨⟨er, sv, m, k, i, o, he, hr, ht, hf⟩, hl⟩ := h
      refine ⟨⟨⟨er, kp0, [], o, m, k, i, []⟩, _, he, ?_, ⟨none, 0, sv, .slice none 0 0, rfl, ⟨fun _ => False, datF_nil _ _, fun _ h => h.elim⟩, hr, hf, strRow_nil _, no_slice⟩⟩, by rw [hB, hL0]; exact hl⟩
      exact AW_9 rfl (⟨rfl, rfl, rfl, ht⟩)
  by_cases d10 : d = 10
  · subst d10
    exact (want_vers w r B L b0 P G bk ky pf fr _ id nn a fi mo (by omega) (by omega) hok hb0 hm (by omega) (by omega)).mono fun e w' h => by
      obtain ⟨⟨er, sv, m, k, i, o, he, hr, ht, hf⟩, hl⟩ := h
      refine ⟨⟨⟨er, kp0, [], o, m, k, i, []⟩, _, he, ?_, ⟨none, 0, sv, .slice none 0 0, rfl, ⟨fun _ => False, datF_nil _ _, fun _ h => h.elim⟩, hr, hf, strRow_nil _, no_slice⟩⟩, by rw [hB, hL0]; exact hl⟩
      exact AW_10 rfl (⟨rfl, rfl, rfl, ht⟩)
  · exact (want_none w r B L b0 P G bk ky pf fr _ d id nn a fi mo (by omega) (by omega) hok hb0 hm d1 d2 d3 d4 d5 d6 d7 d8 d9 d10).mono fun e w' h =>
      aw_ans (x := ⟨d, bk, ky, dt, nn, a, pf, fr, fi, mo⟩) hB hL0 h fun y dv hp => (by obtain ⟨rfl, rfl⟩ := hp; exact ⟨_, _, rfl, AW_0 (by show ¬ (1 ≤ d ∧ d ≤ 10); omega) rfl, ans_plain _ _ _ _⟩)
end Go.Proofs.YtjbjcfnbgcloiaaGreatDoor
