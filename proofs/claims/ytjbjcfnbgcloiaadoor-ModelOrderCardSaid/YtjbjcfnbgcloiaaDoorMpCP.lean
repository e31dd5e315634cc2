/- bent of the statements of layer 22: choices, each one of a key. -/
import Derived.Test.YtjbjcfnbgcloiaaDoorMpAB
import Derived.Deep.RegionHeld3
import Derived.Deep.DrawnRows

set_option linter.unusedSimpArgs false
set_option linter.unusedVariables false
namespace Go.Proofs.YtjbjcfnbgcloiaaDoor
open Go.RowKit Nam YtjbjcfnbgcloiaaDoorW.PrintWords
attribute [local go_sem ↓] Go.wp_at_zero Go.wp_at_succ

def bareC (d : Int) : Ch := ⟨d, [], [], [], 0, 0, [], [], 0, 0⟩
theorem infoCh : (Tryd.prog.info? 33).map (fun i => (i.zero, i.size, i.bytes)) = some (some (.agg (chCells (bareC 0) (.slice none 0 0)).toArray), 10, 128) := by kernel_rfl
def bentD (d : Int) : Int := if (IntKind.u64.wrap d) % 3 = 0 then 4 else if (IntKind.u64.wrap d) % 3 = 1 then 7 else 8
def bentC (key : List UInt8) (x : Ch) : Ch := ⟨bentD x.d, abc, key, x.dt, 10 + (IntKind.u64.wrap x.n) % 30, 0, [], [], 0, 0⟩
theorem wrapU (d : Int) : 0 ≤ IntKind.u64.wrap d ∧ IntKind.u64.wrap d < 18446744073709551616 := by
  show 0 ≤ d % 18446744073709551616 ∧ d % 18446744073709551616 < 18446744073709551616
  omega
theorem bent_cases (d : Int) : ∃ q : Nat, q < 3 ∧ (IntKind.u64.wrap d).tmod 3 = (q : Int) ∧ (IntKind.u64.wrap d) % 3 = (q : Int) := by
  have h := wrapU d
  refine ⟨((IntKind.u64.wrap d) % 3).toNat, by omega, ?_, by omega⟩
  rw [Int.tmod_eq_emod_of_nonneg h.1]
  omega
theorem bent_num (d : Int) : ∃ q : Nat, q < 30 ∧ (IntKind.u64.wrap d).tmod 30 = (q : Int) ∧ (IntKind.u64.wrap d) % 30 = (q : Int) := by
  have h := wrapU d
  refine ⟨((IntKind.u64.wrap d) % 30).toNat, by omega, ?_, by omega⟩
  rw [Int.tmod_eq_emod_of_nonneg h.1]
  omega

theorem blk_new2 (w : World) (a b : Obj) : ((w.alloc a).alloc b).heap[w.heap.size + 1]? = some b := by
  have := blk_new (w.alloc a) b
  rwa [show (w.alloc a).heap.size = w.heap.size + 1 by simp] at this
theorem strongH {P : Program} {md : Region.Mode} {ops : Array Oper} {Q : Exit → Act → World → Prop} {S S' : World → Prop} (h : ∀ w, S' w → S w) : ∀ (fuel : Nat) (listed : Array Bool) (a : Act) (w : World), wpAnyH P md ops Q S' fuel listed a w → wpAnyH P md ops Q S fuel listed a w
  | 0, _, _, _, hw => hw
  | fuel + 1, _, _, _, hw => ⟨hw.1, fun i hi => wpOp_mono (fun a' w' h' => ⟨h _ h'.1, strongH h fuel _ a' w' h'.2⟩) (hw.2 i hi)⟩
structure BentSt (w0 w : World) (l : List Ch) (sv : Value) (wr : World) : Prop where
  b : Below w.heap.size w wr
  o : Kd.N kCh 33 wr w.heap.size (fun k => k < w0.heap.size ∨ w.heap.size ≤ k) sv l

set_option maxHeartbeats 1000000 in
set_option maxRecDepth 100000 in
theorem bent_is (l : List Ch) (key : List UInt8) (A : Option Addr) (c : Nat) (w0 w : World) (hl : l.length ≤ 100000) (hw : Below w0.heap.size w0 w) (hC : HasC w0 A l) :
    Calls Tryd.prog 14 #[.slice A l.length c, .string (mkS key)] w fun e w' => (∃ v, e = .returned v ∧ Kd.N kCh 33 w' w.heap.size (fun k => k < w0.heap.size ∨ w.heap.size ≤ k) v (l.map (bentC key))) ∧ Below w.heap.size w w' := by
  have HC := Lib.hid hC; clear hC
  have HW := Lib.hid hw; clear hw
  go_enter Tryd.func14, Tryd.ntmps14
  go_wp2_with fail
  go_loopw [5, 6] (fun vo vi wr => ∃ (j : Nat) (sv : Value), sv = vo ∧ vi = .int .i64 j ∧ j ≤ l.length ∧ Hid (BentSt w0 w ((l.take j).map (bentC key)) sv wr)) (fun _ vi _ => l.length - (intOf vi).toNat)
  case atStart => exact ⟨0, _, rfl, rfl, Nat.zero_le _, ⟨Below.refl _ _, Kd.N_nil _ _ _ _ _⟩⟩
  case round =>
    obtain ⟨j, sv, hsv, rfl, hj, HS⟩ := hrel
    subst hsv
    by_cases hlt : j < l.length
    · have hltz : (j : Int) < (l.length : Int) := by omega
      obtain ⟨ad, A3, c3_, hA, hdt, hcell⟩ := at_Ch (HC.out w0 (Below.refl _ _)) j hlt
      subst hA
      obtain ⟨x, hx⟩ : ∃ x, l[j] = x := ⟨_, rfl⟩
      rw [hx] at hdt hcell
      have htk : (l.take (j + 1)).map (bentC key) = (l.take j).map (bentC key) ++ [bentC key x] := by rw [List.take_succ_eq_append_getElem hlt, hx, List.map_append]; rfl
      have hSf : ∀ V, Below w.heap.size w V → V.cell? (ad.add (j * 10)) = some (.int .i64 x.d) ∧ V.cell? ⟨(ad.add (j * 10)).block, (ad.add (j * 10)).off + 3, none⟩ = some (.slice A3 (byN x.dt).length c3_) ∧ V.cell? ⟨(ad.add (j * 10)).block, (ad.add (j * 10)).off + 4, none⟩ = some (.int .i64 x.n) := fun V hV => by
        have kk : ∀ p u, w0.cell? p = some u → V.cell? p = some u := fun p u h => ((HW.out.trans (hV.mono HW.out.size)).cell (World.block_lt_of_cell? w0 _ h)).trans h
        have cf : ∀ i u, (chCells x (.slice A3 (byN x.dt).length c3_))[i + 1]? = some u → V.cell? ⟨(ad.add (j * 10)).block, (ad.add (j * 10)).off + (i + 1), none⟩ = some u := fun i u hu => by
          rw [← add_field _ _ (i + 1) (by omega)]; exact kk _ _ (hcell (i + 1) u hu)
        exact ⟨kk _ _ (hcell 0 _ rfl), cf 2 _ rfl, cf 3 _ rfl⟩
      have HSF := Lib.hid hSf
      have HTK := Lib.hid htk
      obtain ⟨q, hq3, hq1, hq2⟩ := bent_cases x.d
      obtain ⟨m, hm3, hm1, hm2⟩ := bent_num x.n
      have hb0d : Below w.heap.size w wr.drew := HS.out.b.drew
      obtain ⟨s0, s1, s2⟩ := hSf _ HS.out.b
      have HDT : Hid (Dt w0 (fun k => k < w0.heap.size) (.slice A3 (byN x.dt).length c3_) x.dt) := Kd.V_mono (Kd.V_bound hdt) (fun k hk => hk.2)
      have HOW : Hid (∀ k, sv.ownBlock = some k → w.heap.size ≤ k) := Kd.N_base HS.out.o
      have hl2 : (((l.take j).map (bentC key)).length + 1) * 128 ≤ 140737488355328 := by rw [List.length_map, List.length_take]; omega
      clear htk hSf hcell hx hdt
      go_wp2_with fail
      have wm : IntKind.i64.wrap (m : Int) = m := IntWalk.i64_in _ (by omega)
      have wm2 : IntKind.i64.wrap (10 + (m : Int)) = 10 + m := IntWalk.i64_in _ (by omega)
      have hqq : q = 0 ∨ q = 1 ∨ q = 2 := by omega
      rcases hqq with rfl | rfl | rfl
      · have hd0 : Hid (bentD x.d = 4) := by show _ = _; unfold bentD; rw [hq2]; rfl
        refine wp_region_held_drew (S := fun V => V.cell? (ad.add (j * 10)) = some (.int .i64 x.d) ∧ V.cell? ⟨(ad.add (j * 10)).block, (ad.add (j * 10)).off + 3, none⟩ = some (.slice A3 (byN x.dt).length c3_) ∧ V.cell? ⟨(ad.add (j * 10)).block, (ad.add (j * 10)).off + 4, none⟩ = some (.int .i64 x.n)) (by kernel_rfl) (HSF.out _ hb0d) (fun hHeld => ?_)
        refine wpAnyH_take (i := 1) (v := ?_) rfl (by kernel_rfl) (by kernel_rfl) (by kernel_rfl) (fun _ _ _ h => h) (Or.inl ⟨by rfl, ?_⟩) (by assumption) ?_
        rotate_left
        · (intro V hSw; (try dsimp only at hSw); go_simp) <;> with_reducible rfl
        try simp only [Act.put, List.setIfInBounds_toArray, List.set_cons_zero, List.set_cons_succ]
        refine wpAnyH_take (i := 2) (v := ?_) rfl (by kernel_rfl) (by kernel_rfl) (by kernel_rfl) (fun _ _ _ h => h) (Or.inl ⟨by rfl, ?_⟩) (by assumption) ?_
        rotate_left
        · (intro V hSw; (try dsimp only at hSw); go_simp) <;> with_reducible rfl
        try simp only [Act.put, List.setIfInBounds_toArray, List.set_cons_zero, List.set_cons_succ]
        refine wpAnyH_take (i := 3) (v := ?_) rfl (by kernel_rfl) (by kernel_rfl) (by kernel_rfl) (fun _ _ _ h => h) (Or.inl ⟨by rfl, ?_⟩) (by assumption) ?_
        rotate_left
        · (intro V hSw; (try dsimp only at hSw); go_simp) <;> with_reducible rfl
        try simp only [Act.put, List.setIfInBounds_toArray, List.set_cons_zero, List.set_cons_succ]
        refine wpAnyH_take (i := 4) (v := ?_) rfl (by kernel_rfl) (by kernel_rfl) (by kernel_rfl) (fun _ _ _ h => h) (Or.inl ⟨by rfl, ?_⟩) (by assumption) ?_
        rotate_left
        · (intro V hSw; (try dsimp only at hSw); go_simp) <;> with_reducible rfl
        try simp only [Act.put, List.setIfInBounds_toArray, List.set_cons_zero, List.set_cons_succ]
        refine wpAnyH_take (i := 5) (v := ?_) rfl (by kernel_rfl) (by kernel_rfl) (by kernel_rfl) (fun _ _ _ h => h) (Or.inl ⟨by rfl, ?_⟩) (by assumption) ?_
        rotate_left
        · (intro V hSw; (try dsimp only at hSw); go_simp) <;> with_reducible rfl
        try simp only [Act.put, List.setIfInBounds_toArray, List.set_cons_zero, List.set_cons_succ]
        refine wpAnyH_take (i := 6) (v := ?_) rfl (by kernel_rfl) (by kernel_rfl) (by kernel_rfl) (fun _ _ _ h => h) (Or.inl ⟨by rfl, ?_⟩) (by assumption) ?_
        rotate_left
        · (intro V hSw; (try dsimp only at hSw); go_simp) <;> with_reducible rfl
        try simp only [Act.put, List.setIfInBounds_toArray, List.set_cons_zero, List.set_cons_succ]
        refine wpAnyH_take (i := 7) (v := ?_) rfl (by kernel_rfl) (by kernel_rfl) (by kernel_rfl) (fun _ _ _ h => h) (Or.inl ⟨by rfl, ?_⟩) (by assumption) ?_
        rotate_left
        · (intro V hSw; (try dsimp only at hSw); go_simp) <;> with_reducible rfl
        try simp only [Act.put, List.setIfInBounds_toArray, List.set_cons_zero, List.set_cons_succ]
        refine wpAnyH_take (i := 10) (v := ?_) rfl (by kernel_rfl) (by kernel_rfl) (by kernel_rfl) (fun _ _ _ h => h) (Or.inl ⟨by rfl, ?_⟩) (by assumption) ?_
        rotate_left
        · (intro V hSw; (try dsimp only at hSw); go_simp) <;> with_reducible rfl
        try simp only [Act.put, List.setIfInBounds_toArray, List.set_cons_zero, List.set_cons_succ]
        refine wpAnyH_take (i := 11) (v := ?_) rfl (by kernel_rfl) (by kernel_rfl) (by kernel_rfl) (fun _ _ _ h => h) (Or.inl ⟨by rfl, ?_⟩) (by assumption) ?_
        rotate_left
        · (intro V hSw; (try dsimp only at hSw); go_simp) <;> with_reducible rfl
        try simp only [Act.put, List.setIfInBounds_toArray, List.set_cons_zero, List.set_cons_succ]
        refine wpAnyH_take (i := 12) (v := ?_) rfl (by kernel_rfl) (by kernel_rfl) (by kernel_rfl) (fun _ _ _ h => h) (Or.inl ⟨by rfl, ?_⟩) (by assumption) ?_
        rotate_left
        · (intro V hSw; (try dsimp only at hSw); go_simp) <;> with_reducible rfl
        try simp only [Act.put, List.setIfInBounds_toArray, List.set_cons_zero, List.set_cons_succ]
        refine wpAnyH_take (i := 13) (v := ?_) rfl (by kernel_rfl) (by kernel_rfl) (by kernel_rfl) (fun _ _ _ h => h) (Or.inl ⟨by rfl, ?_⟩) (by assumption) ?_
        rotate_left
        · (intro V hSw; (try dsimp only at hSw); go_simp) <;> with_reducible rfl
        try simp only [Act.put, List.setIfInBounds_toArray, List.set_cons_zero, List.set_cons_succ]
        refine wpAnyH_take (i := 14) (v := ?_) rfl (by kernel_rfl) (by kernel_rfl) (by kernel_rfl) (fun _ _ _ h => h) (Or.inl ⟨by rfl, ?_⟩) (by assumption) ?_
        rotate_left
        · (intro V hSw; (try dsimp only at hSw); go_simp) <;> with_reducible rfl
        try simp only [Act.put, List.setIfInBounds_toArray, List.set_cons_zero, List.set_cons_succ]
        refine wpAnyH_take (i := 15) (v := ?_) rfl (by kernel_rfl) (by kernel_rfl) (by kernel_rfl) (fun _ _ _ h => h) (Or.inl ⟨by rfl, ?_⟩) (by assumption) ?_
        rotate_left
        · (intro V hSw; (try dsimp only at hSw); go_simp) <;> with_reducible rfl
        try simp only [Act.put, List.setIfInBounds_toArray, List.set_cons_zero, List.set_cons_succ]
        refine wpAnyH_take (i := 16) (v := ?_) rfl (by kernel_rfl) (by kernel_rfl) (by kernel_rfl) (fun _ _ _ h => h) (Or.inl ⟨by rfl, ?_⟩) (by assumption) ?_
        rotate_left
        · (intro V hSw; (try dsimp only at hSw); go_simp) <;> with_reducible rfl
        try simp only [Act.put, List.setIfInBounds_toArray, List.set_cons_zero, List.set_cons_succ]
        refine wpAnyH_take (i := 17) (v := ?_) rfl (by kernel_rfl) (by kernel_rfl) (by kernel_rfl) (fun _ _ _ h => h) (Or.inl ⟨by rfl, ?_⟩) (by assumption) ?_
        rotate_left
        · (intro V hSw; (try dsimp only at hSw); go_simp) <;> with_reducible rfl
        try simp only [Act.put, List.setIfInBounds_toArray, List.set_cons_zero, List.set_cons_succ]
        refine wpAnyH_take (i := 18) (v := ?_) rfl (by kernel_rfl) (by kernel_rfl) (by kernel_rfl) (fun _ _ _ h => h) (Or.inl ⟨by rfl, ?_⟩) (by assumption) ?_
        rotate_left
        · (intro V hSw; (try dsimp only at hSw); go_simp) <;> with_reducible rfl
        try simp only [Act.put, List.setIfInBounds_toArray, List.set_cons_zero, List.set_cons_succ]
        refine wpAnyH_take (i := 19) (v := ?_) rfl (by kernel_rfl) (by kernel_rfl) (by kernel_rfl) (fun _ _ _ h => h) (Or.inl ⟨by rfl, ?_⟩) (by assumption) ?_
        rotate_left
        · (intro V hSw; (try dsimp only at hSw); go_simp) <;> with_reducible rfl
        try simp only [Act.put, List.setIfInBounds_toArray, List.set_cons_zero, List.set_cons_succ]
        refine wpAnyH_take (i := 20) (v := ?_) rfl (by kernel_rfl) (by kernel_rfl) (by kernel_rfl) (fun _ _ _ h => h) (Or.inl ⟨by rfl, ?_⟩) (by assumption) ?_
        rotate_left
        · (intro V hSw; (try dsimp only at hSw); go_simp) <;> with_reducible rfl
        try simp only [Act.put, List.setIfInBounds_toArray, List.set_cons_zero, List.set_cons_succ]
        refine wpAnyH_take (i := 21) (v := ?_) rfl (by kernel_rfl) (by kernel_rfl) (by kernel_rfl) (fun _ _ _ h => h) (Or.inl ⟨by rfl, ?_⟩) (by assumption) ?_
        rotate_left
        · (intro V hSw; (try dsimp only at hSw); go_simp) <;> with_reducible rfl
        try simp only [Act.put, List.setIfInBounds_toArray, List.set_cons_zero, List.set_cons_succ]
        refine wpAnyH_take (i := 22) (v := ?_) rfl (by kernel_rfl) (by kernel_rfl) (by kernel_rfl) (fun _ _ _ h => h) (Or.inl ⟨by rfl, ?_⟩) (by assumption) ?_
        rotate_left
        · (intro V hSw; (try dsimp only at hSw); go_simp) <;> with_reducible rfl
        try simp only [Act.put, List.setIfInBounds_toArray, List.set_cons_zero, List.set_cons_succ]
        refine wpAnyH_take (i := 23) (v := ?_) rfl (by kernel_rfl) (by kernel_rfl) (by kernel_rfl) (fun _ _ _ h => h) (Or.inl ⟨by rfl, ?_⟩) (by assumption) ?_
        rotate_left
        · (intro V hSw; (try dsimp only at hSw); go_simp) <;> with_reducible rfl
        try simp only [Act.put, List.setIfInBounds_toArray, List.set_cons_zero, List.set_cons_succ]
        refine wpAnyH_take (i := 24) (v := ?_) rfl (by kernel_rfl) (by kernel_rfl) (by kernel_rfl) (fun _ _ _ h => h) (Or.inl ⟨by rfl, ?_⟩) (by assumption) ?_
        rotate_left
        · (intro V hSw; (try dsimp only at hSw); go_simp) <;> with_reducible rfl
        try simp only [Act.put, List.setIfInBounds_toArray, List.set_cons_zero, List.set_cons_succ]
        refine wpAnyH_ready (rs := [0, 26]) (by kernel_rfl) (by simp) ?_
        refine AllReadyH.cons rfl (fun K hK => ?_) ?_
        · go_simp
          refine hK.out _ _ (HSF.out _ (by repeat (first | exact HS.out.b | refine Below.drew ?_ | refine Below.alloc ?_ (by have := HS.out.b.size; simp; omega) _))) (fun hHeldA => ?_)
          clear hK K
          try simp only [Act.put, List.setIfInBounds_toArray, List.set_cons_zero, List.set_cons_succ]
          refine strongH (S' := fun V => (fun V => V.cell? (ad.add (j * 10)) = some (.int .i64 x.d) ∧ V.cell? ⟨(ad.add (j * 10)).block, (ad.add (j * 10)).off + 3, none⟩ = some (.slice A3 (byN x.dt).length c3_) ∧ V.cell? ⟨(ad.add (j * 10)).block, (ad.add (j * 10)).off + 4, none⟩ = some (.int .i64 x.n)) V ∧ V.cell? ⟨wr.heap.size, 0, none⟩ = some (.int .i64 4)) (fun _ h => h.1) _ _ _ _ ?_
          have hHeldS : (fun V => (fun V => V.cell? (ad.add (j * 10)) = some (.int .i64 x.d) ∧ V.cell? ⟨(ad.add (j * 10)).block, (ad.add (j * 10)).off + 3, none⟩ = some (.slice A3 (byN x.dt).length c3_) ∧ V.cell? ⟨(ad.add (j * 10)).block, (ad.add (j * 10)).off + 4, none⟩ = some (.int .i64 x.n)) V ∧ V.cell? ⟨wr.heap.size, 0, none⟩ = some (.int .i64 4)) (wr.alloc (.cells #[.int .i64 4, .int .i64 7, .int .i64 8] 3)).drew := ⟨hHeldA, (blk_cell (blk_new wr (.cells #[.int .i64 4, .int .i64 7, .int .i64 8] 3)) 0).trans rfl⟩
          refine wpAnyH_take (i := 8) (v := ?_) rfl (by kernel_rfl) (by kernel_rfl) (by kernel_rfl) (fun _ _ _ h => h) (Or.inl ⟨by rfl, ?_⟩) (by assumption) ?_
          rotate_left
          · (intro V hSw; (try dsimp only at hSw); go_simp) <;> with_reducible rfl
          try simp only [Act.put, List.setIfInBounds_toArray, List.set_cons_zero, List.set_cons_succ]
          refine wpAnyH_take (i := 9) (v := ?_) rfl (by kernel_rfl) (by kernel_rfl) (by kernel_rfl) (fun _ _ _ h => h) (Or.inl ⟨by rfl, ?_⟩) (by assumption) ?_
          rotate_left
          · (intro V hSw; (try dsimp only at hSw); go_simp) <;> with_reducible rfl
          try simp only [Act.put, List.setIfInBounds_toArray, List.set_cons_zero, List.set_cons_succ]
          refine wpAnyH_take (i := 25) (v := ?_) rfl (by kernel_rfl) (by kernel_rfl) (by kernel_rfl) (fun _ _ _ h => h) (Or.inl ⟨by rfl, ?_⟩) (by assumption) ?_
          rotate_left
          · (intro V hSw; (try dsimp only at hSw); go_simp) <;> with_reducible rfl
          try simp only [Act.put, List.setIfInBounds_toArray, List.set_cons_zero, List.set_cons_succ]
          refine wpAnyH_ready (rs := [26]) (by kernel_rfl) (by simp) ?_
          refine AllReadyH.cons rfl (fun K hK => ?_) AllReadyH.nil
          go_simp
          refine hK.out _ _ ⟨HSF.out _ (by repeat (first | exact HS.out.b | refine Below.drew ?_ | refine Below.alloc ?_ (by have := HS.out.b.size; simp; omega) _)), (blk_cell (blk_alloc (blk_new wr (.cells #[.int .i64 4, .int .i64 7, .int .i64 8] 3)) (.cells #[.int .i64 0, .string ⟨#[]⟩, .string ⟨#[]⟩, .slice none 0 0, .int .i64 0, .int .i64 0, .string ⟨#[]⟩, .string ⟨#[]⟩, .int .i64 0, .int .i64 0] 33)) 0).trans rfl⟩ (fun hHeldB => ?_)
          clear hK K
          try simp only [Act.put, List.setIfInBounds_toArray, List.set_cons_zero, List.set_cons_succ]
          refine wpAnyH_ready (rs := [27]) (by kernel_rfl) (by simp) ?_
          refine AllReadyH.cons rfl (fun K hK => ?_) AllReadyH.nil
          go_simp
          refine hK.out _ _ ⟨HSF.out _ (by repeat (first | exact HS.out.b | refine Below.drew ?_ | refine Below.alloc ?_ (by have := HS.out.b.size; simp; omega) _)), (blk_cell (blk_alloc (blk_new wr (.cells #[.int .i64 4, .int .i64 7, .int .i64 8] 3)) (.cells #[.int .i64 4, .string ⟨#[97, 98, 99]⟩, .string (mkS key), .slice A3 (byN x.dt).length c3_, .int .i64 (10 + (m : Int)), .int .i64 0, .string ⟨#[]⟩, .string ⟨#[]⟩, .int .i64 0, .int .i64 0] 33)) 0).trans rfl⟩ (fun hHeldC => ?_)
          clear hK K
          try simp only [Act.put, List.setIfInBounds_toArray, List.set_cons_zero, List.set_cons_succ]
          refine wpAnyH_done (by kernel_rfl) ?_ _
          clear hHeld hHeldA hHeldS hHeldB hHeldC
          obtain ⟨W9, hW9⟩ : ∃ W9, ((wr.alloc (.cells #[.int .i64 4, .int .i64 7, .int .i64 8] 3)).alloc (.cells #[.int .i64 4, .string ⟨#[97, 98, 99]⟩, .string (mkS key), .slice A3 (byN x.dt).length c3_, .int .i64 (10 + (m : Int)), .int .i64 0, .string ⟨#[]⟩, .string ⟨#[]⟩, .int .i64 0, .int .i64 0] 33)).drew = W9 := ⟨_, rfl⟩
          have HB9 : Hid (Below w.heap.size w W9) := by rw [← hW9]; exact (by repeat (first | exact HS.out.b | refine Below.drew ?_ | refine Below.alloc ?_ (by have := HS.out.b.size; simp; omega) _))
          have hb9 : Below wr.heap.size wr W9 := by rw [← hW9]; repeat (first | exact Below.refl _ _ | refine Below.drew ?_ | refine Below.alloc ?_ (by simp) _)
          have hk9 : W9.heap[wr.heap.size + 1]? = some (.cells #[.int .i64 4, .string ⟨#[97, 98, 99]⟩, .string (mkS key), .slice A3 (byN x.dt).length c3_, .int .i64 (10 + (m : Int)), .int .i64 0, .string ⟨#[]⟩, .string ⟨#[]⟩, .int .i64 0, .int .i64 0] 33 (0, 0)) := by rw [← hW9]; exact blk_new2 wr (.cells #[.int .i64 4, .int .i64 7, .int .i64 8] 3) (.cells #[.int .i64 4, .string ⟨#[97, 98, 99]⟩, .string (mkS key), .slice A3 (byN x.dt).length c3_, .int .i64 (10 + (m : Int)), .int .i64 0, .string ⟨#[]⟩, .string ⟨#[]⟩, .int .i64 0, .int .i64 0] 33)
          rw [hW9]
          clear hW9
          obtain ⟨c0, c1, c2, c3, c4, c5, c6, c7, c8, c9⟩ : ChAt W9 (wr.heap.size + 1) 4 abc key (.slice A3 (byN x.dt).length c3_) (10 + (m : Int)) 0 [] [] 0 0 := chAt_of hk9
          have HO9 : Hid (Kd.N kCh 33 W9 w.heap.size (fun k => k < w0.heap.size ∨ w.heap.size ≤ k) sv ((l.take j).map (bentC key))) := Kd.N_below HS.out.o hb9
          have HFK : Hid (Kd.FK kCh W9 (fun k => k < w0.heap.size) ⟨4, abc, key, x.dt, 10 + (m : Int), 0, [], [], 0, 0⟩ (chCells ⟨4, abc, key, x.dt, 10 + (m : Int), 0, [], [], 0, 0⟩ (.slice A3 (byN x.dt).length c3_))) := kCh_mkF (Kd.V_below HDT.out (HW.out.trans (HB9.out.mono HW.out.size)))
          have HEQ : Hid (bentC key x = ⟨4, abc, key, x.dt, 10 + (m : Int), 0, [], [], 0, 0⟩) := by show _ = _; unfold bentC; rw [hd0.out, hm2]
          clear hk9 hb9 hm1 hm2 hq1 hq2 wm wm2
          go_wp2_with (at_builtin; refine Kd.N_append kCh (w0 := w) w.heap.size rfl (.tmp 40) (.tmp 42) 22 33 (.agg (chCells (bareC 0) (.slice none 0 0)).toArray) 128 rfl Tryd.underlying22 infoCh rfl (by decide) (by omega) sv ((l.take j).map (bentC key)) ⟨4, abc, key, x.dt, 10 + (m : Int), 0, [], [], 0, 0⟩ (chCells ⟨4, abc, key, x.dt, 10 + (m : Int), 0, [], [], 0, 0⟩ (.slice A3 (byN x.dt).length c3_)) (fun k => k < w0.heap.size ∨ w.heap.size ≤ k) (fun k => k < w0.heap.size) rfl rfl HFK.out (fun k hk => ⟨.inl hk, fun e => by have := HOW.out k e.symm; have := HW.out.size; omega⟩) (fun k hk => .inr (by have := HB9.out.size; omega)) HO9.out HB9.out HB9.out.size hl2 ?_; intro v1 w5 hN5 hb5 hg5 hat5)
          have HS5 : Hid (BentSt w0 w ((l.take (j + 1)).map (bentC key)) v1 w5) := ⟨hb5, by rw [HTK.out, HEQ.out]; exact hN5⟩
          clear hN5 hb5 hg5 hat5
          go_wp2_with fail
          go_roundw
          case rel => exact ⟨j + 1, v1, rfl, by go_num, by omega, HS5⟩
          case measure => simp [intOf]; omega
        · refine AllReadyH.cons rfl (fun K hK => ?_) AllReadyH.nil
          go_simp
          refine hK.out _ _ (HSF.out _ (by repeat (first | exact HS.out.b | refine Below.drew ?_ | refine Below.alloc ?_ (by have := HS.out.b.size; simp; omega) _))) (fun hHeldA => ?_)
          clear hK K
          try simp only [Act.put, List.setIfInBounds_toArray, List.set_cons_zero, List.set_cons_succ]
          refine wpAnyH_ready (rs := [0]) (by kernel_rfl) (by simp) ?_
          refine AllReadyH.cons rfl (fun K hK => ?_) AllReadyH.nil
          go_simp
          refine hK.out _ _ (HSF.out _ (by repeat (first | exact HS.out.b | refine Below.drew ?_ | refine Below.alloc ?_ (by have := HS.out.b.size; simp; omega) _))) (fun hHeldB => ?_)
          clear hK K
          try simp only [Act.put, List.setIfInBounds_toArray, List.set_cons_zero, List.set_cons_succ]
          refine strongH (S' := fun V => (fun V => V.cell? (ad.add (j * 10)) = some (.int .i64 x.d) ∧ V.cell? ⟨(ad.add (j * 10)).block, (ad.add (j * 10)).off + 3, none⟩ = some (.slice A3 (byN x.dt).length c3_) ∧ V.cell? ⟨(ad.add (j * 10)).block, (ad.add (j * 10)).off + 4, none⟩ = some (.int .i64 x.n)) V ∧ V.cell? ⟨wr.heap.size + 1, 0, none⟩ = some (.int .i64 4)) (fun _ h => h.1) _ _ _ _ ?_
          have hHeldS : (fun V => (fun V => V.cell? (ad.add (j * 10)) = some (.int .i64 x.d) ∧ V.cell? ⟨(ad.add (j * 10)).block, (ad.add (j * 10)).off + 3, none⟩ = some (.slice A3 (byN x.dt).length c3_) ∧ V.cell? ⟨(ad.add (j * 10)).block, (ad.add (j * 10)).off + 4, none⟩ = some (.int .i64 x.n)) V ∧ V.cell? ⟨wr.heap.size + 1, 0, none⟩ = some (.int .i64 4)) ((wr.alloc (.cells #[.int .i64 0, .string ⟨#[]⟩, .string ⟨#[]⟩, .slice none 0 0, .int .i64 0, .int .i64 0, .string ⟨#[]⟩, .string ⟨#[]⟩, .int .i64 0, .int .i64 0] 33)).alloc (.cells #[.int .i64 4, .int .i64 7, .int .i64 8] 3)).drew := ⟨hHeldB, (blk_cell (blk_new2 wr (.cells #[.int .i64 0, .string ⟨#[]⟩, .string ⟨#[]⟩, .slice none 0 0, .int .i64 0, .int .i64 0, .string ⟨#[]⟩, .string ⟨#[]⟩, .int .i64 0, .int .i64 0] 33) (.cells #[.int .i64 4, .int .i64 7, .int .i64 8] 3)) 0).trans rfl⟩
          refine wpAnyH_take (i := 8) (v := ?_) rfl (by kernel_rfl) (by kernel_rfl) (by kernel_rfl) (fun _ _ _ h => h) (Or.inl ⟨by rfl, ?_⟩) (by assumption) ?_
          rotate_left
          · (intro V hSw; (try dsimp only at hSw); go_simp) <;> with_reducible rfl
          try simp only [Act.put, List.setIfInBounds_toArray, List.set_cons_zero, List.set_cons_succ]
          refine wpAnyH_take (i := 9) (v := ?_) rfl (by kernel_rfl) (by kernel_rfl) (by kernel_rfl) (fun _ _ _ h => h) (Or.inl ⟨by rfl, ?_⟩) (by assumption) ?_
          rotate_left
          · (intro V hSw; (try dsimp only at hSw); go_simp) <;> with_reducible rfl
          try simp only [Act.put, List.setIfInBounds_toArray, List.set_cons_zero, List.set_cons_succ]
          refine wpAnyH_take (i := 25) (v := ?_) rfl (by kernel_rfl) (by kernel_rfl) (by kernel_rfl) (fun _ _ _ h => h) (Or.inl ⟨by rfl, ?_⟩) (by assumption) ?_
          rotate_left
          · (intro V hSw; (try dsimp only at hSw); go_simp) <;> with_reducible rfl
          try simp only [Act.put, List.setIfInBounds_toArray, List.set_cons_zero, List.set_cons_succ]
          refine wpAnyH_ready (rs := [27]) (by kernel_rfl) (by simp) ?_
          refine AllReadyH.cons rfl (fun K hK => ?_) AllReadyH.nil
          go_simp
          refine hK.out _ _ ⟨HSF.out _ (by repeat (first | exact HS.out.b | refine Below.drew ?_ | refine Below.alloc ?_ (by have := HS.out.b.size; simp; omega) _)), (blk_cell (blk_new2 wr (.cells #[.int .i64 4, .string ⟨#[97, 98, 99]⟩, .string (mkS key), .slice A3 (byN x.dt).length c3_, .int .i64 (10 + (m : Int)), .int .i64 0, .string ⟨#[]⟩, .string ⟨#[]⟩, .int .i64 0, .int .i64 0] 33) (.cells #[.int .i64 4, .int .i64 7, .int .i64 8] 3)) 0).trans rfl⟩ (fun hHeldC => ?_)
          clear hK K
          try simp only [Act.put, List.setIfInBounds_toArray, List.set_cons_zero, List.set_cons_succ]
          refine wpAnyH_done (by kernel_rfl) ?_ _
          clear hHeld hHeldA hHeldS hHeldB hHeldC
          obtain ⟨W9, hW9⟩ : ∃ W9, ((wr.alloc (.cells #[.int .i64 4, .string ⟨#[97, 98, 99]⟩, .string (mkS key), .slice A3 (byN x.dt).length c3_, .int .i64 (10 + (m : Int)), .int .i64 0, .string ⟨#[]⟩, .string ⟨#[]⟩, .int .i64 0, .int .i64 0] 33)).alloc (.cells #[.int .i64 4, .int .i64 7, .int .i64 8] 3)).drew = W9 := ⟨_, rfl⟩
          have HB9 : Hid (Below w.heap.size w W9) := by rw [← hW9]; exact (by repeat (first | exact HS.out.b | refine Below.drew ?_ | refine Below.alloc ?_ (by have := HS.out.b.size; simp; omega) _))
          have hb9 : Below wr.heap.size wr W9 := by rw [← hW9]; repeat (first | exact Below.refl _ _ | refine Below.drew ?_ | refine Below.alloc ?_ (by simp) _)
          have hk9 : W9.heap[wr.heap.size]? = some (.cells #[.int .i64 4, .string ⟨#[97, 98, 99]⟩, .string (mkS key), .slice A3 (byN x.dt).length c3_, .int .i64 (10 + (m : Int)), .int .i64 0, .string ⟨#[]⟩, .string ⟨#[]⟩, .int .i64 0, .int .i64 0] 33 (0, 0)) := by rw [← hW9]; exact blk_alloc (blk_new wr (.cells #[.int .i64 4, .string ⟨#[97, 98, 99]⟩, .string (mkS key), .slice A3 (byN x.dt).length c3_, .int .i64 (10 + (m : Int)), .int .i64 0, .string ⟨#[]⟩, .string ⟨#[]⟩, .int .i64 0, .int .i64 0] 33)) (.cells #[.int .i64 4, .int .i64 7, .int .i64 8] 3)
          rw [hW9]
          clear hW9
          obtain ⟨c0, c1, c2, c3, c4, c5, c6, c7, c8, c9⟩ : ChAt W9 (wr.heap.size) 4 abc key (.slice A3 (byN x.dt).length c3_) (10 + (m : Int)) 0 [] [] 0 0 := chAt_of hk9
          have HO9 : Hid (Kd.N kCh 33 W9 w.heap.size (fun k => k < w0.heap.size ∨ w.heap.size ≤ k) sv ((l.take j).map (bentC key))) := Kd.N_below HS.out.o hb9
          have HFK : Hid (Kd.FK kCh W9 (fun k => k < w0.heap.size) ⟨4, abc, key, x.dt, 10 + (m : Int), 0, [], [], 0, 0⟩ (chCells ⟨4, abc, key, x.dt, 10 + (m : Int), 0, [], [], 0, 0⟩ (.slice A3 (byN x.dt).length c3_))) := kCh_mkF (Kd.V_below HDT.out (HW.out.trans (HB9.out.mono HW.out.size)))
          have HEQ : Hid (bentC key x = ⟨4, abc, key, x.dt, 10 + (m : Int), 0, [], [], 0, 0⟩) := by show _ = _; unfold bentC; rw [hd0.out, hm2]
          clear hk9 hb9 hm1 hm2 hq1 hq2 wm wm2
          go_wp2_with (at_builtin; refine Kd.N_append kCh (w0 := w) w.heap.size rfl (.tmp 40) (.tmp 42) 22 33 (.agg (chCells (bareC 0) (.slice none 0 0)).toArray) 128 rfl Tryd.underlying22 infoCh rfl (by decide) (by omega) sv ((l.take j).map (bentC key)) ⟨4, abc, key, x.dt, 10 + (m : Int), 0, [], [], 0, 0⟩ (chCells ⟨4, abc, key, x.dt, 10 + (m : Int), 0, [], [], 0, 0⟩ (.slice A3 (byN x.dt).length c3_)) (fun k => k < w0.heap.size ∨ w.heap.size ≤ k) (fun k => k < w0.heap.size) rfl rfl HFK.out (fun k hk => ⟨.inl hk, fun e => by have := HOW.out k e.symm; have := HW.out.size; omega⟩) (fun k hk => .inr (by have := HB9.out.size; omega)) HO9.out HB9.out HB9.out.size hl2 ?_; intro v1 w5 hN5 hb5 hg5 hat5)
          have HS5 : Hid (BentSt w0 w ((l.take (j + 1)).map (bentC key)) v1 w5) := ⟨hb5, by rw [HTK.out, HEQ.out]; exact hN5⟩
          clear hN5 hb5 hg5 hat5
          go_wp2_with fail
          go_roundw
          case rel => exact ⟨j + 1, v1, rfl, by go_num, by omega, HS5⟩
          case measure => simp [intOf]; omega
      · have hd0 : Hid (bentD x.d = 7) := by show _ = _; unfold bentD; rw [hq2]; rfl
        refine wp_region_held_drew (S := fun V => V.cell? (ad.add (j * 10)) = some (.int .i64 x.d) ∧ V.cell? ⟨(ad.add (j * 10)).block, (ad.add (j * 10)).off + 3, none⟩ = some (.slice A3 (byN x.dt).length c3_) ∧ V.cell? ⟨(ad.add (j * 10)).block, (ad.add (j * 10)).off + 4, none⟩ = some (.int .i64 x.n)) (by kernel_rfl) (HSF.out _ hb0d) (fun hHeld => ?_)
        refine wpAnyH_take (i := 1) (v := ?_) rfl (by kernel_rfl) (by kernel_rfl) (by kernel_rfl) (fun _ _ _ h => h) (Or.inl ⟨by rfl, ?_⟩) (by assumption) ?_
        rotate_left
        · (intro V hSw; (try dsimp only at hSw); go_simp) <;> with_reducible rfl
        try simp only [Act.put, List.setIfInBounds_toArray, List.set_cons_zero, List.set_cons_succ]
        refine wpAnyH_take (i := 2) (v := ?_) rfl (by kernel_rfl) (by kernel_rfl) (by kernel_rfl) (fun _ _ _ h => h) (Or.inl ⟨by rfl, ?_⟩) (by assumption) ?_
        rotate_left
        · (intro V hSw; (try dsimp only at hSw); go_simp) <;> with_reducible rfl
        try simp only [Act.put, List.setIfInBounds_toArray, List.set_cons_zero, List.set_cons_succ]
        refine wpAnyH_take (i := 3) (v := ?_) rfl (by kernel_rfl) (by kernel_rfl) (by kernel_rfl) (fun _ _ _ h => h) (Or.inl ⟨by rfl, ?_⟩) (by assumption) ?_
        rotate_left
        · (intro V hSw; (try dsimp only at hSw); go_simp) <;> with_reducible rfl
        try simp only [Act.put, List.setIfInBounds_toArray, List.set_cons_zero, List.set_cons_succ]
        refine wpAnyH_take (i := 4) (v := ?_) rfl (by kernel_rfl) (by kernel_rfl) (by kernel_rfl) (fun _ _ _ h => h) (Or.inl ⟨by rfl, ?_⟩) (by assumption) ?_
        rotate_left
        · (intro V hSw; (try dsimp only at hSw); go_simp) <;> with_reducible rfl
        try simp only [Act.put, List.setIfInBounds_toArray, List.set_cons_zero, List.set_cons_succ]
        refine wpAnyH_take (i := 5) (v := ?_) rfl (by kernel_rfl) (by kernel_rfl) (by kernel_rfl) (fun _ _ _ h => h) (Or.inl ⟨by rfl, ?_⟩) (by assumption) ?_
        rotate_left
        · (intro V hSw; (try dsimp only at hSw); go_simp) <;> with_reducible rfl
        try simp only [Act.put, List.setIfInBounds_toArray, List.set_cons_zero, List.set_cons_succ]
        refine wpAnyH_take (i := 6) (v := ?_) rfl (by kernel_rfl) (by kernel_rfl) (by kernel_rfl) (fun _ _ _ h => h) (Or.inl ⟨by rfl, ?_⟩) (by assumption) ?_
        rotate_left
        · (intro V hSw; (try dsimp only at hSw); go_simp) <;> with_reducible rfl
        try simp only [Act.put, List.setIfInBounds_toArray, List.set_cons_zero, List.set_cons_succ]
        refine wpAnyH_take (i := 7) (v := ?_) rfl (by kernel_rfl) (by kernel_rfl) (by kernel_rfl) (fun _ _ _ h => h) (Or.inl ⟨by rfl, ?_⟩) (by assumption) ?_
        rotate_left
        · (intro V hSw; (try dsimp only at hSw); go_simp) <;> with_reducible rfl
        try simp only [Act.put, List.setIfInBounds_toArray, List.set_cons_zero, List.set_cons_succ]
        refine wpAnyH_take (i := 10) (v := ?_) rfl (by kernel_rfl) (by kernel_rfl) (by kernel_rfl) (fun _ _ _ h => h) (Or.inl ⟨by rfl, ?_⟩) (by assumption) ?_
        rotate_left
        · (intro V hSw; (try dsimp only at hSw); go_simp) <;> with_reducible rfl
        try simp only [Act.put, List.setIfInBounds_toArray, List.set_cons_zero, List.set_cons_succ]
        refine wpAnyH_take (i := 11) (v := ?_) rfl (by kernel_rfl) (by kernel_rfl) (by kernel_rfl) (fun _ _ _ h => h) (Or.inl ⟨by rfl, ?_⟩) (by assumption) ?_
        rotate_left
        · (intro V hSw; (try dsimp only at hSw); go_simp) <;> with_reducible rfl
        try simp only [Act.put, List.setIfInBounds_toArray, List.set_cons_zero, List.set_cons_succ]
        refine wpAnyH_take (i := 12) (v := ?_) rfl (by kernel_rfl) (by kernel_rfl) (by kernel_rfl) (fun _ _ _ h => h) (Or.inl ⟨by rfl, ?_⟩) (by assumption) ?_
        rotate_left
        · (intro V hSw; (try dsimp only at hSw); go_simp) <;> with_reducible rfl
        try simp only [Act.put, List.setIfInBounds_toArray, List.set_cons_zero, List.set_cons_succ]
        refine wpAnyH_take (i := 13) (v := ?_) rfl (by kernel_rfl) (by kernel_rfl) (by kernel_rfl) (fun _ _ _ h => h) (Or.inl ⟨by rfl, ?_⟩) (by assumption) ?_
        rotate_left
        · (intro V hSw; (try dsimp only at hSw); go_simp) <;> with_reducible rfl
        try simp only [Act.put, List.setIfInBounds_toArray, List.set_cons_zero, List.set_cons_succ]
        refine wpAnyH_take (i := 14) (v := ?_) rfl (by kernel_rfl) (by kernel_rfl) (by kernel_rfl) (fun _ _ _ h => h) (Or.inl ⟨by rfl, ?_⟩) (by assumption) ?_
        rotate_left
        · (intro V hSw; (try dsimp only at hSw); go_simp) <;> with_reducible rfl
        try simp only [Act.put, List.setIfInBounds_toArray, List.set_cons_zero, List.set_cons_succ]
        refine wpAnyH_take (i := 15) (v := ?_) rfl (by kernel_rfl) (by kernel_rfl) (by kernel_rfl) (fun _ _ _ h => h) (Or.inl ⟨by rfl, ?_⟩) (by assumption) ?_
        rotate_left
        · (intro V hSw; (try dsimp only at hSw); go_simp) <;> with_reducible rfl
        try simp only [Act.put, List.setIfInBounds_toArray, List.set_cons_zero, List.set_cons_succ]
        refine wpAnyH_take (i := 16) (v := ?_) rfl (by kernel_rfl) (by kernel_rfl) (by kernel_rfl) (fun _ _ _ h => h) (Or.inl ⟨by rfl, ?_⟩) (by assumption) ?_
        rotate_left
        · (intro V hSw; (try dsimp only at hSw); go_simp) <;> with_reducible rfl
        try simp only [Act.put, List.setIfInBounds_toArray, List.set_cons_zero, List.set_cons_succ]
        refine wpAnyH_take (i := 17) (v := ?_) rfl (by kernel_rfl) (by kernel_rfl) (by kernel_rfl) (fun _ _ _ h => h) (Or.inl ⟨by rfl, ?_⟩) (by assumption) ?_
        rotate_left
        · (intro V hSw; (try dsimp only at hSw); go_simp) <;> with_reducible rfl
        try simp only [Act.put, List.setIfInBounds_toArray, List.set_cons_zero, List.set_cons_succ]
        refine wpAnyH_take (i := 18) (v := ?_) rfl (by kernel_rfl) (by kernel_rfl) (by kernel_rfl) (fun _ _ _ h => h) (Or.inl ⟨by rfl, ?_⟩) (by assumption) ?_
        rotate_left
        · (intro V hSw; (try dsimp only at hSw); go_simp) <;> with_reducible rfl
        try simp only [Act.put, List.setIfInBounds_toArray, List.set_cons_zero, List.set_cons_succ]
        refine wpAnyH_take (i := 19) (v := ?_) rfl (by kernel_rfl) (by kernel_rfl) (by kernel_rfl) (fun _ _ _ h => h) (Or.inl ⟨by rfl, ?_⟩) (by assumption) ?_
        rotate_left
        · (intro V hSw; (try dsimp only at hSw); go_simp) <;> with_reducible rfl
        try simp only [Act.put, List.setIfInBounds_toArray, List.set_cons_zero, List.set_cons_succ]
        refine wpAnyH_take (i := 20) (v := ?_) rfl (by kernel_rfl) (by kernel_rfl) (by kernel_rfl) (fun _ _ _ h => h) (Or.inl ⟨by rfl, ?_⟩) (by assumption) ?_
        rotate_left
        · (intro V hSw; (try dsimp only at hSw); go_simp) <;> with_reducible rfl
        try simp only [Act.put, List.setIfInBounds_toArray, List.set_cons_zero, List.set_cons_succ]
        refine wpAnyH_take (i := 21) (v := ?_) rfl (by kernel_rfl) (by kernel_rfl) (by kernel_rfl) (fun _ _ _ h => h) (Or.inl ⟨by rfl, ?_⟩) (by assumption) ?_
        rotate_left
        · (intro V hSw; (try dsimp only at hSw); go_simp) <;> with_reducible rfl
        try simp only [Act.put, List.setIfInBounds_toArray, List.set_cons_zero, List.set_cons_succ]
        refine wpAnyH_take (i := 22) (v := ?_) rfl (by kernel_rfl) (by kernel_rfl) (by kernel_rfl) (fun _ _ _ h => h) (Or.inl ⟨by rfl, ?_⟩) (by assumption) ?_
        rotate_left
        · (intro V hSw; (try dsimp only at hSw); go_simp) <;> with_reducible rfl
        try simp only [Act.put, List.setIfInBounds_toArray, List.set_cons_zero, List.set_cons_succ]
        refine wpAnyH_take (i := 23) (v := ?_) rfl (by kernel_rfl) (by kernel_rfl) (by kernel_rfl) (fun _ _ _ h => h) (Or.inl ⟨by rfl, ?_⟩) (by assumption) ?_
        rotate_left
        · (intro V hSw; (try dsimp only at hSw); go_simp) <;> with_reducible rfl
        try simp only [Act.put, List.setIfInBounds_toArray, List.set_cons_zero, List.set_cons_succ]
        refine wpAnyH_take (i := 24) (v := ?_) rfl (by kernel_rfl) (by kernel_rfl) (by kernel_rfl) (fun _ _ _ h => h) (Or.inl ⟨by rfl, ?_⟩) (by assumption) ?_
        rotate_left
        · (intro V hSw; (try dsimp only at hSw); go_simp) <;> with_reducible rfl
        try simp only [Act.put, List.setIfInBounds_toArray, List.set_cons_zero, List.set_cons_succ]
        refine wpAnyH_ready (rs := [0, 26]) (by kernel_rfl) (by simp) ?_
        refine AllReadyH.cons rfl (fun K hK => ?_) ?_
        · go_simp
          refine hK.out _ _ (HSF.out _ (by repeat (first | exact HS.out.b | refine Below.drew ?_ | refine Below.alloc ?_ (by have := HS.out.b.size; simp; omega) _))) (fun hHeldA => ?_)
          clear hK K
          try simp only [Act.put, List.setIfInBounds_toArray, List.set_cons_zero, List.set_cons_succ]
          refine strongH (S' := fun V => (fun V => V.cell? (ad.add (j * 10)) = some (.int .i64 x.d) ∧ V.cell? ⟨(ad.add (j * 10)).block, (ad.add (j * 10)).off + 3, none⟩ = some (.slice A3 (byN x.dt).length c3_) ∧ V.cell? ⟨(ad.add (j * 10)).block, (ad.add (j * 10)).off + 4, none⟩ = some (.int .i64 x.n)) V ∧ V.cell? ⟨wr.heap.size, 1, none⟩ = some (.int .i64 7)) (fun _ h => h.1) _ _ _ _ ?_
          have hHeldS : (fun V => (fun V => V.cell? (ad.add (j * 10)) = some (.int .i64 x.d) ∧ V.cell? ⟨(ad.add (j * 10)).block, (ad.add (j * 10)).off + 3, none⟩ = some (.slice A3 (byN x.dt).length c3_) ∧ V.cell? ⟨(ad.add (j * 10)).block, (ad.add (j * 10)).off + 4, none⟩ = some (.int .i64 x.n)) V ∧ V.cell? ⟨wr.heap.size, 1, none⟩ = some (.int .i64 7)) (wr.alloc (.cells #[.int .i64 4, .int .i64 7, .int .i64 8] 3)).drew := ⟨hHeldA, (blk_cell (blk_new wr (.cells #[.int .i64 4, .int .i64 7, .int .i64 8] 3)) 1).trans rfl⟩
          refine wpAnyH_take (i := 8) (v := ?_) rfl (by kernel_rfl) (by kernel_rfl) (by kernel_rfl) (fun _ _ _ h => h) (Or.inl ⟨by rfl, ?_⟩) (by assumption) ?_
          rotate_left
          · (intro V hSw; (try dsimp only at hSw); go_simp) <;> with_reducible rfl
          try simp only [Act.put, List.setIfInBounds_toArray, List.set_cons_zero, List.set_cons_succ]
          refine wpAnyH_take (i := 9) (v := ?_) rfl (by kernel_rfl) (by kernel_rfl) (by kernel_rfl) (fun _ _ _ h => h) (Or.inl ⟨by rfl, ?_⟩) (by assumption) ?_
          rotate_left
          · (intro V hSw; (try dsimp only at hSw); go_simp) <;> with_reducible rfl
          try simp only [Act.put, List.setIfInBounds_toArray, List.set_cons_zero, List.set_cons_succ]
          refine wpAnyH_take (i := 25) (v := ?_) rfl (by kernel_rfl) (by kernel_rfl) (by kernel_rfl) (fun _ _ _ h => h) (Or.inl ⟨by rfl, ?_⟩) (by assumption) ?_
          rotate_left
          · (intro V hSw; (try dsimp only at hSw); go_simp) <;> with_reducible rfl
          try simp only [Act.put, List.setIfInBounds_toArray, List.set_cons_zero, List.set_cons_succ]
          refine wpAnyH_ready (rs := [26]) (by kernel_rfl) (by simp) ?_
          refine AllReadyH.cons rfl (fun K hK => ?_) AllReadyH.nil
          go_simp
          refine hK.out _ _ ⟨HSF.out _ (by repeat (first | exact HS.out.b | refine Below.drew ?_ | refine Below.alloc ?_ (by have := HS.out.b.size; simp; omega) _)), (blk_cell (blk_alloc (blk_new wr (.cells #[.int .i64 4, .int .i64 7, .int .i64 8] 3)) (.cells #[.int .i64 0, .string ⟨#[]⟩, .string ⟨#[]⟩, .slice none 0 0, .int .i64 0, .int .i64 0, .string ⟨#[]⟩, .string ⟨#[]⟩, .int .i64 0, .int .i64 0] 33)) 1).trans rfl⟩ (fun hHeldB => ?_)
          clear hK K
          try simp only [Act.put, List.setIfInBounds_toArray, List.set_cons_zero, List.set_cons_succ]
          refine wpAnyH_ready (rs := [27]) (by kernel_rfl) (by simp) ?_
          refine AllReadyH.cons rfl (fun K hK => ?_) AllReadyH.nil
          go_simp
          refine hK.out _ _ ⟨HSF.out _ (by repeat (first | exact HS.out.b | refine Below.drew ?_ | refine Below.alloc ?_ (by have := HS.out.b.size; simp; omega) _)), (blk_cell (blk_alloc (blk_new wr (.cells #[.int .i64 4, .int .i64 7, .int .i64 8] 3)) (.cells #[.int .i64 7, .string ⟨#[97, 98, 99]⟩, .string (mkS key), .slice A3 (byN x.dt).length c3_, .int .i64 (10 + (m : Int)), .int .i64 0, .string ⟨#[]⟩, .string ⟨#[]⟩, .int .i64 0, .int .i64 0] 33)) 1).trans rfl⟩ (fun hHeldC => ?_)
          clear hK K
          try simp only [Act.put, List.setIfInBounds_toArray, List.set_cons_zero, List.set_cons_succ]
          refine wpAnyH_done (by kernel_rfl) ?_ _
          clear hHeld hHeldA hHeldS hHeldB hHeldC
          obtain ⟨W9, hW9⟩ : ∃ W9, ((wr.alloc (.cells #[.int .i64 4, .int .i64 7, .int .i64 8] 3)).alloc (.cells #[.int .i64 7, .string ⟨#[97, 98, 99]⟩, .string (mkS key), .slice A3 (byN x.dt).length c3_, .int .i64 (10 + (m : Int)), .int .i64 0, .string ⟨#[]⟩, .string ⟨#[]⟩, .int .i64 0, .int .i64 0] 33)).drew = W9 := ⟨_, rfl⟩
          have HB9 : Hid (Below w.heap.size w W9) := by rw [← hW9]; exact (by repeat (first | exact HS.out.b | refine Below.drew ?_ | refine Below.alloc ?_ (by have := HS.out.b.size; simp; omega) _))
          have hb9 : Below wr.heap.size wr W9 := by rw [← hW9]; repeat (first | exact Below.refl _ _ | refine Below.drew ?_ | refine Below.alloc ?_ (by simp) _)
          have hk9 : W9.heap[wr.heap.size + 1]? = some (.cells #[.int .i64 7, .string ⟨#[97, 98, 99]⟩, .string (mkS key), .slice A3 (byN x.dt).length c3_, .int .i64 (10 + (m : Int)), .int .i64 0, .string ⟨#[]⟩, .string ⟨#[]⟩, .int .i64 0, .int .i64 0] 33 (0, 0)) := by rw [← hW9]; exact blk_new2 wr (.cells #[.int .i64 4, .int .i64 7, .int .i64 8] 3) (.cells #[.int .i64 7, .string ⟨#[97, 98, 99]⟩, .string (mkS key), .slice A3 (byN x.dt).length c3_, .int .i64 (10 + (m : Int)), .int .i64 0, .string ⟨#[]⟩, .string ⟨#[]⟩, .int .i64 0, .int .i64 0] 33)
          rw [hW9]
          clear hW9
          obtain ⟨c0, c1, c2, c3, c4, c5, c6, c7, c8, c9⟩ : ChAt W9 (wr.heap.size + 1) 7 abc key (.slice A3 (byN x.dt).length c3_) (10 + (m : Int)) 0 [] [] 0 0 := chAt_of hk9
          have HO9 : Hid (Kd.N kCh 33 W9 w.heap.size (fun k => k < w0.heap.size ∨ w.heap.size ≤ k) sv ((l.take j).map (bentC key))) := Kd.N_below HS.out.o hb9
          have HFK : Hid (Kd.FK kCh W9 (fun k => k < w0.heap.size) ⟨7, abc, key, x.dt, 10 + (m : Int), 0, [], [], 0, 0⟩ (chCells ⟨7, abc, key, x.dt, 10 + (m : Int), 0, [], [], 0, 0⟩ (.slice A3 (byN x.dt).length c3_))) := kCh_mkF (Kd.V_below HDT.out (HW.out.trans (HB9.out.mono HW.out.size)))
          have HEQ : Hid (bentC key x = ⟨7, abc, key, x.dt, 10 + (m : Int), 0, [], [], 0, 0⟩) := by show _ = _; unfold bentC; rw [hd0.out, hm2]
          clear hk9 hb9 hm1 hm2 hq1 hq2 wm wm2
          go_wp2_with (at_builtin; refine Kd.N_append kCh (w0 := w) w.heap.size rfl (.tmp 40) (.tmp 42) 22 33 (.agg (chCells (bareC 0) (.slice none 0 0)).toArray) 128 rfl Tryd.underlying22 infoCh rfl (by decide) (by omega) sv ((l.take j).map (bentC key)) ⟨7, abc, key, x.dt, 10 + (m : Int), 0, [], [], 0, 0⟩ (chCells ⟨7, abc, key, x.dt, 10 + (m : Int), 0, [], [], 0, 0⟩ (.slice A3 (byN x.dt).length c3_)) (fun k => k < w0.heap.size ∨ w.heap.size ≤ k) (fun k => k < w0.heap.size) rfl rfl HFK.out (fun k hk => ⟨.inl hk, fun e => by have := HOW.out k e.symm; have := HW.out.size; omega⟩) (fun k hk => .inr (by have := HB9.out.size; omega)) HO9.out HB9.out HB9.out.size hl2 ?_; intro v1 w5 hN5 hb5 hg5 hat5)
          have HS5 : Hid (BentSt w0 w ((l.take (j + 1)).map (bentC key)) v1 w5) := ⟨hb5, by rw [HTK.out, HEQ.out]; exact hN5⟩
          clear hN5 hb5 hg5 hat5
          go_wp2_with fail
          go_roundw
          case rel => exact ⟨j + 1, v1, rfl, by go_num, by omega, HS5⟩
          case measure => simp [intOf]; omega
        · refine AllReadyH.cons rfl (fun K hK => ?_) AllReadyH.nil
          go_simp
          refine hK.out _ _ (HSF.out _ (by repeat (first | exact HS.out.b | refine Below.drew ?_ | refine Below.alloc ?_ (by have := HS.out.b.size; simp; omega) _))) (fun hHeldA => ?_)
          clear hK K
          try simp only [Act.put, List.setIfInBounds_toArray, List.set_cons_zero, List.set_cons_succ]
          refine wpAnyH_ready (rs := [0]) (by kernel_rfl) (by simp) ?_
          refine AllReadyH.cons rfl (fun K hK => ?_) AllReadyH.nil
          go_simp
          refine hK.out _ _ (HSF.out _ (by repeat (first | exact HS.out.b | refine Below.drew ?_ | refine Below.alloc ?_ (by have := HS.out.b.size; simp; omega) _))) (fun hHeldB => ?_)
          clear hK K
          try simp only [Act.put, List.setIfInBounds_toArray, List.set_cons_zero, List.set_cons_succ]
          refine strongH (S' := fun V => (fun V => V.cell? (ad.add (j * 10)) = some (.int .i64 x.d) ∧ V.cell? ⟨(ad.add (j * 10)).block, (ad.add (j * 10)).off + 3, none⟩ = some (.slice A3 (byN x.dt).length c3_) ∧ V.cell? ⟨(ad.add (j * 10)).block, (ad.add (j * 10)).off + 4, none⟩ = some (.int .i64 x.n)) V ∧ V.cell? ⟨wr.heap.size + 1, 1, none⟩ = some (.int .i64 7)) (fun _ h => h.1) _ _ _ _ ?_
          have hHeldS : (fun V => (fun V => V.cell? (ad.add (j * 10)) = some (.int .i64 x.d) ∧ V.cell? ⟨(ad.add (j * 10)).block, (ad.add (j * 10)).off + 3, none⟩ = some (.slice A3 (byN x.dt).length c3_) ∧ V.cell? ⟨(ad.add (j * 10)).block, (ad.add (j * 10)).off + 4, none⟩ = some (.int .i64 x.n)) V ∧ V.cell? ⟨wr.heap.size + 1, 1, none⟩ = some (.int .i64 7)) ((wr.alloc (.cells #[.int .i64 0, .string ⟨#[]⟩, .string ⟨#[]⟩, .slice none 0 0, .int .i64 0, .int .i64 0, .string ⟨#[]⟩, .string ⟨#[]⟩, .int .i64 0, .int .i64 0] 33)).alloc (.cells #[.int .i64 4, .int .i64 7, .int .i64 8] 3)).drew := ⟨hHeldB, (blk_cell (blk_new2 wr (.cells #[.int .i64 0, .string ⟨#[]⟩, .string ⟨#[]⟩, .slice none 0 0, .int .i64 0, .int .i64 0, .string ⟨#[]⟩, .string ⟨#[]⟩, .int .i64 0, .int .i64 0] 33) (.cells #[.int .i64 4, .int .i64 7, .int .i64 8] 3)) 1).trans rfl⟩
          refine wpAnyH_take (i := 8) (v := ?_) rfl (by kernel_rfl) (by kernel_rfl) (by kernel_rfl) (fun _ _ _ h => h) (Or.inl ⟨by rfl, ?_⟩) (by assumption) ?_
          rotate_left
          · (intro V hSw; (try dsimp only at hSw); go_simp) <;> with_reducible rfl
          try simp only [Act.put, List.setIfInBounds_toArray, List.set_cons_zero, List.set_cons_succ]
          refine wpAnyH_take (i := 9) (v := ?_) rfl (by kernel_rfl) (by kernel_rfl) (by kernel_rfl) (fun _ _ _ h => h) (Or.inl ⟨by rfl, ?_⟩) (by assumption) ?_
          rotate_left
          · (intro V hSw; (try dsimp only at hSw); go_simp) <;> with_reducible rfl
          try simp only [Act.put, List.setIfInBounds_toArray, List.set_cons_zero, List.set_cons_succ]
          refine wpAnyH_take (i := 25) (v := ?_) rfl (by kernel_rfl) (by kernel_rfl) (by kernel_rfl) (fun _ _ _ h => h) (Or.inl ⟨by rfl, ?_⟩) (by assumption) ?_
          rotate_left
          · (intro V hSw; (try dsimp only at hSw); go_simp) <;> with_reducible rfl
          try simp only [Act.put, List.setIfInBounds_toArray, List.set_cons_zero, List.set_cons_succ]
          refine wpAnyH_ready (rs := [27]) (by kernel_rfl) (by simp) ?_
          refine AllReadyH.cons rfl (fun K hK => ?_) AllReadyH.nil
          go_simp
          refine hK.out _ _ ⟨HSF.out _ (by repeat (first | exact HS.out.b | refine Below.drew ?_ | refine Below.alloc ?_ (by have := HS.out.b.size; simp; omega) _)), (blk_cell (blk_new2 wr (.cells #[.int .i64 7, .string ⟨#[97, 98, 99]⟩, .string (mkS key), .slice A3 (byN x.dt).length c3_, .int .i64 (10 + (m : Int)), .int .i64 0, .string ⟨#[]⟩, .string ⟨#[]⟩, .int .i64 0, .int .i64 0] 33) (.cells #[.int .i64 4, .int .i64 7, .int .i64 8] 3)) 1).trans rfl⟩ (fun hHeldC => ?_)
          clear hK K
          try simp only [Act.put, List.setIfInBounds_toArray, List.set_cons_zero, List.set_cons_succ]
          refine wpAnyH_done (by kernel_rfl) ?_ _
          clear hHeld hHeldA hHeldS hHeldB hHeldC
          obtain ⟨W9, hW9⟩ : ∃ W9, ((wr.alloc (.cells #[.int .i64 7, .string ⟨#[97, 98, 99]⟩, .string (mkS key), .slice A3 (byN x.dt).length c3_, .int .i64 (10 + (m : Int)), .int .i64 0, .string ⟨#[]⟩, .string ⟨#[]⟩, .int .i64 0, .int .i64 0] 33)).alloc (.cells #[.int .i64 4, .int .i64 7, .int .i64 8] 3)).drew = W9 := ⟨_, rfl⟩
          have HB9 : Hid (Below w.heap.size w W9) := by rw [← hW9]; exact (by repeat (first | exact HS.out.b | refine Below.drew ?_ | refine Below.alloc ?_ (by have := HS.out.b.size; simp; omega) _))
          have hb9 : Below wr.heap.size wr W9 := by rw [← hW9]; repeat (first | exact Below.refl _ _ | refine Below.drew ?_ | refine Below.alloc ?_ (by simp) _)
          have hk9 : W9.heap[wr.heap.size]? = some (.cells #[.int .i64 7, .string ⟨#[97, 98, 99]⟩, .string (mkS key), .slice A3 (byN x.dt).length c3_, .int .i64 (10 + (m : Int)), .int .i64 0, .string ⟨#[]⟩, .string ⟨#[]⟩, .int .i64 0, .int .i64 0] 33 (0, 0)) := by rw [← hW9]; exact blk_alloc (blk_new wr (.cells #[.int .i64 7, .string ⟨#[97, 98, 99]⟩, .string (mkS key), .slice A3 (byN x.dt).length c3_, .int .i64 (10 + (m : Int)), .int .i64 0, .string ⟨#[]⟩, .string ⟨#[]⟩, .int .i64 0, .int .i64 0] 33)) (.cells #[.int .i64 4, .int .i64 7, .int .i64 8] 3)
          rw [hW9]
          clear hW9
          obtain ⟨c0, c1, c2, c3, c4, c5, c6, c7, c8, c9⟩ : ChAt W9 (wr.heap.size) 7 abc key (.slice A3 (byN x.dt).length c3_) (10 + (m : Int)) 0 [] [] 0 0 := chAt_of hk9
          have HO9 : Hid (Kd.N kCh 33 W9 w.heap.size (fun k => k < w0.heap.size ∨ w.heap.size ≤ k) sv ((l.take j).map (bentC key))) := Kd.N_below HS.out.o hb9
          have HFK : Hid (Kd.FK kCh W9 (fun k => k < w0.heap.size) ⟨7, abc, key, x.dt, 10 + (m : Int), 0, [], [], 0, 0⟩ (chCells ⟨7, abc, key, x.dt, 10 + (m : Int), 0, [], [], 0, 0⟩ (.slice A3 (byN x.dt).length c3_))) := kCh_mkF (Kd.V_below HDT.out (HW.out.trans (HB9.out.mono HW.out.size)))
          have HEQ : Hid (bentC key x = ⟨7, abc, key, x.dt, 10 + (m : Int), 0, [], [], 0, 0⟩) := by show _ = _; unfold bentC; rw [hd0.out, hm2]
          clear hk9 hb9 hm1 hm2 hq1 hq2 wm wm2
          go_wp2_with (at_builtin; refine Kd.N_append kCh (w0 := w) w.heap.size rfl (.tmp 40) (.tmp 42) 22 33 (.agg (chCells (bareC 0) (.slice none 0 0)).toArray) 128 rfl Tryd.underlying22 infoCh rfl (by decide) (by omega) sv ((l.take j).map (bentC key)) ⟨7, abc, key, x.dt, 10 + (m : Int), 0, [], [], 0, 0⟩ (chCells ⟨7, abc, key, x.dt, 10 + (m : Int), 0, [], [], 0, 0⟩ (.slice A3 (byN x.dt).length c3_)) (fun k => k < w0.heap.size ∨ w.heap.size ≤ k) (fun k => k < w0.heap.size) rfl rfl HFK.out (fun k hk => ⟨.inl hk, fun e => by have := HOW.out k e.symm; have := HW.out.size; omega⟩) (fun k hk => .inr (by have := HB9.out.size; omega)) HO9.out HB9.out HB9.out.size hl2 ?_; intro v1 w5 hN5 hb5 hg5 hat5)
          have HS5 : Hid (BentSt w0 w ((l.take (j + 1)).map (bentC key)) v1 w5) := ⟨hb5, by rw [HTK.out, HEQ.out]; exact hN5⟩
          clear hN5 hb5 hg5 hat5
          go_wp2_with fail
          go_roundw
          case rel => exact ⟨j + 1, v1, rfl, by go_num, by omega, HS5⟩
          case measure => simp [intOf]; omega
      · have hd0 : Hid (bentD x.d = 8) := by show _ = _; unfold bentD; rw [hq2]; rfl
        refine wp_region_held_drew (S := fun V => V.cell? (ad.add (j * 10)) = some (.int .i64 x.d) ∧ V.cell? ⟨(ad.add (j * 10)).block, (ad.add (j * 10)).off + 3, none⟩ = some (.slice A3 (byN x.dt).length c3_) ∧ V.cell? ⟨(ad.add (j * 10)).block, (ad.add (j * 10)).off + 4, none⟩ = some (.int .i64 x.n)) (by kernel_rfl) (HSF.out _ hb0d) (fun hHeld => ?_)
        refine wpAnyH_take (i := 1) (v := ?_) rfl (by kernel_rfl) (by kernel_rfl) (by kernel_rfl) (fun _ _ _ h => h) (Or.inl ⟨by rfl, ?_⟩) (by assumption) ?_
        rotate_left
        · (intro V hSw; (try dsimp only at hSw); go_simp) <;> with_reducible rfl
        try simp only [Act.put, List.setIfInBounds_toArray, List.set_cons_zero, List.set_cons_succ]
        refine wpAnyH_take (i := 2) (v := ?_) rfl (by kernel_rfl) (by kernel_rfl) (by kernel_rfl) (fun _ _ _ h => h) (Or.inl ⟨by rfl, ?_⟩) (by assumption) ?_
        rotate_left
        · (intro V hSw; (try dsimp only at hSw); go_simp) <;> with_reducible rfl
        try simp only [Act.put, List.setIfInBounds_toArray, List.set_cons_zero, List.set_cons_succ]
        refine wpAnyH_take (i := 3) (v := ?_) rfl (by kernel_rfl) (by kernel_rfl) (by kernel_rfl) (fun _ _ _ h => h) (Or.inl ⟨by rfl, ?_⟩) (by assumption) ?_
        rotate_left
        · (intro V hSw; (try dsimp only at hSw); go_simp) <;> with_reducible rfl
        try simp only [Act.put, List.setIfInBounds_toArray, List.set_cons_zero, List.set_cons_succ]
        refine wpAnyH_take (i := 4) (v := ?_) rfl (by kernel_rfl) (by kernel_rfl) (by kernel_rfl) (fun _ _ _ h => h) (Or.inl ⟨by rfl, ?_⟩) (by assumption) ?_
        rotate_left
        · (intro V hSw; (try dsimp only at hSw); go_simp) <;> with_reducible rfl
        try simp only [Act.put, List.setIfInBounds_toArray, List.set_cons_zero, List.set_cons_succ]
        refine wpAnyH_take (i := 5) (v := ?_) rfl (by kernel_rfl) (by kernel_rfl) (by kernel_rfl) (fun _ _ _ h => h) (Or.inl ⟨by rfl, ?_⟩) (by assumption) ?_
        rotate_left
        · (intro V hSw; (try dsimp only at hSw); go_simp) <;> with_reducible rfl
        try simp only [Act.put, List.setIfInBounds_toArray, List.set_cons_zero, List.set_cons_succ]
        refine wpAnyH_take (i := 6) (v := ?_) rfl (by kernel_rfl) (by kernel_rfl) (by kernel_rfl) (fun _ _ _ h => h) (Or.inl ⟨by rfl, ?_⟩) (by assumption) ?_
        rotate_left
        · (intro V hSw; (try dsimp only at hSw); go_simp) <;> with_reducible rfl
        try simp only [Act.put, List.setIfInBounds_toArray, List.set_cons_zero, List.set_cons_succ]
        refine wpAnyH_take (i := 7) (v := ?_) rfl (by kernel_rfl) (by kernel_rfl) (by kernel_rfl) (fun _ _ _ h => h) (Or.inl ⟨by rfl, ?_⟩) (by assumption) ?_
        rotate_left
        · (intro V hSw; (try dsimp only at hSw); go_simp) <;> with_reducible rfl
        try simp only [Act.put, List.setIfInBounds_toArray, List.set_cons_zero, List.set_cons_succ]
        refine wpAnyH_take (i := 10) (v := ?_) rfl (by kernel_rfl) (by kernel_rfl) (by kernel_rfl) (fun _ _ _ h => h) (Or.inl ⟨by rfl, ?_⟩) (by assumption) ?_
        rotate_left
        · (intro V hSw; (try dsimp only at hSw); go_simp) <;> with_reducible rfl
        try simp only [Act.put, List.setIfInBounds_toArray, List.set_cons_zero, List.set_cons_succ]
        refine wpAnyH_take (i := 11) (v := ?_) rfl (by kernel_rfl) (by kernel_rfl) (by kernel_rfl) (fun _ _ _ h => h) (Or.inl ⟨by rfl, ?_⟩) (by assumption) ?_
        rotate_left
        · (intro V hSw; (try dsimp only at hSw); go_simp) <;> with_reducible rfl
        try simp only [Act.put, List.setIfInBounds_toArray, List.set_cons_zero, List.set_cons_succ]
        refine wpAnyH_take (i := 12) (v := ?_) rfl (by kernel_rfl) (by kernel_rfl) (by kernel_rfl) (fun _ _ _ h => h) (Or.inl ⟨by rfl, ?_⟩) (by assumption) ?_
        rotate_left
        · (intro V hSw; (try dsimp only at hSw); go_simp) <;> with_reducible rfl
        try simp only [Act.put, List.setIfInBounds_toArray, List.set_cons_zero, List.set_cons_succ]
        refine wpAnyH_take (i := 13) (v := ?_) rfl (by kernel_rfl) (by kernel_rfl) (by kernel_rfl) (fun _ _ _ h => h) (Or.inl ⟨by rfl, ?_⟩) (by assumption) ?_
        rotate_left
        · (intro V hSw; (try dsimp only at hSw); go_simp) <;> with_reducible rfl
        try simp only [Act.put, List.setIfInBounds_toArray, List.set_cons_zero, List.set_cons_succ]
        refine wpAnyH_take (i := 14) (v := ?_) rfl (by kernel_rfl) (by kernel_rfl) (by kernel_rfl) (fun _ _ _ h => h) (Or.inl ⟨by rfl, ?_⟩) (by assumption) ?_
        rotate_left
        · (intro V hSw; (try dsimp only at hSw); go_simp) <;> with_reducible rfl
        try simp only [Act.put, List.setIfInBounds_toArray, List.set_cons_zero, List.set_cons_succ]
        refine wpAnyH_take (i := 15) (v := ?_) rfl (by kernel_rfl) (by kernel_rfl) (by kernel_rfl) (fun _ _ _ h => h) (Or.inl ⟨by rfl, ?_⟩) (by assumption) ?_
        rotate_left
        · (intro V hSw; (try dsimp only at hSw); go_simp) <;> with_reducible rfl
        try simp only [Act.put, List.setIfInBounds_toArray, List.set_cons_zero, List.set_cons_succ]
        refine wpAnyH_take (i := 16) (v := ?_) rfl (by kernel_rfl) (by kernel_rfl) (by kernel_rfl) (fun _ _ _ h => h) (Or.inl ⟨by rfl, ?_⟩) (by assumption) ?_
        rotate_left
        · (intro V hSw; (try dsimp only at hSw); go_simp) <;> with_reducible rfl
        try simp only [Act.put, List.setIfInBounds_toArray, List.set_cons_zero, List.set_cons_succ]
        refine wpAnyH_take (i := 17) (v := ?_) rfl (by kernel_rfl) (by kernel_rfl) (by kernel_rfl) (fun _ _ _ h => h) (Or.inl ⟨by rfl, ?_⟩) (by assumption) ?_
        rotate_left
        · (intro V hSw; (try dsimp only at hSw); go_simp) <;> with_reducible rfl
        try simp only [Act.put, List.setIfInBounds_toArray, List.set_cons_zero, List.set_cons_succ]
        refine wpAnyH_take (i := 18) (v := ?_) rfl (by kernel_rfl) (by kernel_rfl) (by kernel_rfl) (fun _ _ _ h => h) (Or.inl ⟨by rfl, ?_⟩) (by assumption) ?_
        rotate_left
        · (intro V hSw; (try dsimp only at hSw); go_simp) <;> with_reducible rfl
        try simp only [Act.put, List.setIfInBounds_toArray, List.set_cons_zero, List.set_cons_succ]
        refine wpAnyH_take (i := 19) (v := ?_) rfl (by kernel_rfl) (by kernel_rfl) (by kernel_rfl) (fun _ _ _ h => h) (Or.inl ⟨by rfl, ?_⟩) (by assumption) ?_
        rotate_left
        · (intro V hSw; (try dsimp only at hSw); go_simp) <;> with_reducible rfl
        try simp only [Act.put, List.setIfInBounds_toArray, List.set_cons_zero, List.set_cons_succ]
        refine wpAnyH_take (i := 20) (v := ?_) rfl (by kernel_rfl) (by kernel_rfl) (by kernel_rfl) (fun _ _ _ h => h) (Or.inl ⟨by rfl, ?_⟩) (by assumption) ?_
        rotate_left
        · (intro V hSw; (try dsimp only at hSw); go_simp) <;> with_reducible rfl
        try simp only [Act.put, List.setIfInBounds_toArray, List.set_cons_zero, List.set_cons_succ]
        refine wpAnyH_take (i := 21) (v := ?_) rfl (by kernel_rfl) (by kernel_rfl) (by kernel_rfl) (fun _ _ _ h => h) (Or.inl ⟨by rfl, ?_⟩) (by assumption) ?_
        rotate_left
        · (intro V hSw; (try dsimp only at hSw); go_simp) <;> with_reducible rfl
        try simp only [Act.put, List.setIfInBounds_toArray, List.set_cons_zero, List.set_cons_succ]
        refine wpAnyH_take (i := 22) (v := ?_) rfl (by kernel_rfl) (by kernel_rfl) (by kernel_rfl) (fun _ _ _ h => h) (Or.inl ⟨by rfl, ?_⟩) (by assumption) ?_
        rotate_left
        · (intro V hSw; (try dsimp only at hSw); go_simp) <;> with_reducible rfl
        try simp only [Act.put, List.setIfInBounds_toArray, List.set_cons_zero, List.set_cons_succ]
        refine wpAnyH_take (i := 23) (v := ?_) rfl (by kernel_rfl) (by kernel_rfl) (by kernel_rfl) (fun _ _ _ h => h) (Or.inl ⟨by rfl, ?_⟩) (by assumption) ?_
        rotate_left
        · (intro V hSw; (try dsimp only at hSw); go_simp) <;> with_reducible rfl
        try simp only [Act.put, List.setIfInBounds_toArray, List.set_cons_zero, List.set_cons_succ]
        refine wpAnyH_take (i := 24) (v := ?_) rfl (by kernel_rfl) (by kernel_rfl) (by kernel_rfl) (fun _ _ _ h => h) (Or.inl ⟨by rfl, ?_⟩) (by assumption) ?_
        rotate_left
        · (intro V hSw; (try dsimp only at hSw); go_simp) <;> with_reducible rfl
        try simp only [Act.put, List.setIfInBounds_toArray, List.set_cons_zero, List.set_cons_succ]
        refine wpAnyH_ready (rs := [0, 26]) (by kernel_rfl) (by simp) ?_
        refine AllReadyH.cons rfl (fun K hK => ?_) ?_
        · go_simp
          refine hK.out _ _ (HSF.out _ (by repeat (first | exact HS.out.b | refine Below.drew ?_ | refine Below.alloc ?_ (by have := HS.out.b.size; simp; omega) _))) (fun hHeldA => ?_)
          clear hK K
          try simp only [Act.put, List.setIfInBounds_toArray, List.set_cons_zero, List.set_cons_succ]
          refine strongH (S' := fun V => (fun V => V.cell? (ad.add (j * 10)) = some (.int .i64 x.d) ∧ V.cell? ⟨(ad.add (j * 10)).block, (ad.add (j * 10)).off + 3, none⟩ = some (.slice A3 (byN x.dt).length c3_) ∧ V.cell? ⟨(ad.add (j * 10)).block, (ad.add (j * 10)).off + 4, none⟩ = some (.int .i64 x.n)) V ∧ V.cell? ⟨wr.heap.size, 2, none⟩ = some (.int .i64 8)) (fun _ h => h.1) _ _ _ _ ?_
          have hHeldS : (fun V => (fun V => V.cell? (ad.add (j * 10)) = some (.int .i64 x.d) ∧ V.cell? ⟨(ad.add (j * 10)).block, (ad.add (j * 10)).off + 3, none⟩ = some (.slice A3 (byN x.dt).length c3_) ∧ V.cell? ⟨(ad.add (j * 10)).block, (ad.add (j * 10)).off + 4, none⟩ = some (.int .i64 x.n)) V ∧ V.cell? ⟨wr.heap.size, 2, none⟩ = some (.int .i64 8)) (wr.alloc (.cells #[.int .i64 4, .int .i64 7, .int .i64 8] 3)).drew := ⟨hHeldA, (blk_cell (blk_new wr (.cells #[.int .i64 4, .int .i64 7, .int .i64 8] 3)) 2).trans rfl⟩
          refine wpAnyH_take (i := 8) (v := ?_) rfl (by kernel_rfl) (by kernel_rfl) (by kernel_rfl) (fun _ _ _ h => h) (Or.inl ⟨by rfl, ?_⟩) (by assumption) ?_
          rotate_left
          · (intro V hSw; (try dsimp only at hSw); go_simp) <;> with_reducible rfl
          try simp only [Act.put, List.setIfInBounds_toArray, List.set_cons_zero, List.set_cons_succ]
          refine wpAnyH_take (i := 9) (v := ?_) rfl (by kernel_rfl) (by kernel_rfl) (by kernel_rfl) (fun _ _ _ h => h) (Or.inl ⟨by rfl, ?_⟩) (by assumption) ?_
          rotate_left
          · (intro V hSw; (try dsimp only at hSw); go_simp) <;> with_reducible rfl
          try simp only [Act.put, List.setIfInBounds_toArray, List.set_cons_zero, List.set_cons_succ]
          refine wpAnyH_take (i := 25) (v := ?_) rfl (by kernel_rfl) (by kernel_rfl) (by kernel_rfl) (fun _ _ _ h => h) (Or.inl ⟨by rfl, ?_⟩) (by assumption) ?_
          rotate_left
          · (intro V hSw; (try dsimp only at hSw); go_simp) <;> with_reducible rfl
          try simp only [Act.put, List.setIfInBounds_toArray, List.set_cons_zero, List.set_cons_succ]
          refine wpAnyH_ready (rs := [26]) (by kernel_rfl) (by simp) ?_
          refine AllReadyH.cons rfl (fun K hK => ?_) AllReadyH.nil
          go_simp
          refine hK.out _ _ ⟨HSF.out _ (by repeat (first | exact HS.out.b | refine Below.drew ?_ | refine Below.alloc ?_ (by have := HS.out.b.size; simp; omega) _)), (blk_cell (blk_alloc (blk_new wr (.cells #[.int .i64 4, .int .i64 7, .int .i64 8] 3)) (.cells #[.int .i64 0, .string ⟨#[]⟩, .string ⟨#[]⟩, .slice none 0 0, .int .i64 0, .int .i64 0, .string ⟨#[]⟩, .string ⟨#[]⟩, .int .i64 0, .int .i64 0] 33)) 2).trans rfl⟩ (fun hHeldB => ?_)
          clear hK K
          try simp only [Act.put, List.setIfInBounds_toArray, List.set_cons_zero, List.set_cons_succ]
          refine wpAnyH_ready (rs := [27]) (by kernel_rfl) (by simp) ?_
          refine AllReadyH.cons rfl (fun K hK => ?_) AllReadyH.nil
          go_simp
          refine hK.out _ _ ⟨HSF.out _ (by repeat (first | exact HS.out.b | refine Below.drew ?_ | refine Below.alloc ?_ (by have := HS.out.b.size; simp; omega) _)), (blk_cell (blk_alloc (blk_new wr (.cells #[.int .i64 4, .int .i64 7, .int .i64 8] 3)) (.cells #[.int .i64 8, .string ⟨#[97, 98, 99]⟩, .string (mkS key), .slice A3 (byN x.dt).length c3_, .int .i64 (10 + (m : Int)), .int .i64 0, .string ⟨#[]⟩, .string ⟨#[]⟩, .int .i64 0, .int .i64 0] 33)) 2).trans rfl⟩ (fun hHeldC => ?_)
          clear hK K
          try simp only [Act.put, List.setIfInBounds_toArray, List.set_cons_zero, List.set_cons_succ]
          refine wpAnyH_done (by kernel_rfl) ?_ _
          clear hHeld hHeldA hHeldS hHeldB hHeldC
          obtain ⟨W9, hW9⟩ : ∃ W9, ((wr.alloc (.cells #[.int .i64 4, .int .i64 7, .int .i64 8] 3)).alloc (.cells #[.int .i64 8, .string ⟨#[97, 98, 99]⟩, .string (mkS key), .slice A3 (byN x.dt).length c3_, .int .i64 (10 + (m : Int)), .int .i64 0, .string ⟨#[]⟩, .string ⟨#[]⟩, .int .i64 0, .int .i64 0] 33)).drew = W9 := ⟨_, rfl⟩
          have HB9 : Hid (Below w.heap.size w W9) := by rw [← hW9]; exact (by repeat (first | exact HS.out.b | refine Below.drew ?_ | refine Below.alloc ?_ (by have := HS.out.b.size; simp; omega) _))
          have hb9 : Below wr.heap.size wr W9 := by rw [← hW9]; repeat (first | exact Below.refl _ _ | refine Below.drew ?_ | refine Below.alloc ?_ (by simp) _)
          have hk9 : W9.heap[wr.heap.size + 1]? = some (.cells #[.int .i64 8, .string ⟨#[97, 98, 99]⟩, .string (mkS key), .slice A3 (byN x.dt).length c3_, .int .i64 (10 + (m : Int)), .int .i64 0, .string ⟨#[]⟩, .string ⟨#[]⟩, .int .i64 0, .int .i64 0] 33 (0, 0)) := by rw [← hW9]; exact blk_new2 wr (.cells #[.int .i64 4, .int .i64 7, .int .i64 8] 3) (.cells #[.int .i64 8, .string ⟨#[97, 98, 99]⟩, .string (mkS key), .slice A3 (byN x.dt).length c3_, .int .i64 (10 + (m : Int)), .int .i64 0, .string ⟨#[]⟩, .string ⟨#[]⟩, .int .i64 0, .int .i64 0] 33)
          rw [hW9]
          clear hW9
          obtain ⟨c0, c1, c2, c3, c4, c5, c6, c7, c8, c9⟩ : ChAt W9 (wr.heap.size + 1) 8 abc key (.slice A3 (byN x.dt).length c3_) (10 + (m : Int)) 0 [] [] 0 0 := chAt_of hk9
          have HO9 : Hid (Kd.N kCh 33 W9 w.heap.size (fun k => k < w0.heap.size ∨ w.heap.size ≤ k) sv ((l.take j).map (bentC key))) := Kd.N_below HS.out.o hb9
          have HFK : Hid (Kd.FK kCh W9 (fun k => k < w0.heap.size) ⟨8, abc, key, x.dt, 10 + (m : Int), 0, [], [], 0, 0⟩ (chCells ⟨8, abc, key, x.dt, 10 + (m : Int), 0, [], [], 0, 0⟩ (.slice A3 (byN x.dt).length c3_))) := kCh_mkF (Kd.V_below HDT.out (HW.out.trans (HB9.out.mono HW.out.size)))
          have HEQ : Hid (bentC key x = ⟨8, abc, key, x.dt, 10 + (m : Int), 0, [], [], 0, 0⟩) := by show _ = _; unfold bentC; rw [hd0.out, hm2]
          clear hk9 hb9 hm1 hm2 hq1 hq2 wm wm2
          go_wp2_with (at_builtin; refine Kd.N_append kCh (w0 := w) w.heap.size rfl (.tmp 40) (.tmp 42) 22 33 (.agg (chCells (bareC 0) (.slice none 0 0)).toArray) 128 rfl Tryd.underlying22 infoCh rfl (by decide) (by omega) sv ((l.take j).map (bentC key)) ⟨8, abc, key, x.dt, 10 + (m : Int), 0, [], [], 0, 0⟩ (chCells ⟨8, abc, key, x.dt, 10 + (m : Int), 0, [], [], 0, 0⟩ (.slice A3 (byN x.dt).length c3_)) (fun k => k < w0.heap.size ∨ w.heap.size ≤ k) (fun k => k < w0.heap.size) rfl rfl HFK.out (fun k hk => ⟨.inl hk, fun e => by have := HOW.out k e.symm; have := HW.out.size; omega⟩) (fun k hk => .inr (by have := HB9.out.size; omega)) HO9.out HB9.out HB9.out.size hl2 ?_; intro v1 w5 hN5 hb5 hg5 hat5)
          have HS5 : Hid (BentSt w0 w ((l.take (j + 1)).map (bentC key)) v1 w5) := ⟨hb5, by rw [HTK.out, HEQ.out]; exact hN5⟩
          clear hN5 hb5 hg5 hat5
          go_wp2_with fail
          go_roundw
          case rel => exact ⟨j + 1, v1, rfl, by go_num, by omega, HS5⟩
          case measure => simp [intOf]; omega
        · refine AllReadyH.cons rfl (fun K hK => ?_) AllReadyH.nil
          go_simp
          refine hK.out _ _ (HSF.out _ (by repeat (first | exact HS.out.b | refine Below.drew ?_ | refine Below.alloc ?_ (by have := HS.out.b.size; simp; omega) _))) (fun hHeldA => ?_)
          clear hK K
          try simp only [Act.put, List.setIfInBounds_toArray, List.set_cons_zero, List.set_cons_succ]
          refine wpAnyH_ready (rs := [0]) (by kernel_rfl) (by simp) ?_
          refine AllReadyH.cons rfl (fun K hK => ?_) AllReadyH.nil
          go_simp
          refine hK.out _ _ (HSF.out _ (by repeat (first | exact HS.out.b | refine Below.drew ?_ | refine Below.alloc ?_ (by have := HS.out.b.size; simp; omega) _))) (fun hHeldB => ?_)
          clear hK K
          try simp only [Act.put, List.setIfInBounds_toArray, List.set_cons_zero, List.set_cons_succ]
          refine strongH (S' := fun V => (fun V => V.cell? (ad.add (j * 10)) = some (.int .i64 x.d) ∧ V.cell? ⟨(ad.add (j * 10)).block, (ad.add (j * 10)).off + 3, none⟩ = some (.slice A3 (byN x.dt).length c3_) ∧ V.cell? ⟨(ad.add (j * 10)).block, (ad.add (j * 10)).off + 4, none⟩ = some (.int .i64 x.n)) V ∧ V.cell? ⟨wr.heap.size + 1, 2, none⟩ = some (.int .i64 8)) (fun _ h => h.1) _ _ _ _ ?_
          have hHeldS : (fun V => (fun V => V.cell? (ad.add (j * 10)) = some (.int .i64 x.d) ∧ V.cell? ⟨(ad.add (j * 10)).block, (ad.add (j * 10)).off + 3, none⟩ = some (.slice A3 (byN x.dt).length c3_) ∧ V.cell? ⟨(ad.add (j * 10)).block, (ad.add (j * 10)).off + 4, none⟩ = some (.int .i64 x.n)) V ∧ V.cell? ⟨wr.heap.size + 1, 2, none⟩ = some (.int .i64 8)) ((wr.alloc (.cells #[.int .i64 0, .string ⟨#[]⟩, .string ⟨#[]⟩, .slice none 0 0, .int .i64 0, .int .i64 0, .string ⟨#[]⟩, .string ⟨#[]⟩, .int .i64 0, .int .i64 0] 33)).alloc (.cells #[.int .i64 4, .int .i64 7, .int .i64 8] 3)).drew := ⟨hHeldB, (blk_cell (blk_new2 wr (.cells #[.int .i64 0, .string ⟨#[]⟩, .string ⟨#[]⟩, .slice none 0 0, .int .i64 0, .int .i64 0, .string ⟨#[]⟩, .string ⟨#[]⟩, .int .i64 0, .int .i64 0] 33) (.cells #[.int .i64 4, .int .i64 7, .int .i64 8] 3)) 2).trans rfl⟩
          refine wpAnyH_take (i := 8) (v := ?_) rfl (by kernel_rfl) (by kernel_rfl) (by kernel_rfl) (fun _ _ _ h => h) (Or.inl ⟨by rfl, ?_⟩) (by assumption) ?_
          rotate_left
          · (intro V hSw; (try dsimp only at hSw); go_simp) <;> with_reducible rfl
          try simp only [Act.put, List.setIfInBounds_toArray, List.set_cons_zero, List.set_cons_succ]
          refine wpAnyH_take (i := 9) (v := ?_) rfl (by kernel_rfl) (by kernel_rfl) (by kernel_rfl) (fun _ _ _ h => h) (Or.inl ⟨by rfl, ?_⟩) (by assumption) ?_
          rotate_left
          · (intro V hSw; (try dsimp only at hSw); go_simp) <;> with_reducible rfl
          try simp only [Act.put, List.setIfInBounds_toArray, List.set_cons_zero, List.set_cons_succ]
          refine wpAnyH_take (i := 25) (v := ?_) rfl (by kernel_rfl) (by kernel_rfl) (by kernel_rfl) (fun _ _ _ h => h) (Or.inl ⟨by rfl, ?_⟩) (by assumption) ?_
          rotate_left
          · (intro V hSw; (try dsimp only at hSw); go_simp) <;> with_reducible rfl
          try simp only [Act.put, List.setIfInBounds_toArray, List.set_cons_zero, List.set_cons_succ]
          refine wpAnyH_ready (rs := [27]) (by kernel_rfl) (by simp) ?_
          refine AllReadyH.cons rfl (fun K hK => ?_) AllReadyH.nil
          go_simp
          refine hK.out _ _ ⟨HSF.out _ (by repeat (first | exact HS.out.b | refine Below.drew ?_ | refine Below.alloc ?_ (by have := HS.out.b.size; simp; omega) _)), (blk_cell (blk_new2 wr (.cells #[.int .i64 8, .string ⟨#[97, 98, 99]⟩, .string (mkS key), .slice A3 (byN x.dt).length c3_, .int .i64 (10 + (m : Int)), .int .i64 0, .string ⟨#[]⟩, .string ⟨#[]⟩, .int .i64 0, .int .i64 0] 33) (.cells #[.int .i64 4, .int .i64 7, .int .i64 8] 3)) 2).trans rfl⟩ (fun hHeldC => ?_)
          clear hK K
          try simp only [Act.put, List.setIfInBounds_toArray, List.set_cons_zero, List.set_cons_succ]
          refine wpAnyH_done (by kernel_rfl) ?_ _
          clear hHeld hHeldA hHeldS hHeldB hHeldC
          obtain ⟨W9, hW9⟩ : ∃ W9, ((wr.alloc (.cells #[.int .i64 8, .string ⟨#[97, 98, 99]⟩, .string (mkS key), .slice A3 (byN x.dt).length c3_, .int .i64 (10 + (m : Int)), .int .i64 0, .string ⟨#[]⟩, .string ⟨#[]⟩, .int .i64 0, .int .i64 0] 33)).alloc (.cells #[.int .i64 4, .int .i64 7, .int .i64 8] 3)).drew = W9 := ⟨_, rfl⟩
          have HB9 : Hid (Below w.heap.size w W9) := by rw [← hW9]; exact (by repeat (first | exact HS.out.b | refine Below.drew ?_ | refine Below.alloc ?_ (by have := HS.out.b.size; simp; omega) _))
          have hb9 : Below wr.heap.size wr W9 := by rw [← hW9]; repeat (first | exact Below.refl _ _ | refine Below.drew ?_ | refine Below.alloc ?_ (by simp) _)
          have hk9 : W9.heap[wr.heap.size]? = some (.cells #[.int .i64 8, .string ⟨#[97, 98, 99]⟩, .string (mkS key), .slice A3 (byN x.dt).length c3_, .int .i64 (10 + (m : Int)), .int .i64 0, .string ⟨#[]⟩, .string ⟨#[]⟩, .int .i64 0, .int .i64 0] 33 (0, 0)) := by rw [← hW9]; exact blk_alloc (blk_new wr (.cells #[.int .i64 8, .string ⟨#[97, 98, 99]⟩, .string (mkS key), .slice A3 (byN x.dt).length c3_, .int .i64 (10 + (m : Int)), .int .i64 0, .string ⟨#[]⟩, .string ⟨#[]⟩, .int .i64 0, .int .i64 0] 33)) (.cells #[.int .i64 4, .int .i64 7, .int .i64 8] 3)
          rw [hW9]
          clear hW9
          obtain ⟨c0, c1, c2, c3, c4, c5, c6, c7, c8, c9⟩ : ChAt W9 (wr.heap.size) 8 abc key (.slice A3 (byN x.dt).length c3_) (10 + (m : Int)) 0 [] [] 0 0 := chAt_of hk9
          have HO9 : Hid (Kd.N kCh 33 W9 w.heap.size (fun k => k < w0.heap.size ∨ w.heap.size ≤ k) sv ((l.take j).map (bentC key))) := Kd.N_below HS.out.o hb9
          have HFK : Hid (Kd.FK kCh W9 (fun k => k < w0.heap.size) ⟨8, abc, key, x.dt, 10 + (m : Int), 0, [], [], 0, 0⟩ (chCells ⟨8, abc, key, x.dt, 10 + (m : Int), 0, [], [], 0, 0⟩ (.slice A3 (byN x.dt).length c3_))) := kCh_mkF (Kd.V_below HDT.out (HW.out.trans (HB9.out.mono HW.out.size)))
          have HEQ : Hid (bentC key x = ⟨8, abc, key, x.dt, 10 + (m : Int), 0, [], [], 0, 0⟩) := by show _ = _; unfold bentC; rw [hd0.out, hm2]
          clear hk9 hb9 hm1 hm2 hq1 hq2 wm wm2
          go_wp2_with (at_builtin; refine Kd.N_append kCh (w0 := w) w.heap.size rfl (.tmp 40) (.tmp 42) 22 33 (.agg (chCells (bareC 0) (.slice none 0 0)).toArray) 128 rfl Tryd.underlying22 infoCh rfl (by decide) (by omega) sv ((l.take j).map (bentC key)) ⟨8, abc, key, x.dt, 10 + (m : Int), 0, [], [], 0, 0⟩ (chCells ⟨8, abc, key, x.dt, 10 + (m : Int), 0, [], [], 0, 0⟩ (.slice A3 (byN x.dt).length c3_)) (fun k => k < w0.heap.size ∨ w.heap.size ≤ k) (fun k => k < w0.heap.size) rfl rfl HFK.out (fun k hk => ⟨.inl hk, fun e => by have := HOW.out k e.symm; have := HW.out.size; omega⟩) (fun k hk => .inr (by have := HB9.out.size; omega)) HO9.out HB9.out HB9.out.size hl2 ?_; intro v1 w5 hN5 hb5 hg5 hat5)
          have HS5 : Hid (BentSt w0 w ((l.take (j + 1)).map (bentC key)) v1 w5) := ⟨hb5, by rw [HTK.out, HEQ.out]; exact hN5⟩
          clear hN5 hb5 hg5 hat5
          go_wp2_with fail
          go_roundw
          case rel => exact ⟨j + 1, v1, rfl, by go_num, by omega, HS5⟩
          case measure => simp [intOf]; omega
    · obtain rfl : j = l.length := by omega
      rw [List.take_length] at HS
      clear hj hlt
      go_wp2_with fail
      go_ret
      exact ⟨⟨_, rfl, HS.out.o⟩, HS.out.b⟩
end Go.Proofs.YtjbjcfnbgcloiaaDoor

/- Calls on two keys may change places, plainly. -/
namespace Go.Proofs.YtjbjcfnbgcloiaaDoor
open Go.RowKit Nam YtjbjcfnbgcloiaaDoorW.PrintWords

def kl : List UInt8 := [108]
theorem kl_named : namedB abc kl = true := by decide
theorem kx_kl : kx ≠ kl := by decide
def rowS (l : List Kp) (x : Ch) (id : Int) : List Kp :=
  if x.d = 4 then (if x.dt.length ≤ 65536 ∧ moreE l (kpOf id x.dt) = 0 then l ++ [kpOf id x.dt] else l)
  else if x.d = 7 then (if l ≠ [] ∧ moreE l (kpDel id) = 0 then l ++ [kpDel id] else l)
  else (if l ≠ [] ∧ 1 ≤ x.n ∧ ¬ idxK x.n l < 0 then l.take (idxK x.n l).toNat ++ l.drop ((idxK x.n l).toNat + 1) else l)
theorem put_self (S : St) (b k : List UInt8) : S.put b k (S.V b k) = S := by
  obtain ⟨B, V⟩ := S
  unfold St.put
  congr 1
  funext b' k'
  show (if b' = b ∧ k' = k then V b k else V b' k') = V b' k'
  split
  · rename_i h
    rw [h.1, h.2]
  · rfl
theorem callS_row {S : St} {x : Ch} {id : Int} (hd : x.d = 4 ∨ x.d = 7 ∨ x.d = 8) (hn : namedB x.bk x.ky = true) (hB : x.bk ∈ S.B) : S.callS x id = S.put x.bk x.ky (rowS (S.V x.bk x.ky) x id) := by
  have hf : ∀ n m : Int, S.findE x.bk x.ky n m = 0 ↔ (m ≤ n ∧ S.V x.bk x.ky ≠ [] ∧ ¬ idxK n (S.V x.bk x.ky) < 0) := fun n m => by
    unfold St.findE
    rw [if_neg (by rw [hn]; simp)]
    by_cases h1 : n < m
    · rw [if_pos h1]
      constructor
      · intro h; cases h
      · intro h; omega
    · rw [if_neg h1, if_neg (fun e => e hB)]
      by_cases h2 : S.V x.bk x.ky = []
      · rw [if_pos h2]
        constructor
        · intro h; cases h
        · intro h; exact absurd h2 h.2.1
      · rw [if_neg h2]
        by_cases h3 : idxK n (S.V x.bk x.ky) < 0
        · rw [if_pos h3]
          constructor
          · intro h; cases h
          · intro h; exact absurd h3 h.2.2
        · rw [if_neg h3]
          exact ⟨fun _ => ⟨by omega, h2, h3⟩, fun _ => rfl⟩
  unfold St.callS rowS
  rcases hd with h4 | h7 | h8
  · rw [if_pos h4, if_pos h4]
    have hp : S.putE id x.bk x.ky x.dt = 0 ↔ x.dt.length ≤ 65536 ∧ moreE (S.V x.bk x.ky) (kpOf id x.dt) = 0 := by
      unfold St.putE
      rw [if_neg (by rw [hn]; simp)]
      by_cases h1 : 65536 < x.dt.length
      · rw [if_pos h1]
        constructor
        · intro h; cases h
        · intro h; omega
      · rw [if_neg h1, if_neg (fun e => e hB)]
        exact ⟨fun h => ⟨by omega, h⟩, fun h => h.2⟩
    unfold St.doPut
    by_cases h : S.putE id x.bk x.ky x.dt = 0
    · rw [if_pos h, if_pos (hp.1 h)]
    · rw [if_neg h, if_neg (fun e => h (hp.2 e)), put_self]
  · rw [if_neg (by omega), if_pos h7, if_neg (by omega), if_pos h7]
    have hi : ¬ idxK 0 (S.V x.bk x.ky) < 0 ∨ S.V x.bk x.ky = [] := by
      by_cases h2 : S.V x.bk x.ky = []
      · exact .inr h2
      · left
        have := List.length_pos_iff.2 h2
        unfold idxK
        rw [if_pos rfl]
        omega
    have hp : S.delE id x.bk x.ky = 0 ↔ S.V x.bk x.ky ≠ [] ∧ moreE (S.V x.bk x.ky) (kpDel id) = 0 := by
      unfold St.delE
      by_cases h1 : S.findE x.bk x.ky 0 0 = 0
      · rw [if_neg (fun e => e h1)]
        exact ⟨fun h => ⟨((hf 0 0).1 h1).2.1, h⟩, fun h => h.2⟩
      · rw [if_pos h1]
        constructor
        · intro h; exact absurd h h1
        · intro h
          rcases hi with hi | hi
          · exact absurd ((hf 0 0).2 ⟨Int.le_refl _, h.1, hi⟩) h1
          · exact absurd hi h.1
    unfold St.doDel
    by_cases h : S.delE id x.bk x.ky = 0
    · rw [if_pos h, if_pos (hp.1 h)]
    · rw [if_neg h, if_neg (fun e => h (hp.2 e)), put_self]
  · rw [if_neg (by omega), if_neg (by omega), if_pos h8, if_neg (by omega), if_neg (by omega)]
    unfold St.doEra St.eraL
    by_cases h : S.findE x.bk x.ky x.n 1 = 0
    · rw [if_pos h, if_pos (by have := (hf _ _).1 h; exact ⟨this.2.1, this.1, this.2.2⟩)]
    · rw [if_neg h, if_neg (fun e => h ((hf _ _).2 ⟨e.2.1, e.1, e.2.2⟩)), put_self]
/-- Two keys' rows. -/
def Sat (f g : List Kp) : St := ⟨[abc], fun b k => if b = abc then (if k = kx then f else if k = kl then g else []) else []⟩
theorem sat_x (f g : List Kp) : (Sat f g).V abc kx = f := by simp [Sat]
theorem sat_l (f g : List Kp) : (Sat f g).V abc kl = g := by simp [Sat, kx_kl.symm]
theorem sat_putx (f g f' : List Kp) : (Sat f g).put abc kx f' = Sat f' g := by
  unfold St.put Sat
  congr 1
  funext b k
  by_cases hb : b = abc
  · by_cases hk : k = kx
    · simp [hb, hk]
    · simp [hb, hk]
  · simp [hb]
theorem sat_putl (f g g' : List Kp) : (Sat f g).put abc kl g' = Sat f g' := by
  unfold St.put Sat
  congr 1
  funext b k
  by_cases hb : b = abc
  · by_cases hk : k = kl
    · simp [hb, hk, kx_kl.symm]
    · simp [hb, hk]
  · simp [hb]
theorem s1_sat : S1 = Sat [] [] := by
  unfold S1 Sat
  congr 1
  funext b k
  simp
theorem bentD_of (d : Int) : bentD d = 4 ∨ bentD d = 7 ∨ bentD d = 8 := by
  unfold bentD
  split
  · exact .inl rfl
  · split
    · exact .inr (.inl rfl)
    · exact .inr (.inr rfl)
theorem bent_named (key : List UInt8) (x : Ch) : Named (bentC key x) := by
  rcases bentD_of x.d with h | h | h
  · exact .inl h
  · exact .inr (.inr (.inr (.inl h)))
  · exact .inr (.inr (.inr (.inr h)))
theorem sat_callx (f g : List Kp) (y : Ch) (id : Int) : (Sat f g).callS (bentC kx y) id = Sat (rowS f (bentC kx y) id) g := by
  rw [callS_row (bentD_of y.d) (by exact abc_named) (by simp [Sat, bentC])]
  show (Sat f g).put abc kx (rowS ((Sat f g).V abc kx) (bentC kx y) id) = _
  rw [sat_x, sat_putx]
theorem sat_calll (f g : List Kp) (y : Ch) (id : Int) : (Sat f g).callS (bentC kl y) id = Sat f (rowS g (bentC kl y) id) := by
  rw [callS_row (bentD_of y.d) (by exact kl_named) (by simp [Sat, bentC])]
  show (Sat f g).put abc kl (rowS ((Sat f g).V abc kl) (bentC kl y) id) = _
  rw [sat_l, sat_putl]
/-- A key's row behind its first i choices. -/
def frow (key : List UInt8) (l : List Ch) : Nat → List Kp
  | 0 => []
  | i + 1 => match l[i]? with
    | some y => rowS (frow key l i) (bentC key y) (10 + (i : Int))
    | none => frow key l i
theorem frow_at {key : List UInt8} {l : List Ch} {i : Nat} (h : i < l.length) : frow key l (i + 1) = rowS (frow key l i) (bentC key l[i]) (10 + (i : Int)) := by
  show (match l[i]? with | some y => rowS (frow key l i) (bentC key y) (10 + (i : Int)) | none => frow key l i) = _
  rw [List.getElem?_eq_getElem h]
theorem frow_out {key : List UInt8} {l : List Ch} {i : Nat} (h : l.length ≤ i) : frow key l (i + 1) = frow key l i := by
  show (match l[i]? with | some y => rowS (frow key l i) (bentC key y) (10 + (i : Int)) | none => frow key l i) = _
  rw [List.getElem?_eq_none h]
theorem frow_ge {key : List UInt8} {l : List Ch} : ∀ {i : Nat}, l.length ≤ i → frow key l i = frow key l l.length
  | 0, h => by rw [show l.length = 0 by omega]
  | i + 1, h => by
    by_cases e : l.length = i + 1
    · rw [e]
    · rw [frow_out (by omega), frow_ge (by omega)]
/-- A call of a bent choice. -/
theorem two_bent {w0 W : World} {g n g' n' : Nat} {S S' : St} (h : Two w0 W g S n g' S' n') (key : List UInt8) (y : Ch) (A : Option Addr) (c : Nat) (id : Int) (hk : key.length ≤ 100) (hdt : y.dt.length ≤ 3000) (hn : n ≤ 1000) (hS : S.Fine) (hC : HasD W (.slice A (byN y.dt).length c) y.dt) (hT : Tabs W) :
    Calls Tryd.prog 10 #[.pointer (some ⟨g, 0, none⟩), .agg (chCells (bentC key y) (.slice A (byN y.dt).length c)).toArray, .int .i64 id] W fun e w' =>
      (∃ v, e = .returned v) ∧ Two w0 w' g (S.callS (bentC key y) id) (n + 1) g' S' n' :=
  (two_call h (bentC key y) A c id (bent_named key y) (by show abc.length ≤ _; decide) (by show key.length ≤ _; omega) (by show y.dt.length ≤ _; omega) (by omega) hS (fun V hV => by
    obtain ⟨A', c', e, _, hF⟩ := (hC.below hV).now
    injection e with e _ _
    subst e
    exact hF V (fun _ _ _ => rfl)) hT).mono fun e w' ⟨⟨y, dv, he⟩, h2⟩ => ⟨⟨_, he⟩, h2⟩
end Go.Proofs.YtjbjcfnbgcloiaaDoor
