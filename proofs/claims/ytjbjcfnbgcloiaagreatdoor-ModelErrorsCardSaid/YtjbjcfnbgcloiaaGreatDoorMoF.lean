/- more of package model: a version more. -/
import Derived.Test.YtjbjcfnbgcloiaaGreatDoorMoE
namespace Go.Proofs.YtjbjcfnbgcloiaaGreatDoor
open Go.RowKit Nam YtjbjcfnbgcloiaaGreatDoorW.PrintWords

theorem look1' {w : World} {g : Nat} {S : St} {n : Nat} {Q F : Nat → Prop} {mb : Nat} {D : DataW Unit} (h : Outer w g S n Q F mb D) {s : List UInt8} (hs : s.length ≤ maxLen) {ib : Nat} (hat : D.atKey (.string s) .nil = .lit (.int .i64 ib)) :
    (Instr.lookup 57 (.map (some mb)) (.string (mkS s)) false).run Tryz.prog w = .ok (.map (some ib)) w := by
  obtain ⟨v, ps, hrun, hv⟩ := h.o.lookup KS Tryz.underlying57 (zero63 w) (zd := .nil) (zp := []) rfl (key_str s hs)
  rw [hat] at hv
  rw [hrun, R1_one hv (show R1 (.map (some ib)) = some (.lit (.int .i64 ib), []) from rfl)]
theorem look1m {w : World} {n mb : Nat} {D : DataW Unit} (h : w.ownsMap Tryz.prog 9 R1 mb n D) {s : List UInt8} (hs : s.length ≤ maxLen) {ib : Nat} (hat : D.atKey (.string s) .nil = .lit (.int .i64 ib)) :
    (Instr.lookup 57 (.map (some mb)) (.string (mkS s)) false).run Tryz.prog w = .ok (.map (some ib)) w := by
  obtain ⟨v, ps, hrun, hv⟩ := h.lookup KS Tryz.underlying57 (zero63 w) (zd := .nil) (zp := []) rfl (key_str s hs)
  rw [hat] at hv
  rw [hrun, R1_one hv (show R1 (.map (some ib)) = some (.lit (.int .i64 ib), []) from rfl)]
theorem look2' {w : World} {b n : Nat} {D : DataW Unit} (h : w.ownsMap Tryz.prog 9 R2 b n D) {s : List UInt8} (hs : s.length ≤ maxLen) {v : Value} {ps : List MemPlace} (hv' : R2 v = some (D.atKey (.string s) .nil, ps)) :
    (Instr.lookup 63 (.map (some b)) (.string (mkS s)) false).run Tryz.prog w = .ok v w := by
  obtain ⟨u, ps', hrun, hv⟩ := h.lookup KS Tryz.underlying63 (zero77 w) (zd := .nil) (zp := []) rfl (key_str s hs)
  rw [hrun, R2_one hv hv']
theorem last_at {w : World} {F : Nat → Prop} {g c n : Nat} {l : List Kp} {y : Kp} (h : RowV w F (.slice (some ⟨g, 0, none⟩) n c) l) (hy : l.getLast? = some y) : w.cell? ⟨g, (l.length - 1) * 5, none⟩ = some (.int .i64 y.id) := by
  rw [List.getLast?_eq_getElem?] at hy
  obtain ⟨A, c', _, _, hcell⟩ := h.at_ (l.length - 1) hy
  exact hcell 0 _ rfl
theorem more_err {w w' : World} {g : Nat} {S : St} {n : Nat} {Q F Fx : Nat → Prop} {b k : List UInt8} {x : Kp} {err : Int} (h : moreE (S.V b k) x = err) (h0 : err ≠ 0) (hm : HasM w g S n Q F) (hb : Below w.heap.size w w') :
    MoreIs S n Q F Fx g b k x w (.returned (.tuple #[.agg #[.int .i64 0, .bool false, .int .i64 0, .int .u32 0], .int .i64 err])) w' := by
  unfold MoreIs St.more
  rw [h, if_neg h0, if_neg h0]
  exact ⟨rfl, ⟨F, (hm.below hb).mono (by omega), fun j hj => .inl hj⟩, Moved.of_below hb⟩

theorem belowA {w a : World} (h : Below w.heap.size w a) (o : Obj) : Below w.heap.size w (a.alloc o) := h.alloc h.size o
/-- The end of a call that has put a version more. -/
theorem more_fin {w w5 : World} {g n mb ib g3 cap3 : Nat} {S : St} {Q F Fx : Nat → Prop} {D D2 : DataW Unit} {b k : List UInt8} {x : Kp} {l : List Kp} {news : List Value} {A : Option Addr} {c : Nat} (hm : HasM w g S n Q F) (hB : b ∈ S.B) (hO : Outer w g S n Q F mb D)
    (hat : D.atKey (.string b) .nil = .lit (.int .i64 ib)) (hqi : Q ib) (hne : ib ≠ mb) (hin : w.ownsMap Tryz.prog 9 R2 ib n D2) (hv2 : ∀ s, ∃ v ps, R2 v = some (D2.atKey (.string s) .nil, ps) ∧ RowV w F v (S.V b s)) (hl : S.V b k = l) (hE : moreE (S.V b k) x = 0)
    (hxc : x.dt.length ≤ c) (hx : DatF w Fx A x.dt) (hfx : ∀ j, Fx j → IsC w j) (hr : Reps (KpF w F) 5 l news)
    (hown : w5.ownsMap Tryz.prog 9 R2 ib (n + 1) (D2.put (.string k) (.agg [.lit (.int .i64 g3), .lit (.int .i64 (l.length + 1 : Nat)), .lit (.int .i64 cap3)]))) (hmv : Moved (fun j => j = ib) w w5)
    (hrow : w5.ownsRow (w.heap.size + 2) 67 5 (.slice (some ⟨g3, 0, none⟩) (l.length + 1) cap3) (l.length + 1) (news ++ kpCells x (.slice A x.dt.length c))) :
    MoreIs S n Q F Fx g b k x w (.returned (.tuple #[.agg #[.int .i64 x.id, .bool x.mark, .int .i64 x.sz, .int .u32 x.sum], .int .i64 0])) (w5.setRow (w.heap.size + 1) #[.int .i64 x.id, .bool x.mark, .int .i64 x.sz, .int .u32 x.sum]) := by
  obtain ⟨w6, hw6⟩ : ∃ w6, w5.setRow (w.heap.size + 1) #[.int .i64 x.id, .bool x.mark, .int .i64 x.sz, .int .u32 x.sum] = w6 := ⟨_, rfl⟩
  have hmv6 := hmv.setRow (w.heap.size + 1) (by omega) #[.int .i64 x.id, .bool x.mark, .int .i64 x.sz, .int .u32 x.sum]
  rw [hw6] at hmv6
  have hib : ib < w.heap.size := isM_lt (hm.q ib hqi)
  have hck : FKept F w w6 := hmv6.cells (fun j hj => by subst hj; exact hm.q j hqi) hm.f
  have hcx : FKept Fx w w6 := hmv6.cells (fun j hj => by subst hj; exact hm.q j hqi) hfx
  have hg3 : w.heap.size + 2 ≤ g3 := own_base hrow g3 rfl
  have hrow6 : w6.ownsRow (w.heap.size + 2) 67 5 (.slice (some ⟨g3, 0, none⟩) (l.length + 1) cap3) (l.length + 1) (news ++ kpCells x (.slice A x.dt.length c)) := by
    rw [← hw6]
    exact own_move hrow (fun j hj => setRow_other _ _ _ _ (by simp [Value.ownBlock] at hj; omega))
  have hreps : Reps (KpF w6 (fun j => F j ∨ Fx j ∨ j = g3)) 5 (l ++ [x]) (news ++ kpCells x (.slice A x.dt.length c)) :=
    (reps_mono (reps_kept hr hck) (fun j hj => .inl hj)).snoc ⟨A, c, rfl, hxc, (hx.kept hcx).mono (fun j hj => .inr (.inl hj))⟩ rfl
  have hRV := rowV_of_own hrow6 hreps (by simp) (fun j hj => by simp [Value.ownBlock] at hj; exact .inr (.inr hj.symm))
  have hs := stored hm.q hm.f (F' := fun j => F j ∨ Fx j ∨ j = g3) (fun j hj => .inl hj) (fun j hj => by
      rcases hj with hj | hj | rfl
      · obtain ⟨a, b, c, e⟩ := hm.f j hj
        exact ⟨a, b, c, (hck j hj).trans e⟩
      · obtain ⟨a, b, c, e⟩ := hfx j hj
        exact ⟨a, b, c, (hcx j hj).trans e⟩
      · obtain ⟨cells, hc⟩ := own_typed hrow6 j rfl
        exact ⟨_, _, _, hc⟩) hm.nd hm.off hO hB hat hqi hne hin hv2 (v := .slice (some ⟨g3, 0, none⟩) (l.length + 1) cap3) rfl (ownsMap_kept hown (by rw [← hw6]; exact setRow_other _ _ _ _ (by omega))) hmv6 hRV
  unfold MoreIs St.more
  rw [hE, if_pos rfl, if_pos rfl, hl, hw6]
  exact ⟨rfl, ⟨_, hs.1, fun j hj => by rcases hj with hj | hj | rfl; exact .inl hj; exact .inr (.inl hj); exact .inr (.inr (by omega))⟩, hs.2⟩

set_option maxHeartbeats 1000000 in
set_option maxRecDepth 100000 in
theorem more_is (w : World) (g : Nat) (S : St) (n : Nat) (Q F Fx : Nat → Prop) (b k : List UInt8) (x : Kp) (A : Option Addr) (c : Nat) (hb : b.length ≤ 100000) (hk : k.length ≤ 100000) (hn : n ≤ 100000) (hm : HasM w g S n Q F) (hB : b ∈ S.B)
    (hxc : x.dt.length ≤ c) (hx : DatF w Fx A x.dt) (hfx : ∀ j, Fx j → IsC w j) :
    Calls Tryz.prog 51 #[.pointer (some ⟨g, 0, none⟩), .string (mkS b), .string (mkS k), .agg #[.int .i64 x.id, .bool x.mark, .int .i64 x.sz, .int .u32 x.sum, .slice A x.dt.length c]] w (MoreIs S n Q F Fx g b k x w) := by
  have HM := Lib.hid hm
  obtain ⟨mb, D, hO⟩ := hm.ex
  obtain ⟨ib, hat, hqi, hne, D2, hin, hv2⟩ := hO.at_ b hB
  obtain ⟨v, ps, hv, hrow⟩ := hv2 k
  obtain ⟨l, hl⟩ : ∃ l, S.V b k = l := ⟨_, rfl⟩
  rw [hl] at hrow
  obtain ⟨W2, hW2⟩ : ∃ W2, (w.alloc (.cells #[.int .i64 x.id, .bool x.mark, .int .i64 x.sz, .int .u32 x.sum, .slice A x.dt.length c] 67)).alloc (.cells #[.int .i64 0, .bool false, .int .i64 0, .int .u32 0] 38) = W2 := ⟨_, rfl⟩
  have hb2 : Below w.heap.size w W2 := by rw [← hW2]; exact ((Below.refl _ _).alloc (Nat.le_refl _) _).alloc (by simp) _
  have hbx : W2.heap[w.heap.size]? = some (.cells #[.int .i64 x.id, .bool x.mark, .int .i64 x.sz, .int .u32 x.sum, .slice A x.dt.length c] 67 (0, 0)) := by rw [← hW2]; exact (heap_alloc_old _ _ (by simp)).trans (heap_alloc_new w _)
  have hbv : W2.heap[w.heap.size + 1]? = some (.cells #[.int .i64 0, .bool false, .int .i64 0, .int .u32 0] 38 (0, 0)) := by
    rw [← hW2]
    have := heap_alloc_new (w.alloc (.cells #[.int .i64 x.id, .bool x.mark, .int .i64 x.sz, .int .u32 x.sum, .slice A x.dt.length c] 67)) (.cells #[.int .i64 0, .bool false, .int .i64 0, .int .u32 0] 38)
    simpa using this
  have hs2 : w.heap.size + 2 = W2.heap.size := by rw [← hW2]; simp
  have hO2 := hO.below hm.q hm.f hb2
  have hin2 : W2.ownsMap Tryz.prog 9 R2 ib n D2 := ownsMap_kept hin (hb2.block ib (isM_lt (hm.q ib hqi)))
  have hrow2 := hrow.kept (below_cells hb2 hm.f)
  have hrun1 := look1' hO2 (s := b) (by unfold maxLen; omega) hat
  have hrun2 := look2' hin2 (s := k) (by unfold maxLen; omega) hv
  have c0 := (blk_cell hO2.c 0).trans (rfl : _ = some (Value.map (some mb)))
  have x0 := (blk_cell hbx 0).trans (rfl : _ = some (Value.int .i64 x.id))
  have x1 := (blk_cell hbx 1).trans (rfl : _ = some (Value.bool x.mark))
  have x2 := (blk_cell hbx 2).trans (rfl : _ = some (Value.int .i64 x.sz))
  have x3 := (blk_cell hbx 3).trans (rfl : _ = some (Value.int .u32 x.sum))
  have x4 := (blk_cell hbx 4).trans (rfl : _ = some (Value.slice A x.dt.length c))
  have HBX := Lib.hid hbx
  have HBV := Lib.hid hbv
  have HB2 := Lib.hid hb2
  have HX := Lib.hid hx
  have HFX := Lib.hid hfx
  have HO := Lib.hid hO
  have HIN := Lib.hid hin
  have HV2 := Lib.hid hv2
  have HVK := Lib.hid hv
  have HAT := Lib.hid (And.intro hat (And.intro hqi hne))
  have HR2 := Lib.hid hrow2
  have HRW := Lib.hid hrow
  have HL := Lib.hid hl
  have HO2 := Lib.hid hO2
  have HIN2 := Lib.hid hin2
  obtain ⟨m, hmL⟩ : ∃ m, l.length = m := ⟨_, rfl⟩
  obtain ⟨A2, c2, hve, hlc⟩ := hrow2.slice
  rw [hmL] at hlc hve
  have HML := Lib.hid hmL
  clear hat hqi hne hin hv2 hv hrow hrow2 hl hb2 hbx hbv hO hO2 hin2 hm hx hfx hmL
  subst hve
  by_cases h64 : 64 ≤ m
  · have hR : Hid (moreE (S.V b k) x = 18) := by show _ = _; rw [HL.out]; unfold moreE; rw [if_pos (by rw [HML.out]; exact h64)]
    have hz : (64 : Int) ≤ (m : Int) := by omega
    clear h64
    go_enter Tryz.func51, Tryz.ntmps51
    go_upto_region 1 with (fail)
    clear hW2
    go_wp2_with (refine wpList_store_row rfl 38 (.tmp 8) (.tmp 23) rfl (w.heap.size + 1) #[.int .i64 0, .bool false, .int .i64 0, .int .u32 0] rfl rfl 38 _ HBV.out (by kernel_rfl) rfl (by simp [Value.oneCell']) ?_)
    refine bodyPost_ret (results_ct rfl _ _ (w.heap.size + 1) 38 #[.int .i64 0, .bool false, .int .i64 0, .int .u32 0] (0, 0) _ rfl (setRow_heap _ _ _ _ _ _ HBV.out) Tryz.underlying38 rfl (by kernel_rfl)) rfl ?_
    exact more_err hR.out (by decide) HM.out (below_setRow HB2.out (by omega) _)
  have hz : (m : Int) < (64 : Int) := by omega
  have hE : Hid (moreE (S.V b k) x = if x.id < 1 ∨ 2147483647 < x.id then 1 else match l.getLast? with
    | some y => if x.id ≤ y.id then 1 else 0
    | none => 0) := by show _ = _; rw [HL.out]; unfold moreE; rw [if_neg (by rw [HML.out]; exact h64)]; rfl
  clear h64
  by_cases h1 : x.id < 1
  · have hR : Hid (moreE (S.V b k) x = 1) := by show _ = _; rw [hE.out, if_pos (.inl h1)]
    have d1 : decide (x.id < 1) = true := decide_eq_true h1
    clear hE h1
    go_enter Tryz.func51, Tryz.ntmps51
    go_upto_region 1 with (fail)
    clear hW2
    go_wp2_with fail
    go_quiet (fail)
    go_wp2_with (refine wpList_store_row rfl 38 (.tmp 8) (.tmp 54) rfl (w.heap.size + 1) #[.int .i64 0, .bool false, .int .i64 0, .int .u32 0] rfl rfl 38 _ HBV.out (by kernel_rfl) rfl (by simp [Value.oneCell']) ?_)
    refine bodyPost_ret (results_ct rfl _ _ (w.heap.size + 1) 38 #[.int .i64 0, .bool false, .int .i64 0, .int .u32 0] (0, 0) _ rfl (setRow_heap _ _ _ _ _ _ HBV.out) Tryz.underlying38 rfl (by kernel_rfl)) rfl ?_
    exact more_err hR.out (by decide) HM.out (below_setRow (HB2.out.drewN nq) (by omega) _)
  have d1 : decide (x.id < 1) = false := decide_eq_false h1
  by_cases h2 : 2147483647 < x.id
  · have hR : Hid (moreE (S.V b k) x = 1) := by show _ = _; rw [hE.out, if_pos (.inr h2)]
    have d2 : decide (2147483647 < x.id) = true := decide_eq_true h2
    clear hE h1 h2
    go_enter Tryz.func51, Tryz.ntmps51
    go_upto_region 1 with (fail)
    clear hW2
    go_wp2_with fail
    go_quiet (fail)
    go_wp2_with (refine wpList_store_row rfl 38 (.tmp 8) (.tmp 54) rfl (w.heap.size + 1) #[.int .i64 0, .bool false, .int .i64 0, .int .u32 0] rfl rfl 38 _ HBV.out (by kernel_rfl) rfl (by simp [Value.oneCell']) ?_)
    refine bodyPost_ret (results_ct rfl _ _ (w.heap.size + 1) 38 #[.int .i64 0, .bool false, .int .i64 0, .int .u32 0] (0, 0) _ rfl (setRow_heap _ _ _ _ _ _ HBV.out) Tryz.underlying38 rfl (by kernel_rfl)) rfl ?_
    exact more_err hR.out (by decide) HM.out (below_setRow (HB2.out.drewN nq) (by omega) _)
  have d2 : decide (2147483647 < x.id) = false := decide_eq_false h2
  have hE2 : Hid (moreE (S.V b k) x = match l.getLast? with
    | some y => if x.id ≤ y.id then 1 else 0
    | none => 0) := by show _ = _; rw [hE.out, if_neg (by omega)]
  clear hE h1 h2
  by_cases hlast : ∃ y, l.getLast? = some y ∧ x.id ≤ y.id
  · obtain ⟨y, hy, hxy⟩ := hlast
    have hR : Hid (moreE (S.V b k) x = 1) := by show _ = _; rw [hE2.out, hy]; simp only []; rw [if_pos hxy]
    obtain ⟨m1, hm1⟩ : ∃ m1, m = m1 + 1 := ⟨m - 1, by
      have : l.length ≠ 0 := fun e => by
        have : l = [] := List.length_eq_zero_iff.1 e
        subst this
        cases hy
      have := HML.out
      omega⟩
    obtain ⟨g2, hA2⟩ : ∃ g2, A2 = some ⟨g2, 0, none⟩ := by
      obtain ⟨nw, h1, _⟩ := HR2.out
      rcases h1 with ⟨_, h0, _⟩ | ⟨g2, cc, hvv, _⟩
      · have : l = [] := List.length_eq_zero_iff.1 h0
        subst this
        cases hy
      · injection hvv with e _ _
        exact ⟨g2, e⟩
    subst hA2
    have y0 := last_at HR2.out hy
    rw [HML.out, show m - 1 = m1 by omega] at y0
    have wm : IntKind.i64.wrap ((m : Int) - 1) = (m1 : Int) := by rw [IntWalk.i64_in _ (by omega)]; omega
    have nn : (m1 : Int) < (m : Int) := by omega
    have n0 : (0 : Int) ≤ (m1 : Int) := by omega
    have hm0 : (0 : Int) < (m : Int) := by omega
    have hm0n : 0 < m := by omega
    have d3 : decide (x.id ≤ y.id) = true := decide_eq_true hxy
    clear hE2 hy hxy hm1
    go_enter Tryz.func51, Tryz.ntmps51
    go_upto_region 1 with (fail)
    clear hW2
    go_wp2_with fail
    go_quiet (fail)
    go_wp2_with (refine wpList_store_row rfl 38 (.tmp 8) (.tmp 54) rfl (w.heap.size + 1) #[.int .i64 0, .bool false, .int .i64 0, .int .u32 0] rfl rfl 38 _ HBV.out (by kernel_rfl) rfl (by simp [Value.oneCell']) ?_)
    refine bodyPost_ret (results_ct rfl _ _ (w.heap.size + 1) 38 #[.int .i64 0, .bool false, .int .i64 0, .int .u32 0] (0, 0) _ rfl (setRow_heap _ _ _ _ _ _ HBV.out) Tryz.underlying38 rfl (by kernel_rfl)) rfl ?_
    exact more_err hR.out (by decide) HM.out (below_setRow (HB2.out.drewN nq) (by omega) _)
  have hR : Hid (moreE (S.V b k) x = 0) := by
    show _ = _
    rw [hE2.out]
    cases hy : l.getLast? with
    | none => rfl
    | some y => simp only []; rw [if_neg (fun e => hlast ⟨y, hy, e⟩)]
  have HLA := Lib.hid hlast
  clear hE2 hlast
  have HBD : Hid (l.length ≤ 1000) := by show _ ≤ _; rw [HML.out]; omega
  have hmx : n < maxLen := by unfold maxLen; omega
  obtain ⟨i0, hi, hz0, hz1, hz2⟩ := info_parts infoKp
  have HI := Lib.hid (And.intro hi (And.intro hz0 (And.intro hz1 hz2)))
  clear hi hz0 hz1 hz2
  go_enter Tryz.func51, Tryz.ntmps51
  go_upto_region 1 with (fail)
  clear hW2
  go_upto_if 24 with (fail)
  go_cut [24] (fun v24 wx => ∃ nq, wx = W2.drewN nq ∧ v24 = .bool false)
  case first =>
    have hcs : (A2 = none ∧ m = 0 ∧ c2 = 0) ∨ ∃ g2, A2 = some ⟨g2, 0, none⟩ := by
      obtain ⟨nw, h1, _⟩ := HR2.out
      rcases h1 with ⟨h0, _, _⟩ | ⟨g2, cc, hvv, _⟩
      · injection h0 with e1 e2 e3
        exact .inl ⟨e1, e2, e3⟩
      · injection hvv with e _ _
        exact .inr ⟨g2, e⟩
    rcases hcs with ⟨rfl, rfl, rfl⟩ | ⟨g2, rfl⟩
    · have hmz : decide ((0 : Int) < 0) = false := by decide
      go_wp2_with fail
      go_quiet (fail)
      go_wp2_with fail
      go_meet
      case rel => exact ⟨nq, rfl, rfl⟩
    · by_cases hm0 : m = 0
      · subst hm0
        go_wp2_with fail
        go_quiet (fail)
        go_wp2_with fail
        go_meet
        case rel => exact ⟨nq, rfl, rfl⟩
      · obtain ⟨m1, hm1⟩ : ∃ m1, m = m1 + 1 := ⟨m - 1, by omega⟩
        obtain ⟨y, hy⟩ : ∃ y, l.getLast? = some y := by
          cases hl : l.getLast? with
          | some y => exact ⟨y, rfl⟩
          | none =>
            rw [List.getLast?_eq_none_iff] at hl
            have := HML.out
            rw [hl] at this
            exact absurd this.symm hm0
        have hxy : ¬ x.id ≤ y.id := fun e => HLA.out ⟨y, hy, e⟩
        have y0 := last_at HR2.out hy
        rw [HML.out, show m - 1 = m1 by omega] at y0
        have wm : IntKind.i64.wrap ((m : Int) - 1) = (m1 : Int) := by rw [IntWalk.i64_in _ (by omega)]; omega
        have nn : (m1 : Int) < (m : Int) := by omega
        have n0 : (0 : Int) ≤ (m1 : Int) := by omega
        have hm0i : (0 : Int) < (m : Int) := by omega
        have hm0n : 0 < m := by omega
        have d3 : decide (x.id ≤ y.id) = false := decide_eq_false hxy
        clear hy hxy hm1 hm0
        go_wp2_with fail
        go_quiet (fail)
        go_wp2_with fail
        go_meet
        case rel => exact ⟨nq, rfl, rfl⟩
  case rest =>
  obtain ⟨nq, hwc, rfl⟩ := hcut
  have hbc : Below W2.heap.size W2 wc := by rw [hwc]; exact (Below.refl _ _).drewN nq
  clear hwc
  have hq2 := (HM.out.below HB2.out).q
  have hf2 := (HM.out.below HB2.out).f
  have hOc := HO2.out.below hq2 hf2 hbc
  have hqc : ∀ k, Q k → IsM wc k := ((HM.out.below HB2.out).below hbc).q
  have HFc : Hid (∀ k, F k → IsC wc k) := ((HM.out.below HB2.out).below hbc).f
  have HOc := Lib.hid (And.intro hOc hqc)
  have HINc : Hid (wc.ownsMap Tryz.prog 9 R2 ib n D2) := ownsMap_kept HIN2.out (hbc.block ib (isM_lt (hq2 ib HAT.out.2.1)))
  have hibc : ib < wc.heap.size := isM_lt (hqc ib HAT.out.2.1)
  have HBXc := Lib.hid (blk_below HBX.out hbc)
  have HBVc := Lib.hid (blk_below HBV.out hbc)
  have hwcs : w.heap.size + 2 ≤ wc.heap.size := by have := hbc.size; omega
  have HBc : Hid (Below w.heap.size w wc) := HB2.out.trans (hbc.mono HB2.out.size)
  obtain ⟨news, hna, hrn⟩ := HRW.out
  have HRN := Lib.hid hrn
  have hnl : news.length = m * 5 := by rw [hrn.1, HML.out]
  rw [HML.out] at hna
  have HNA := Lib.hid hna
  clear hrn hna hq2 hf2 hOc hqc hbc
  have HSf : Hid (∀ V, Below wc.heap.size wc V → V.cell? ⟨g, 0, none⟩ = some (.map (some mb)) ∧ (Instr.lookup 57 (.map (some mb)) (.string (mkS b)) false).run Tryz.prog V = .ok (.map (some ib)) V ∧ V.cell? ⟨w.heap.size, 0, none⟩ = some (.int .i64 x.id) ∧ V.cell? ⟨w.heap.size, 1, none⟩ = some (.bool x.mark) ∧ V.cell? ⟨w.heap.size, 2, none⟩ = some (.int .i64 x.sz) ∧ V.cell? ⟨w.heap.size, 3, none⟩ = some (.int .u32 x.sum) ∧ V.cell? ⟨w.heap.size, 4, none⟩ = some (.slice A x.dt.length c)) := fun V hV => by
    have hO := HOc.out.1.below HOc.out.2 HFc.out hV
    have hbx := blk_below HBXc.out hV
    exact ⟨(blk_cell hO.c 0).trans rfl, look1' hO (by unfold maxLen; omega) HAT.out.1, (blk_cell hbx 0).trans rfl, (blk_cell hbx 1).trans rfl, (blk_cell hbx 2).trans rfl, (blk_cell hbx 3).trans rfl, (blk_cell hbx 4).trans rfl⟩
  have HCl : Hid (∀ V, Below wc.heap.size wc V → Calls Tryz.prog 21 #[.slice A2 m c2] V fun e w' => (∃ v', e = .returned v' ∧ Hid (w'.ownsRow wc.heap.size 67 5 v' m news)) ∧ Below wc.heap.size wc w' ∧ Hid (Below V.heap.size V w')) := fun V hV =>
    (kclone_at V F _ news m (by omega) hnl (reps_ones HRN.out) (HNA.out.kept ((below_cells HBc.out HM.out.f).trans (below_cells hV HFc.out)))).mono fun e w' ⟨⟨v', he, ho⟩, hb⟩ => ⟨⟨v', he, own_weaken ho hV.size⟩, hV.trans (hb.mono hV.size), hb⟩
  have HUp : Hid (∀ (W4 : World) (g3 cap3 : Nat), Below wc.heap.size wc W4 → ∃ w5, (Instr.mapUpdate 63 (.map (some ib)) (.string (mkS k)) (.slice (some ⟨g3, 0, none⟩) (m + 1) cap3)).run Tryz.prog W4 = .ok () w5 ∧ Hid (w5.ownsMap Tryz.prog 9 R2 ib (n + 1) (D2.put (.string k) (.agg [.lit (.int .i64 g3), .lit (.int .i64 (m + 1 : Nat)), .lit (.int .i64 cap3)]))) ∧ Hid (W4.grownBy w5 (some ib))) := fun W4 g3 cap3 h4 => by
    obtain ⟨w5, h1, h2, h3⟩ := (ownsMap_kept HINc.out (h4.block ib hibc)).update KS Tryz.underlying63 hmx (key_str k (by unfold maxLen; omega)) (show R2 (.slice (some ⟨g3, 0, none⟩) (m + 1) cap3) = some (.agg [.lit (.int .i64 g3), .lit (.int .i64 (m + 1 : Nat)), .lit (.int .i64 cap3)], []) from rfl)
    exact ⟨w5, h1, h2, h3⟩
  have HFi : Hid (∀ (W4 w5 : World) (g3 cap3 : Nat), Below wc.heap.size wc W4 → w5.ownsMap Tryz.prog 9 R2 ib (n + 1) (D2.put (.string k) (.agg [.lit (.int .i64 g3), .lit (.int .i64 (m + 1 : Nat)), .lit (.int .i64 cap3)])) → W4.grownBy w5 (some ib) → W4.ownsRow wc.heap.size 67 5 (.slice (some ⟨g3, 0, none⟩) (m + 1) cap3) (m + 1) (news ++ kpCells x (.slice A x.dt.length c)) →
      w5.heap[w.heap.size]? = some (.cells #[.int .i64 x.id, .bool x.mark, .int .i64 x.sz, .int .u32 x.sum, .slice A x.dt.length c] 67 (0, 0)) ∧ w5.heap[w.heap.size + 1]? = some (.cells #[.int .i64 0, .bool false, .int .i64 0, .int .u32 0] 38 (0, 0)) ∧
      MoreIs S n Q F Fx g b k x w (.returned (.tuple #[.agg #[.int .i64 x.id, .bool x.mark, .int .i64 x.sz, .int .u32 x.sum], .int .i64 0])) (w5.setRow (w.heap.size + 1) #[.int .i64 x.id, .bool x.mark, .int .i64 x.sz, .int .u32 x.sum])) := fun W4 w5 g3 cap3 h4 hown5 hg5 hrow4 => by
    have hib : ib < w.heap.size := isM_lt (HM.out.q ib HAT.out.2.1)
    have e1 : w5.heap[w.heap.size]? = wc.heap[w.heap.size]? := (hg5.block _ (by have := h4.size; omega) (by simp; omega)).trans (h4.block _ (by omega))
    have e2 : w5.heap[w.heap.size + 1]? = wc.heap[w.heap.size + 1]? := (hg5.block _ (by have := h4.size; omega) (by simp; omega)).trans (h4.block _ (by omega))
    refine ⟨e1.trans HBXc.out, e2.trans HBVc.out, ?_⟩
    have hmv : Moved (fun j => j = ib) w w5 := (Moved.of_below (HBc.out.trans (h4.mono HBc.out.size))).trans (Moved.of_grown hg5 (Q := fun j => j = ib) rfl) (fun i hi => .inl hi)
    have hlm := HML.out
    subst hlm
    have hg3 : wc.heap.size ≤ g3 := own_base hrow4 g3 rfl
    refine more_fin HM.out hB HO.out HAT.out.1 HAT.out.2.1 HAT.out.2.2 HIN.out HV2.out HL.out hR.out hxc HX.out HFX.out HRN.out hown5 hmv (own_weaken (own_other hrow4 hg5 (.inr ?_)) hwcs)
    simp only [Value.ownBlock]
    intro e
    injection e with e
    omega
  have HSm : Hid (∀ (W4 w5 : World), Below wc.heap.size wc W4 → W4.grownBy w5 (some ib) → w5.cell? ⟨g, 0, none⟩ = some (.map (some mb)) ∧ (Instr.lookup 57 (.map (some mb)) (.string (mkS b)) false).run Tryz.prog w5 = .ok (.map (some ib)) w5 ∧ w5.cell? ⟨w.heap.size, 0, none⟩ = some (.int .i64 x.id) ∧ w5.cell? ⟨w.heap.size, 1, none⟩ = some (.bool x.mark) ∧ w5.cell? ⟨w.heap.size, 2, none⟩ = some (.int .i64 x.sz) ∧ w5.cell? ⟨w.heap.size, 3, none⟩ = some (.int .u32 x.sum) ∧ w5.cell? ⟨w.heap.size, 4, none⟩ = some (.slice A x.dt.length c)) := fun W4 w5 h4 hg5 => by
    have hold : ∀ j, j < wc.heap.size → j ≠ ib → w5.heap[j]? = wc.heap[j]? := fun j hj hne => (hg5.block j (by have := h4.size; omega) (by simp; exact hne)).trans (h4.block j hj)
    have hib : ib < w.heap.size := isM_lt (HM.out.q ib HAT.out.2.1)
    have hO := HOc.out.1
    have hg : g ≠ ib := fun e => isC_not ⟨_, _, _, hO.c⟩ (HOc.out.2 g (by rw [e]; exact HAT.out.2.1))
    have hc := (hold g (isC_lt ⟨_, _, _, hO.c⟩) hg).trans hO.c
    have hbx := (hold w.heap.size (by omega) (by omega)).trans HBXc.out
    have hmo := ownsMap_kept hO.o (hold mb (isM_lt (HOc.out.2 mb hO.qm)) (fun e => HAT.out.2.2 e.symm))
    exact ⟨(blk_cell hc 0).trans rfl, look1m hmo (by unfold maxLen; omega) HAT.out.1, (blk_cell hbx 0).trans rfl, (blk_cell hbx 1).trans rfl, (blk_cell hbx 2).trans rfl, (blk_cell hbx 3).trans rfl, (blk_cell hbx 4).trans rfl⟩
  have hB0 : Below wc.heap.size wc wc.drew := (Below.refl _ _).drew
  have hBA : ∀ o, Below wc.heap.size wc (wc.alloc o).drew := fun o => ((Below.refl _ _).alloc (Nat.le_refl _) o).drew
  have HBA := Lib.hid hBA; clear hBA
  clear c0 x0 x1 x2 x3 x4 hrun1 hrun2
  go_wp2_with fail
  go_region_held_law (fun V => V.cell? ⟨g, 0, none⟩ = some (.map (some mb)) ∧ (Instr.lookup 57 (.map (some mb)) (.string (mkS b)) false).run Tryz.prog V = .ok (.map (some ib)) V ∧ V.cell? ⟨w.heap.size, 0, none⟩ = some (.int .i64 x.id) ∧ V.cell? ⟨w.heap.size, 1, none⟩ = some (.bool x.mark) ∧ V.cell? ⟨w.heap.size, 2, none⟩ = some (.int .i64 x.sz) ∧ V.cell? ⟨w.heap.size, 3, none⟩ = some (.int .u32 x.sum) ∧ V.cell? ⟨w.heap.size, 4, none⟩ = some (.slice A x.dt.length c))
    (first | (with_reducible exact (HSf.out _ (by with_reducible assumption))) | (exact HSf.out _ (belowA (by with_reducible assumption) _)) | (exact HSf.out _ (HBA.out _)) | (exact HSm.out _ _ (by with_reducible assumption) HG5.out) | go_keep)
    ((first
      | (go_at_call 21; refine (HCl.out _ (by with_reducible assumption)).mono ?_; rintro e w3 ⟨⟨v', rfl, HOW⟩, hb3, HBV3⟩)
      | (go_at_call 21; refine (HCl.out _ (HBA.out _)).mono ?_; rintro e w3 ⟨⟨v', rfl, HOW⟩, hb3, HBV3⟩)
      | (refine step_append_lies _ (by rfl) (.tmp 63) (.tmp 65) 64 (by rfl) wc.heap.size 67 i0 _ 5 56 Tryz.underlying64 HI.out.1 HI.out.2.1 HI.out.2.2.1 HI.out.2.2.2 rfl (by decide) v' m news (by rfl) (HOW.out.alloc _) ⟨w3.heap.size, 0, none⟩ 1 1 (kpCells x (.slice A x.dt.length c)) (by rfl) rfl (World.news_of_block (heap_alloc_new w3 _)) (by simp [kpCells, Value.oneCell']) (by decide) (by unfold maxLen; omega) (by omega) (hb3.alloc hb3.size _).size (w3.heap.size + 1) (by simp) ?_; intro g3 cap3 w4 hown4 hgr4 hat4 hlt4; have hb4 : Below wc.heap.size wc w4 := (hb3.alloc hb3.size _).grown hgr4 (hb3.alloc hb3.size _).size (fun j hj => own_base HOW.out j hj); obtain ⟨w5, hrun5, HOW5, HG5⟩ := HUp.out w4 g3 cap3 hb4; have HOW4 := Lib.hid hown4; clear hown4 hgr4 hat4 hlt4)
      | (refine step_append_lies _ (by rfl) (.tmp 63) (.tmp 65) 64 (by rfl) wc.heap.size 67 i0 _ 5 56 Tryz.underlying64 HI.out.1 HI.out.2.1 HI.out.2.2.1 HI.out.2.2.2 rfl (by decide) v' m news (by rfl) HOW.out ⟨wc.heap.size, 0, none⟩ 1 1 (kpCells x (.slice A x.dt.length c)) (by rfl) rfl (World.news_of_block (show w3.heap[wc.heap.size]? = some (.cells #[.int .i64 x.id, .bool x.mark, .int .i64 x.sz, .int .u32 x.sum, .slice A x.dt.length c] 67 (0, 0)) from blk_below (w := (wc.alloc _).drew) (blk_new wc _) HBV3.out)) (by simp [kpCells, Value.oneCell']) (by decide) (by unfold maxLen; omega) (by omega) hb3.size w3.heap.size rfl ?_; intro g3 cap3 w4 hown4 hgr4 hat4 hlt4; have hb4 : Below wc.heap.size wc w4 := hb3.grown hgr4 hb3.size (fun j hj => own_base HOW.out j hj); obtain ⟨w5, hrun5, HOW5, HG5⟩ := HUp.out w4 g3 cap3 hb4; have HOW4 := Lib.hid hown4; clear hown4 hgr4 hat4 hlt4)))
  all_goals
    obtain ⟨hbx5, hbv5, hfin⟩ := HFi.out _ _ _ _ hb4 HOW5.out HG5.out HOW4.out
    have z0 := (blk_cell hbx5 0).trans (rfl : _ = some (Value.int .i64 x.id))
    have z1 := (blk_cell hbx5 1).trans (rfl : _ = some (Value.bool x.mark))
    have z2 := (blk_cell hbx5 2).trans (rfl : _ = some (Value.int .i64 x.sz))
    have z3 := (blk_cell hbx5 3).trans (rfl : _ = some (Value.int .u32 x.sum))
    have HBV5 := Lib.hid hbv5
    have HFIN := Lib.hid hfin
    clear hbx5 hbv5 hfin hrun5 hb4 hb3 HUp HFi HSm HSf HCl HBA HOW5 HG5 HOW4 HOW HBV3 HNA HRN HBc HBXc HBVc HINc HOc HFc HI HBD HR2 HRW HVK HV2 HIN HIN2 HO2 HO HAT
    go_wp2_with (refine wpList_store_row rfl 38 (.tmp 8) (.tmp 68) rfl (w.heap.size + 1) #[.int .i64 x.id, .bool x.mark, .int .i64 x.sz, .int .u32 x.sum] rfl rfl 38 _ HBV5.out (by kernel_rfl) rfl (by simp [Value.oneCell']) ?_)
    refine bodyPost_ret (results_ct rfl _ _ (w.heap.size + 1) 38 #[.int .i64 x.id, .bool x.mark, .int .i64 x.sz, .int .u32 x.sum] (0, 0) _ rfl (setRow_heap _ _ _ _ _ _ HBV5.out) Tryz.underlying38 rfl (by kernel_rfl)) rfl ?_
    exact HFIN.out
end Go.Proofs.YtjbjcfnbgcloiaaGreatDoor
