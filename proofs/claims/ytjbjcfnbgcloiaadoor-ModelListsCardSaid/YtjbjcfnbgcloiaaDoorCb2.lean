/- more of package model: a version more. -/
import Derived.Test.YtjbjcfnbgcloiaaDoorCb1
import Derived.Deep.RegionHeld3
import Derived.Shelf.RegionOpenPlain
import Derived.Deep.RegionLaw
import Derived.Lib.SliceRun
import Derived.Laws.IdiomCopy
set_option linter.unusedSimpArgs false
set_option linter.unusedVariables false

namespace Go.Proofs.YtjbjcfnbgcloiaaDoor
open Go.RowKit Nam YtjbjcfnbgcloiaaDoorW.PrintWords

theorem look1' {w : World} {g : Nat} {S : St} {n : Nat} {Q F : Nat → Prop} {mb : Nat} {D : DataW Unit} (h : Outer w g S n Q F mb D) {s : List UInt8} (hs : s.length ≤ maxLen) {ib : Nat} (hat : D.atKey (.string s) .nil = .lit (.int .i64 ib)) :
    (Instr.lookup 59 (.map (some mb)) (.string (mkS s)) false).run Tryd.prog w = .ok (.map (some ib)) w := by
  obtain ⟨v, ps, hrun, hv⟩ := h.o.lookup KS Tryd.underlying59 (zero63 w) (zd := .nil) (zp := []) rfl (key_str s hs)
  rw [hat] at hv
  rw [hrun, R1_one hv (show R1 (.map (some ib)) = some (.lit (.int .i64 ib), []) from rfl)]
theorem look1m {w : World} {n mb : Nat} {D : DataW Unit} (h : w.ownsMap Tryd.prog 9 R1 mb n D) {s : List UInt8} (hs : s.length ≤ maxLen) {ib : Nat} (hat : D.atKey (.string s) .nil = .lit (.int .i64 ib)) :
    (Instr.lookup 59 (.map (some mb)) (.string (mkS s)) false).run Tryd.prog w = .ok (.map (some ib)) w := by
  obtain ⟨v, ps, hrun, hv⟩ := h.lookup KS Tryd.underlying59 (zero63 w) (zd := .nil) (zp := []) rfl (key_str s hs)
  rw [hat] at hv
  rw [hrun, R1_one hv (show R1 (.map (some ib)) = some (.lit (.int .i64 ib), []) from rfl)]
theorem look2' {w : World} {b n : Nat} {D : DataW Unit} (h : w.ownsMap Tryd.prog 9 R2 b n D) {s : List UInt8} (hs : s.length ≤ maxLen) {v : Value} {ps : List MemPlace} (hv' : R2 v = some (D.atKey (.string s) .nil, ps)) :
    (Instr.lookup 63 (.map (some b)) (.string (mkS s)) false).run Tryd.prog w = .ok v w := by
  obtain ⟨u, ps', hrun, hv⟩ := h.lookup KS Tryd.underlying63 (zero77 w) (zd := .nil) (zp := []) rfl (key_str s hs)
  rw [hrun, R2_one hv hv']
theorem last_at {w : World} {F : Nat → Prop} {g c n : Nat} {l : List Kp} {y : Kp} (h : RowV w F (.slice (some ⟨g, 0, none⟩) n c) l) (hy : l.getLast? = some y) : w.cell? ⟨g, (l.length - 1) * 5, none⟩ = some (.int .i64 y.id) := by
  rw [List.getLast?_eq_getElem?] at hy
  obtain ⟨A, c', _, _, hcell⟩ := h.at_ (l.length - 1) hy
  exact hcell 0 _ rfl
theorem more_err {w w' : World} {g : Nat} {S : St} {n : Nat} {Q F Fx : Nat → Prop} {b k : List UInt8} {x : Kp} {err : Int} (h : moreE (S.V b k) x = err) (h0 : err ≠ 0) (hm : HasM w g S n Q F) (hb : Below w.heap.size w w') :
    MoreIs S n Q F Fx g b k x w (.returned (.tuple #[.agg #[.int .i64 0, .bool false, .int .i64 0, .int .u32 0], .int .i64 err])) w' := by
  unfold MoreIs St.more
  rw [h, if_neg h0, if_neg h0]
  exact ⟨rfl, ⟨F, (hm.below hb).mono (by omega), fun j hj => .inl hj⟩, Moved.of_below hb⟩

theorem belowA {w a : World} (h : Below w.heap.size w a) (o : Obj) : Below w.heap.size w (a.alloc o) := h.alloc h.size o
/-- The end of a call that has put a version more. -/
theorem more_fin {w w5 : World} {g n mb ib g3 cap3 : Nat} {S : St} {Q F Fx : Nat → Prop} {D D2 : DataW Unit} {b k : List UInt8} {x : Kp} {l : List Kp} {news : List Value} {A : Option Addr} {c : Nat} (hm : HasM w g S n Q F) (hB : b ∈ S.B) (hO : Outer w g S n Q F mb D)
    (hat : D.atKey (.string b) .nil = .lit (.int .i64 ib)) (hqi : Q ib) (hne : ib ≠ mb) (hin : w.ownsMap Tryd.prog 9 R2 ib n D2) (hv2 : ∀ s, ∃ v ps, R2 v = some (D2.atKey (.string s) .nil, ps) ∧ RowV w F v (S.V b s)) (hl : S.V b k = l) (hE : moreE (S.V b k) x = 0)
    (hxc : x.dt.length ≤ c) (hx : DatF w Fx A x.dt) (hfx : ∀ j, Fx j → IsC w j) (hr : Reps (KpF w F) 5 l news)
    (hown : w5.ownsMap Tryd.prog 9 R2 ib (n + 1) (D2.put (.string k) (.agg [.lit (.int .i64 g3), .lit (.int .i64 (l.length + 1 : Nat)), .lit (.int .i64 cap3)]))) (hmv : Moved (fun j => j = ib) w w5)
    (hrow : w5.ownsRow (w.heap.size + 2) 74 5 (.slice (some ⟨g3, 0, none⟩) (l.length + 1) cap3) (l.length + 1) (news ++ kpCells x (.slice A x.dt.length c))) :
    MoreIs S n Q F Fx g b k x w (.returned (.tuple #[.agg #[.int .i64 x.id, .bool x.mark, .int .i64 x.sz, .int .u32 x.sum], .int .i64 0])) (w5.setRow (w.heap.size + 1) #[.int .i64 x.id, .bool x.mark, .int .i64 x.sz, .int .u32 x.sum]) := by
  obtain ⟨w6, hw6⟩ : ∃ w6, w5.setRow (w.heap.size + 1) #[.int .i64 x.id, .bool x.mark, .int .i64 x.sz, .int .u32 x.sum] = w6 := ⟨_, rfl⟩
  have hmv6 := hmv.setRow (w.heap.size + 1) (by omega) #[.int .i64 x.id, .bool x.mark, .int .i64 x.sz, .int .u32 x.sum]
  rw [hw6] at hmv6
  have hib : ib < w.heap.size := isM_lt (hm.q ib hqi)
  have hck : FKept F w w6 := hmv6.cells (fun j hj => by subst hj; exact hm.q j hqi) hm.f
  have hcx : FKept Fx w w6 := hmv6.cells (fun j hj => by subst hj; exact hm.q j hqi) hfx
  have hg3 : w.heap.size + 2 ≤ g3 := own_base hrow g3 rfl
  have hrow6 : w6.ownsRow (w.heap.size + 2) 74 5 (.slice (some ⟨g3, 0, none⟩) (l.length + 1) cap3) (l.length + 1) (news ++ kpCells x (.slice A x.dt.length c)) := by
    rw [← hw6]
    exact own_move hrow (fun j hj => setRow_other _ _ _ _ (by simp [Value.ownBlock] at hj; omega))
  have hreps : Reps (KpF w6 (fun j => F j ∨ Fx j ∨ j = g3)) 5 (l ++ [x]) (news ++ kpCells x (.slice A x.dt.length c)) :=
    (reps_mono (reps_kept hr hck) (fun j hj => .inl hj)).snoc ⟨A, c, rfl, hxc, (hx.kept hcx).mono (fun j hj => .inr (.inl hj))⟩ rfl
  have hRV := rowV_of_own hrow6 hreps (by simp) (fun j hj => by simp [Value.ownBlock] at hj; exact .inr (.inr hj.symm))
  have hs := stored hm.q hm.f (F' := fun j => F j ∨ Fx j ∨ j = g3) (fun j hj => .inl hj) (fun j hj => by
      rcases hj with hj | hj | rfl
      · obtain ⟨a, b, c, e⟩ := hm.f j hj
        exact ⟨a, b, c, (hck j hj).trans e⟩
      · obtain ⟨a, b, c, e⟩ := hfx j hj
        exact ⟨a, b, c, (hcx j hj).trans e⟩
      · obtain ⟨cells, hc⟩ := own_typed hrow6 j rfl
        exact ⟨_, _, _, hc⟩) hm.nd hm.off hO hB hat hqi hne hin hv2 (v := .slice (some ⟨g3, 0, none⟩) (l.length + 1) cap3) rfl (ownsMap_kept hown (by rw [← hw6]; exact setRow_other _ _ _ _ (by omega))) hmv6 hRV
  unfold MoreIs St.more
  rw [hE, if_pos rfl, if_pos rfl, hl, hw6]
  exact ⟨rfl, ⟨_, hs.1, fun j hj => by rcases hj with hj | hj | rfl; exact .inl hj; exact .inr (.inl hj); exact .inr (.inr (by omega))⟩, hs.2⟩

set_option maxHeartbeats 1000000 in
set_option maxRecDepth 100000 in
theorem more_is (w : World) (g : Nat) (S : St) (n : Nat) (Q F Fx : Nat → Prop) (b k : List UInt8) (x : Kp) (A : Option Addr) (c : Nat) (hb : b.length ≤ 100000) (hk : k.length ≤ 100000) (hn : n ≤ 100000) (hm : HasM w g S n Q F) (hB : b ∈ S.B)
    (hxc : x.dt.length ≤ c) (hx : DatF w Fx A x.dt) (hfx : ∀ j, Fx j → IsC w j) :
    Calls Tryd.prog 40 #[.pointer (some ⟨g, 0, none⟩), .string (mkS b), .string (mkS k), .agg #[.int .i64 x.id, .bool x.mark, .int .i64 x.sz, .int .u32 x.sum, .slice A x.dt.length c]] w (MoreIs S n Q F Fx g b k x w) := by
  have HM := Lib.hid hm
  obtain ⟨mb, D, hO⟩ := hm.ex
  obtain ⟨ib, hat, hqi, hne, D2, hin, hv2⟩ := hO.at_ b hB
  obtain ⟨v, ps, hv, hrow⟩ := hv2 k
  obtain ⟨l, hl⟩ : ∃ l, S.V b k = l := ⟨_, rfl⟩
  rw [hl] at hrow
  obtain ⟨W2, hW2⟩ : ∃ W2, (w.alloc (.cells #[.int .i64 x.id, .bool x.mark, .int .i64 x.sz, .int .u32 x.sum, .slice A x.dt.length c] 74)).alloc (.cells #[.int .i64 0, .bool false, .int .i64 0, .int .u32 0] 36) = W2 := ⟨_, rfl⟩
  have hb2 : Below w.heap.size w W2 := by rw [← hW2]; exact ((Below.refl _ _).alloc (Nat.le_refl _) _).alloc (by simp) _
  have hbx : W2.heap[w.heap.size]? = some (.cells #[.int .i64 x.id, .bool x.mark, .int .i64 x.sz, .int .u32 x.sum, .slice A x.dt.length c] 74 (0, 0)) := by rw [← hW2]; exact (heap_alloc_old _ _ (by simp)).trans (heap_alloc_new w _)
  have hbv : W2.heap[w.heap.size + 1]? = some (.cells #[.int .i64 0, .bool false, .int .i64 0, .int .u32 0] 36 (0, 0)) := by
    rw [← hW2]
    have := heap_alloc_new (w.alloc (.cells #[.int .i64 x.id, .bool x.mark, .int .i64 x.sz, .int .u32 x.sum, .slice A x.dt.length c] 74)) (.cells #[.int .i64 0, .bool false, .int .i64 0, .int .u32 0] 36)
    simpa using this
  have hs2 : w.heap.size + 2 = W2.heap.size := by rw [← hW2]; simp
  have hO2 := hO.below hm.q hm.f hb2
  have hin2 : W2.ownsMap Tryd.prog 9 R2 ib n D2 := ownsMap_kept hin (hb2.block ib (isM_lt (hm.q ib hqi)))
  have hrow2 := hrow.kept (below_cells hb2 hm.f)
  have hrun1 := look1' hO2 (s := b) (by unfold maxLen; omega) hat
  have hrun2 := look2' hin2 (s := k) (by unfold maxLen; omega) hv
  have c0 := (blk_cell hO2.c 0).trans (rfl : _ = some (Value.map (some mb)))
  have x0 := (blk_cell hbx 0).trans (rfl : _ = some (Value.int .i64 x.id))
  have x1 := (blk_cell hbx 1).trans (rfl : _ = some (Value.bool x.mark))
  have x2 := (blk_cell hbx 2).trans (rfl : _ = some (Value.int .i64 x.sz))
  have x3 := (blk_cell hbx 3).trans (rfl : _ = some (Value.int .u32 x.sum))
  have x4 := (blk_cell hbx 4).trans (rfl : _ = some (Value.slice A x.dt.length c))
  have HBX := Lib.hid hbx
  have HBV := Lib.hid hbv
  have HB2 := Lib.hid hb2
  have HX := Lib.hid hx
  have HFX := Lib.hid hfx
  have HO := Lib.hid hO
  have HIN := Lib.hid hin
  have HV2 := Lib.hid hv2
  have HVK := Lib.hid hv
  have HAT := Lib.hid (And.intro hat (And.intro hqi hne))
  have HR2 := Lib.hid hrow2
  have HRW := Lib.hid hrow
  have HL := Lib.hid hl
  have HO2 := Lib.hid hO2
  have HIN2 := Lib.hid hin2
  obtain ⟨m, hmL⟩ : ∃ m, l.length = m := ⟨_, rfl⟩
  obtain ⟨A2, c2, hve, hlc⟩ := hrow2.slice
  rw [hmL] at hlc hve
  have HML := Lib.hid hmL
  clear hat hqi hne hin hv2 hv hrow hrow2 hl hb2 hbx hbv hO hO2 hin2 hm hx hfx hmL
  subst hve
  by_cases h64 : 64 ≤ m
  · have hR : Hid (moreE (S.V b k) x = 18) := by show _ = _; rw [HL.out]; unfold moreE; rw [if_pos (by rw [HML.out]; exact h64)]
    have hz : (64 : Int) ≤ (m : Int) := by omega
    clear h64
    go_enter Tryd.func40, Tryd.ntmps40
    go_upto_region 1 with (fail)
    clear hW2
    go_wp2_with (refine wpList_store_row rfl 36 (.tmp 8) (.tmp 23) rfl (w.heap.size + 1) #[.int .i64 0, .bool false, .int .i64 0, .int .u32 0] rfl rfl 36 _ HBV.out (by kernel_rfl) rfl (by simp [Value.oneCell']) ?_)
    refine bodyPost_ret (results_ct rfl _ _ (w.heap.size + 1) 36 #[.int .i64 0, .bool false, .int .i64 0, .int .u32 0] (0, 0) _ rfl (setRow_heap _ _ _ _ _ _ HBV.out) Tryd.underlying36 rfl (by kernel_rfl)) rfl ?_
    exact more_err hR.out (by decide) HM.out (below_setRow HB2.out (by omega) _)
  have hz : (m : Int) < (64 : Int) := by omega
  have hE : Hid (moreE (S.V b k) x = if x.id < 1 ∨ 2147483647 < x.id then 1 else match l.getLast? with
    | some y => if x.id ≤ y.id then 1 else 0
    | none => 0) := by show _ = _; rw [HL.out]; unfold moreE; rw [if_neg (by rw [HML.out]; exact h64)]; rfl
  clear h64
  by_cases h1 : x.id < 1
  · have hR : Hid (moreE (S.V b k) x = 1) := by show _ = _; rw [hE.out, if_pos (.inl h1)]
    have d1 : decide (x.id < 1) = true := decide_eq_true h1
    clear hE h1
    go_enter Tryd.func40, Tryd.ntmps40
    go_upto_region 1 with (fail)
    clear hW2
    go_wp2_with fail
    go_quiet (fail)
    go_wp2_with (refine wpList_store_row rfl 36 (.tmp 8) (.tmp 54) rfl (w.heap.size + 1) #[.int .i64 0, .bool false, .int .i64 0, .int .u32 0] rfl rfl 36 _ HBV.out (by kernel_rfl) rfl (by simp [Value.oneCell']) ?_)
    refine bodyPost_ret (results_ct rfl _ _ (w.heap.size + 1) 36 #[.int .i64 0, .bool false, .int .i64 0, .int .u32 0] (0, 0) _ rfl (setRow_heap _ _ _ _ _ _ HBV.out) Tryd.underlying36 rfl (by kernel_rfl)) rfl ?_
    exact more_err hR.out (by decide) HM.out (below_setRow (HB2.out.drewN nq) (by omega) _)
  have d1 : decide (x.id < 1) = false := decide_eq_false h1
  by_cases h2 : 2147483647 < x.id
  · have hR : Hid (moreE (S.V b k) x = 1) := by show _ = _; rw [hE.out, if_pos (.inr h2)]
    have d2 : decide (2147483647 < x.id) = true := decide_eq_true h2
    clear hE h1 h2
    go_enter Tryd.func40, Tryd.ntmps40
    go_upto_region 1 with (fail)
    clear hW2
    go_wp2_with fail
    go_quiet (fail)
    go_wp2_with (refine wpList_store_row rfl 36 (.tmp 8) (.tmp 54) rfl (w.heap.size + 1) #[.int .i64 0, .bool false, .int .i64 0, .int .u32 0] rfl rfl 36 _ HBV.out (by kernel_rfl) rfl (by simp [Value.oneCell']) ?_)
    refine bodyPost_ret (results_ct rfl _ _ (w.heap.size + 1) 36 #[.int .i64 0, .bool false, .int .i64 0, .int .u32 0] (0, 0) _ rfl (setRow_heap _ _ _ _ _ _ HBV.out) Tryd.underlying36 rfl (by kernel_rfl)) rfl ?_
    exact more_err hR.out (by decide) HM.out (below_setRow (HB2.out.drewN nq) (by omega) _)
  have d2 : decide (2147483647 < x.id) = false := decide_eq_false h2
  have hE2 : Hid (moreE (S.V b k) x = match l.getLast? with
    | some y => if x.id ≤ y.id then 1 else 0
    | none => 0) := by show _ = _; rw [hE.out, if_neg (by omega)]
  clear hE h1 h2
  by_cases hlast : ∃ y, l.getLast? = some y ∧ x.id ≤ y.id
  · obtain ⟨y, hy, hxy⟩ := hlast
    have hR : Hid (moreE (S.V b k) x = 1) := by show _ = _; rw [hE2.out, hy]; simp only []; rw [if_pos hxy]
    obtain ⟨m1, hm1⟩ : ∃ m1, m = m1 + 1 := ⟨m - 1, by
      have : l.length ≠ 0 := fun e => by
        have : l = [] := List.length_eq_zero_iff.1 e
        subst this
        cases hy
      have := HML.out
      omega⟩
    obtain ⟨g2, hA2⟩ : ∃ g2, A2 = some ⟨g2, 0, none⟩ := by
      obtain ⟨nw, h1, _⟩ := HR2.out
      rcases h1 with ⟨_, h0, _⟩ | ⟨g2, cc, hvv, _⟩
      · have : l = [] := List.length_eq_zero_iff.1 h0
        subst this
        cases hy
      · injection hvv with e _ _
        exact ⟨g2, e⟩
    subst hA2
    have y0 := last_at HR2.out hy
    rw [HML.out, show m - 1 = m1 by omega] at y0
    have wm : IntKind.i64.wrap ((m : Int) - 1) = (m1 : Int) := by rw [IntWalk.i64_in _ (by omega)]; omega
    have nn : (m1 : Int) < (m : Int) := by omega
    have n0 : (0 : Int) ≤ (m1 : Int) := by omega
    have hm0 : (0 : Int) < (m : Int) := by omega
    have hm0n : 0 < m := by omega
    have d3 : decide (x.id ≤ y.id) = true := decide_eq_true hxy
    clear hE2 hy hxy hm1
    go_enter Tryd.func40, Tryd.ntmps40
    go_upto_region 1 with (fail)
    clear hW2
    go_wp2_with fail
    go_quiet (fail)
    go_wp2_with (refine wpList_store_row rfl 36 (.tmp 8) (.tmp 54) rfl (w.heap.size + 1) #[.int .i64 0, .bool false, .int .i64 0, .int .u32 0] rfl rfl 36 _ HBV.out (by kernel_rfl) rfl (by simp [Value.oneCell']) ?_)
    refine bodyPost_ret (results_ct rfl _ _ (w.heap.size + 1) 36 #[.int .i64 0, .bool false, .int .i64 0, .int .u32 0] (0, 0) _ rfl (setRow_heap _ _ _ _ _ _ HBV.out) Tryd.underlying36 rfl (by kernel_rfl)) rfl ?_
    exact more_err hR.out (by decide) HM.out (below_setRow (HB2.out.drewN nq) (by omega) _)
  have hR : Hid (moreE (S.V b k) x = 0) := by
    show _ = _
    rw [hE2.out]
    cases hy : l.getLast? with
    | none => rfl
    | some y => simp only []; rw [if_neg (fun e => hlast ⟨y, hy, e⟩)]
  have HLA := Lib.hid hlast
  clear hE2 hlast
  have HBD : Hid (l.length ≤ 1000) := by show _ ≤ _; rw [HML.out]; omega
  have hmx : n < maxLen := by unfold maxLen; omega
  obtain ⟨i0, hi, hz0, hz1, hz2⟩ := info_parts infoKp
  have HI := Lib.hid (And.intro hi (And.intro hz0 (And.intro hz1 hz2)))
  clear hi hz0 hz1 hz2
  go_enter Tryd.func40, Tryd.ntmps40
  go_upto_region 1 with (fail)
  clear hW2
  go_upto_if 24 with (fail)
  go_cut [24] (fun v24 wx => ∃ nq, wx = W2.drewN nq ∧ v24 = .bool false)
  case first =>
    have hcs : (A2 = none ∧ m = 0 ∧ c2 = 0) ∨ ∃ g2, A2 = some ⟨g2, 0, none⟩ := by
      obtain ⟨nw, h1, _⟩ := HR2.out
      rcases h1 with ⟨h0, _, _⟩ | ⟨g2, cc, hvv, _⟩
      · injection h0 with e1 e2 e3
        exact .inl ⟨e1, e2, e3⟩
      · injection hvv with e _ _
        exact .inr ⟨g2, e⟩
    rcases hcs with ⟨rfl, rfl, rfl⟩ | ⟨g2, rfl⟩
    · have hmz : decide ((0 : Int) < 0) = false := by decide
      go_wp2_with fail
      go_quiet (fail)
      go_wp2_with fail
      go_meet
      case rel => exact ⟨nq, rfl, rfl⟩
    · by_cases hm0 : m = 0
      · subst hm0
        go_wp2_with fail
        go_quiet (fail)
        go_wp2_with fail
        go_meet
        case rel => exact ⟨nq, rfl, rfl⟩
      · obtain ⟨m1, hm1⟩ : ∃ m1, m = m1 + 1 := ⟨m - 1, by omega⟩
        obtain ⟨y, hy⟩ : ∃ y, l.getLast? = some y := by
          cases hl : l.getLast? with
          | some y => exact ⟨y, rfl⟩
          | none =>
            rw [List.getLast?_eq_none_iff] at hl
            have := HML.out
            rw [hl] at this
            exact absurd this.symm hm0
        have hxy : ¬ x.id ≤ y.id := fun e => HLA.out ⟨y, hy, e⟩
        have y0 := last_at HR2.out hy
        rw [HML.out, show m - 1 = m1 by omega] at y0
        have wm : IntKind.i64.wrap ((m : Int) - 1) = (m1 : Int) := by rw [IntWalk.i64_in _ (by omega)]; omega
        have nn : (m1 : Int) < (m : Int) := by omega
        have n0 : (0 : Int) ≤ (m1 : Int) := by omega
        have hm0i : (0 : Int) < (m : Int) := by omega
        have hm0n : 0 < m := by omega
        have d3 : decide (x.id ≤ y.id) = false := decide_eq_false hxy
        clear hy hxy hm1 hm0
        go_wp2_with fail
        go_quiet (fail)
        go_wp2_with fail
        go_meet
        case rel => exact ⟨nq, rfl, rfl⟩
  case rest =>
  obtain ⟨nq, hwc, rfl⟩ := hcut
  have hbc : Below W2.heap.size W2 wc := by rw [hwc]; exact (Below.refl _ _).drewN nq
  clear hwc
  have hq2 := (HM.out.below HB2.out).q
  have hf2 := (HM.out.below HB2.out).f
  have hOc := HO2.out.below hq2 hf2 hbc
  have hqc : ∀ k, Q k → IsM wc k := ((HM.out.below HB2.out).below hbc).q
  have HFc : Hid (∀ k, F k → IsC wc k) := ((HM.out.below HB2.out).below hbc).f
  have HOc := Lib.hid (And.intro hOc hqc)
  have HINc : Hid (wc.ownsMap Tryd.prog 9 R2 ib n D2) := ownsMap_kept HIN2.out (hbc.block ib (isM_lt (hq2 ib HAT.out.2.1)))
  have hibc : ib < wc.heap.size := isM_lt (hqc ib HAT.out.2.1)
  have HBXc := Lib.hid (blk_below HBX.out hbc)
  have HBVc := Lib.hid (blk_below HBV.out hbc)
  have hwcs : w.heap.size + 2 ≤ wc.heap.size := by have := hbc.size; omega
  have HBc : Hid (Below w.heap.size w wc) := HB2.out.trans (hbc.mono HB2.out.size)
  obtain ⟨news, hna, hrn⟩ := HRW.out
  have HRN := Lib.hid hrn
  have hnl : news.length = m * 5 := by rw [hrn.1, HML.out]
  rw [HML.out] at hna
  have HNA := Lib.hid hna
  clear hrn hna hq2 hf2 hOc hqc hbc
  have HSf : Hid (∀ V, Below wc.heap.size wc V → V.cell? ⟨g, 0, none⟩ = some (.map (some mb)) ∧ (Instr.lookup 59 (.map (some mb)) (.string (mkS b)) false).run Tryd.prog V = .ok (.map (some ib)) V ∧ V.cell? ⟨w.heap.size, 0, none⟩ = some (.int .i64 x.id) ∧ V.cell? ⟨w.heap.size, 1, none⟩ = some (.bool x.mark) ∧ V.cell? ⟨w.heap.size, 2, none⟩ = some (.int .i64 x.sz) ∧ V.cell? ⟨w.heap.size, 3, none⟩ = some (.int .u32 x.sum) ∧ V.cell? ⟨w.heap.size, 4, none⟩ = some (.slice A x.dt.length c)) := fun V hV => by
    have hO := HOc.out.1.below HOc.out.2 HFc.out hV
    have hbx := blk_below HBXc.out hV
    exact ⟨(blk_cell hO.c 0).trans rfl, look1' hO (by unfold maxLen; omega) HAT.out.1, (blk_cell hbx 0).trans rfl, (blk_cell hbx 1).trans rfl, (blk_cell hbx 2).trans rfl, (blk_cell hbx 3).trans rfl, (blk_cell hbx 4).trans rfl⟩
  have HCl : Hid (∀ V, Below wc.heap.size wc V → Calls Tryd.prog 38 #[.slice A2 m c2] V fun e w' => (∃ v', e = .returned v' ∧ Hid (w'.ownsRow wc.heap.size 74 5 v' m news)) ∧ Below wc.heap.size wc w' ∧ Hid (Below V.heap.size V w')) := fun V hV =>
    (kclone_at V F _ news m (by omega) hnl (reps_ones HRN.out) (HNA.out.kept ((below_cells HBc.out HM.out.f).trans (below_cells hV HFc.out)))).mono fun e w' ⟨⟨v', he, ho⟩, hb⟩ => ⟨⟨v', he, own_weaken ho hV.size⟩, hV.trans (hb.mono hV.size), hb⟩
  have HUp : Hid (∀ (W4 : World) (g3 cap3 : Nat), Below wc.heap.size wc W4 → ∃ w5, (Instr.mapUpdate 63 (.map (some ib)) (.string (mkS k)) (.slice (some ⟨g3, 0, none⟩) (m + 1) cap3)).run Tryd.prog W4 = .ok () w5 ∧ Hid (w5.ownsMap Tryd.prog 9 R2 ib (n + 1) (D2.put (.string k) (.agg [.lit (.int .i64 g3), .lit (.int .i64 (m + 1 : Nat)), .lit (.int .i64 cap3)]))) ∧ Hid (W4.grownBy w5 (some ib))) := fun W4 g3 cap3 h4 => by
    obtain ⟨w5, h1, h2, h3⟩ := (ownsMap_kept HINc.out (h4.block ib hibc)).update KS Tryd.underlying63 hmx (key_str k (by unfold maxLen; omega)) (show R2 (.slice (some ⟨g3, 0, none⟩) (m + 1) cap3) = some (.agg [.lit (.int .i64 g3), .lit (.int .i64 (m + 1 : Nat)), .lit (.int .i64 cap3)], []) from rfl)
    exact ⟨w5, h1, h2, h3⟩
  have HFi : Hid (∀ (W4 w5 : World) (g3 cap3 : Nat), Below wc.heap.size wc W4 → w5.ownsMap Tryd.prog 9 R2 ib (n + 1) (D2.put (.string k) (.agg [.lit (.int .i64 g3), .lit (.int .i64 (m + 1 : Nat)), .lit (.int .i64 cap3)])) → W4.grownBy w5 (some ib) → W4.ownsRow wc.heap.size 74 5 (.slice (some ⟨g3, 0, none⟩) (m + 1) cap3) (m + 1) (news ++ kpCells x (.slice A x.dt.length c)) →
      w5.heap[w.heap.size]? = some (.cells #[.int .i64 x.id, .bool x.mark, .int .i64 x.sz, .int .u32 x.sum, .slice A x.dt.length c] 74 (0, 0)) ∧ w5.heap[w.heap.size + 1]? = some (.cells #[.int .i64 0, .bool false, .int .i64 0, .int .u32 0] 36 (0, 0)) ∧
      MoreIs S n Q F Fx g b k x w (.returned (.tuple #[.agg #[.int .i64 x.id, .bool x.mark, .int .i64 x.sz, .int .u32 x.sum], .int .i64 0])) (w5.setRow (w.heap.size + 1) #[.int .i64 x.id, .bool x.mark, .int .i64 x.sz, .int .u32 x.sum])) := fun W4 w5 g3 cap3 h4 hown5 hg5 hrow4 => by
    have hib : ib < w.heap.size := isM_lt (HM.out.q ib HAT.out.2.1)
    have e1 : w5.heap[w.heap.size]? = wc.heap[w.heap.size]? := (hg5.block _ (by have := h4.size; omega) (by simp; omega)).trans (h4.block _ (by omega))
    have e2 : w5.heap[w.heap.size + 1]? = wc.heap[w.heap.size + 1]? := (hg5.block _ (by have := h4.size; omega) (by simp; omega)).trans (h4.block _ (by omega))
    refine ⟨e1.trans HBXc.out, e2.trans HBVc.out, ?_⟩
    have hmv : Moved (fun j => j = ib) w w5 := (Moved.of_below (HBc.out.trans (h4.mono HBc.out.size))).trans (Moved.of_grown hg5 (Q := fun j => j = ib) rfl) (fun i hi => .inl hi)
    have hlm := HML.out
    subst hlm
    have hg3 : wc.heap.size ≤ g3 := own_base hrow4 g3 rfl
    refine more_fin HM.out hB HO.out HAT.out.1 HAT.out.2.1 HAT.out.2.2 HIN.out HV2.out HL.out hR.out hxc HX.out HFX.out HRN.out hown5 hmv (own_weaken (own_other hrow4 hg5 (.inr ?_)) hwcs)
    simp only [Value.ownBlock]
    intro e
    injection e with e
    omega
  have HSm : Hid (∀ (W4 w5 : World), Below wc.heap.size wc W4 → W4.grownBy w5 (some ib) → w5.cell? ⟨g, 0, none⟩ = some (.map (some mb)) ∧ (Instr.lookup 59 (.map (some mb)) (.string (mkS b)) false).run Tryd.prog w5 = .ok (.map (some ib)) w5 ∧ w5.cell? ⟨w.heap.size, 0, none⟩ = some (.int .i64 x.id) ∧ w5.cell? ⟨w.heap.size, 1, none⟩ = some (.bool x.mark) ∧ w5.cell? ⟨w.heap.size, 2, none⟩ = some (.int .i64 x.sz) ∧ w5.cell? ⟨w.heap.size, 3, none⟩ = some (.int .u32 x.sum) ∧ w5.cell? ⟨w.heap.size, 4, none⟩ = some (.slice A x.dt.length c)) := fun W4 w5 h4 hg5 => by
    have hold : ∀ j, j < wc.heap.size → j ≠ ib → w5.heap[j]? = wc.heap[j]? := fun j hj hne => (hg5.block j (by have := h4.size; omega) (by simp; exact hne)).trans (h4.block j hj)
    have hib : ib < w.heap.size := isM_lt (HM.out.q ib HAT.out.2.1)
    have hO := HOc.out.1
    have hg : g ≠ ib := fun e => isC_not ⟨_, _, _, hO.c⟩ (HOc.out.2 g (by rw [e]; exact HAT.out.2.1))
    have hc := (hold g (isC_lt ⟨_, _, _, hO.c⟩) hg).trans hO.c
    have hbx := (hold w.heap.size (by omega) (by omega)).trans HBXc.out
    have hmo := ownsMap_kept hO.o (hold mb (isM_lt (HOc.out.2 mb hO.qm)) (fun e => HAT.out.2.2 e.symm))
    exact ⟨(blk_cell hc 0).trans rfl, look1m hmo (by unfold maxLen; omega) HAT.out.1, (blk_cell hbx 0).trans rfl, (blk_cell hbx 1).trans rfl, (blk_cell hbx 2).trans rfl, (blk_cell hbx 3).trans rfl, (blk_cell hbx 4).trans rfl⟩
  have hB0 : Below wc.heap.size wc wc.drew := (Below.refl _ _).drew
  have hBA : ∀ o, Below wc.heap.size wc (wc.alloc o).drew := fun o => ((Below.refl _ _).alloc (Nat.le_refl _) o).drew
  have HBA := Lib.hid hBA; clear hBA
  clear c0 x0 x1 x2 x3 x4 hrun1 hrun2
  go_wp2_with fail
  go_region_held_law (fun V => V.cell? ⟨g, 0, none⟩ = some (.map (some mb)) ∧ (Instr.lookup 59 (.map (some mb)) (.string (mkS b)) false).run Tryd.prog V = .ok (.map (some ib)) V ∧ V.cell? ⟨w.heap.size, 0, none⟩ = some (.int .i64 x.id) ∧ V.cell? ⟨w.heap.size, 1, none⟩ = some (.bool x.mark) ∧ V.cell? ⟨w.heap.size, 2, none⟩ = some (.int .i64 x.sz) ∧ V.cell? ⟨w.heap.size, 3, none⟩ = some (.int .u32 x.sum) ∧ V.cell? ⟨w.heap.size, 4, none⟩ = some (.slice A x.dt.length c))
    (first | (with_reducible exact (HSf.out _ (by with_reducible assumption))) | (exact HSf.out _ (belowA (by with_reducible assumption) _)) | (exact HSf.out _ (HBA.out _)) | (exact HSm.out _ _ (by with_reducible assumption) HG5.out) | go_keep)
    ((first
      | (go_at_call 38; refine (HCl.out _ (by with_reducible assumption)).mono ?_; rintro e w3 ⟨⟨v', rfl, HOW⟩, hb3, HBV3⟩)
      | (go_at_call 38; refine (HCl.out _ (HBA.out _)).mono ?_; rintro e w3 ⟨⟨v', rfl, HOW⟩, hb3, HBV3⟩)
      | (refine step_append_lies _ (by rfl) (.tmp 63) (.tmp 65) 77 (by rfl) wc.heap.size 74 i0 _ 5 56 Tryd.underlying77 HI.out.1 HI.out.2.1 HI.out.2.2.1 HI.out.2.2.2 rfl (by decide) v' m news (by rfl) (HOW.out.alloc _) ⟨w3.heap.size, 0, none⟩ 1 1 (kpCells x (.slice A x.dt.length c)) (by rfl) rfl (World.news_of_block (heap_alloc_new w3 _)) (by simp [kpCells, Value.oneCell']) (by decide) (by unfold maxLen; omega) (by omega) (hb3.alloc hb3.size _).size (w3.heap.size + 1) (by simp) ?_; intro g3 cap3 w4 hown4 hgr4 hat4 hlt4; have hb4 : Below wc.heap.size wc w4 := (hb3.alloc hb3.size _).grown hgr4 (hb3.alloc hb3.size _).size (fun j hj => own_base HOW.out j hj); obtain ⟨w5, hrun5, HOW5, HG5⟩ := HUp.out w4 g3 cap3 hb4; have HOW4 := Lib.hid hown4; clear hown4 hgr4 hat4 hlt4)
      | (refine step_append_lies _ (by rfl) (.tmp 63) (.tmp 65) 77 (by rfl) wc.heap.size 74 i0 _ 5 56 Tryd.underlying77 HI.out.1 HI.out.2.1 HI.out.2.2.1 HI.out.2.2.2 rfl (by decide) v' m news (by rfl) HOW.out ⟨wc.heap.size, 0, none⟩ 1 1 (kpCells x (.slice A x.dt.length c)) (by rfl) rfl (World.news_of_block (show w3.heap[wc.heap.size]? = some (.cells #[.int .i64 x.id, .bool x.mark, .int .i64 x.sz, .int .u32 x.sum, .slice A x.dt.length c] 74 (0, 0)) from blk_below (w := (wc.alloc _).drew) (blk_new wc _) HBV3.out)) (by simp [kpCells, Value.oneCell']) (by decide) (by unfold maxLen; omega) (by omega) hb3.size w3.heap.size rfl ?_; intro g3 cap3 w4 hown4 hgr4 hat4 hlt4; have hb4 : Below wc.heap.size wc w4 := hb3.grown hgr4 hb3.size (fun j hj => own_base HOW.out j hj); obtain ⟨w5, hrun5, HOW5, HG5⟩ := HUp.out w4 g3 cap3 hb4; have HOW4 := Lib.hid hown4; clear hown4 hgr4 hat4 hlt4)))
  all_goals
    obtain ⟨hbx5, hbv5, hfin⟩ := HFi.out _ _ _ _ hb4 HOW5.out HG5.out HOW4.out
    have z0 := (blk_cell hbx5 0).trans (rfl : _ = some (Value.int .i64 x.id))
    have z1 := (blk_cell hbx5 1).trans (rfl : _ = some (Value.bool x.mark))
    have z2 := (blk_cell hbx5 2).trans (rfl : _ = some (Value.int .i64 x.sz))
    have z3 := (blk_cell hbx5 3).trans (rfl : _ = some (Value.int .u32 x.sum))
    have HBV5 := Lib.hid hbv5
    have HFIN := Lib.hid hfin
    clear hbx5 hbv5 hfin hrun5 hb4 hb3 HUp HFi HSm HSf HCl HBA HOW5 HG5 HOW4 HOW HBV3 HNA HRN HBc HBXc HBVc HINc HOc HFc HI HBD HR2 HRW HVK HV2 HIN HIN2 HO2 HO HAT
    go_wp2_with (refine wpList_store_row rfl 36 (.tmp 8) (.tmp 68) rfl (w.heap.size + 1) #[.int .i64 x.id, .bool x.mark, .int .i64 x.sz, .int .u32 x.sum] rfl rfl 36 _ HBV5.out (by kernel_rfl) rfl (by simp [Value.oneCell']) ?_)
    refine bodyPost_ret (results_ct rfl _ _ (w.heap.size + 1) 36 #[.int .i64 x.id, .bool x.mark, .int .i64 x.sz, .int .u32 x.sum] (0, 0) _ rfl (setRow_heap _ _ _ _ _ _ HBV5.out) Tryd.underlying36 rfl (by kernel_rfl)) rfl ?_
    exact HFIN.out
end Go.Proofs.YtjbjcfnbgcloiaaDoor

/- Put of package model. -/
namespace Go.Proofs.YtjbjcfnbgcloiaaDoor
open Go.RowKit Nam YtjbjcfnbgcloiaaDoorW.PrintWords

def kpOf (id : Int) (d : List UInt8) : Kp := ⟨id, false, d.length, sumC d, d⟩
def St.putE (S : St) (id : Int) (b k d : List UInt8) : Int := if namedB b k = false then 12 else if 65536 < d.length then 3 else if b ∉ S.B then 13 else moreE (S.V b k) (kpOf id d)
def St.doPut (S : St) (id : Int) (b k d : List UInt8) : St := if S.putE id b k d = 0 then S.put b k (S.V b k ++ [kpOf id d]) else S
/-- What a call that may put a version leaves: its error, the version, the state. -/
def PutIs (S' : St) (n : Nat) (Q F : Nat → Prop) (g : Nat) (y : Kp) (err : Int) (w : World) (e : Ending) (w' : World) : Prop :=
  e = .returned (.tuple #[verV y, .int .i64 err]) ∧ (∃ F', HasM w' g S' (n + 1) Q F' ∧ ∀ j, F' j → F j ∨ w.heap.size ≤ j) ∧ Moved Q w w'
theorem put_same {S : St} {n : Nat} {Q F : Nat → Prop} {g : Nat} {err : Int} {w w' : World} (hm : HasM w g S n Q F) (hb : Below w.heap.size w w') :
    PutIs S n Q F g kp0 err w (.returned (.tuple #[.agg #[.int .i64 0, .bool false, .int .i64 0, .int .u32 0], .int .i64 err])) w' :=
  ⟨rfl, ⟨F, (hm.below hb).mono (by omega), fun j hj => .inl hj⟩, Moved.of_below hb⟩
theorem HasM.setRow {w : World} {g : Nat} {S : St} {n : Nat} {Q F : Nat → Prop} (h : HasM w g S n Q F) (r : Nat) (cs : Array Value) (hq : ¬ Q r) (hf : ¬ F r) : HasM (w.setRow r cs) g S n Q F :=
  h.kept (fun k hk => setRow_other _ _ _ _ (fun e => hf (by rw [← e]; exact hk))) (fun k hk => setRow_other _ _ _ _ (fun e => hq (by rw [← e]; exact hk)))

set_option maxHeartbeats 1000000 in
set_option maxRecDepth 100000 in
theorem put_is (w : World) (g : Nat) (S : St) (n : Nat) (Q F : Nat → Prop) (id : Int) (b k d : List UInt8) (A : Option Addr) (c : Nat) (hb : b.length ≤ 100000) (hk : k.length ≤ 100000) (hd : d.length ≤ 1000000) (hn : n ≤ 100000) (hm : HasM w g S n Q F)
    (hC : (Kd.int .u8).C w A d.length (byN d)) (hT : Tabs w) :
    Calls Tryd.prog 17 #[.pointer (some ⟨g, 0, none⟩), .int .i64 id, .string (mkS b), .string (mkS k), .slice A d.length c] w
      (PutIs (S.doPut id b k d) n Q F g (if S.putE id b k d = 0 then kpOf id d else kp0) (S.putE id b k d) w) := by
  have HM := Lib.hid hm
  obtain ⟨mb, D, hO⟩ := hm.ex
  obtain ⟨W1, hW1⟩ : ∃ W1, w.alloc (.cells #[.int .i64 0, .bool false, .int .i64 0, .int .u32 0] 36) = W1 := ⟨_, rfl⟩
  have hb1 : Below w.heap.size w W1 := by rw [← hW1]; exact (Below.refl _ _).alloc (Nat.le_refl _) _
  have hbv : W1.heap[w.heap.size]? = some (.cells #[.int .i64 0, .bool false, .int .i64 0, .int .u32 0] 36 (0, 0)) := by rw [← hW1]; exact heap_alloc_new w _
  have hs1 : w.heap.size + 1 = W1.heap.size := by rw [← hW1]; simp
  have hO1 := hO.below hm.q hm.f hb1
  have HO1 := Lib.hid hO1
  have HBV := Lib.hid hbv
  have HB1 := Lib.hid hb1
  have HC := Lib.hid hC
  obtain ⟨nm, hnm⟩ : ∃ nm, namedB b k = nm := ⟨_, rfl⟩
  have hna := named_is W1 g mb b k hb hk (hT.below hb1) hO1.c
  rw [hnm] at hna
  have HNA := Lib.hid hna
  have HNM := Lib.hid hnm
  clear hO hO1 hbv hb1 hC hna hnm hm hT
  obtain ⟨m, hmL⟩ : ∃ m, d.length = m := ⟨_, rfl⟩
  have HML := Lib.hid hmL
  cases nm with
  | false =>
    have hR : S.putE id b k d = 12 := by unfold St.putE; rw [if_pos HNM.out]
    have hS : S.doPut id b k d = S := by unfold St.doPut; rw [hR, if_neg (by decide)]
    rw [hS, hR, if_neg (by decide)]
    clear hR hS hmL
    go_enter Tryd.func17, Tryd.ntmps17
    go_upto_region 1 with (fail)
    clear hW1
    go_wp2_with fail
    refine HNA.out.mono ?_
    rintro e w2 ⟨rfl, hb2⟩
    have HBV2 := Lib.hid (blk_below HBV.out hb2)
    have HB2 := Lib.hid (HB1.out.trans (hb2.mono HB1.out.size))
    clear hb2
    simp only [Bool.false_eq_true, if_false]
    go_wp2_with (refine wpList_store_row rfl 36 (.tmp 10) (.tmp 19) rfl w.heap.size #[.int .i64 0, .bool false, .int .i64 0, .int .u32 0] rfl rfl 36 _ HBV2.out (by kernel_rfl) rfl (by simp [Value.oneCell']) ?_)
    refine bodyPost_ret (results_ct rfl _ _ w.heap.size 36 #[.int .i64 0, .bool false, .int .i64 0, .int .u32 0] (0, 0) _ rfl (setRow_heap _ _ _ _ _ _ HBV2.out) Tryd.underlying36 rfl (by kernel_rfl)) rfl ?_
    exact put_same HM.out (below_setRow HB2.out (Nat.le_refl _) _)
  | true =>
    have hE : S.putE id b k d = if 65536 < d.length then 3 else if b ∉ S.B then 13 else moreE (S.V b k) (kpOf id d) := by unfold St.putE; rw [if_neg (by rw [HNM.out]; simp)]
    by_cases h6 : 65536 < m
    · have hR : S.putE id b k d = 3 := by rw [hE, if_pos (by rw [hmL]; exact h6)]
      have hS : S.doPut id b k d = S := by unfold St.doPut; rw [hR, if_neg (by decide)]
      rw [hS, hR, if_neg (by decide), hmL]
      have d6 : decide ((65536 : Int) < (m : Int)) = true := decide_eq_true (by omega)
      clear hR hS hmL hE h6
      go_enter Tryd.func17, Tryd.ntmps17
      go_upto_region 1 with (fail)
      clear hW1
      go_wp2_with fail
      refine HNA.out.mono ?_
      rintro e w2 ⟨rfl, hb2⟩
      have HBV2 := Lib.hid (blk_below HBV.out hb2)
      have HB2 := Lib.hid (HB1.out.trans (hb2.mono HB1.out.size))
      clear hb2
      simp only [if_true]
      go_wp2_with (refine wpList_store_row rfl 36 (.tmp 10) (.tmp 24) rfl w.heap.size #[.int .i64 0, .bool false, .int .i64 0, .int .u32 0] rfl rfl 36 _ HBV2.out (by kernel_rfl) rfl (by simp [Value.oneCell']) ?_)
      refine bodyPost_ret (results_ct rfl _ _ w.heap.size 36 #[.int .i64 0, .bool false, .int .i64 0, .int .u32 0] (0, 0) _ rfl (setRow_heap _ _ _ _ _ _ HBV2.out) Tryd.underlying36 rfl (by kernel_rfl)) rfl ?_
      exact put_same HM.out (below_setRow HB2.out (Nat.le_refl _) _)
    · rw [if_neg (by rw [hmL]; exact h6)] at hE
      have d6 : decide ((65536 : Int) < (m : Int)) = false := decide_eq_false (by omega)
      have hqe := fun (w : World) (r : Option Nat) => run_eql_map_nil (P := Tryd.prog) w 63 _ _ r Tryd.underlying63
      clear h6
      by_cases hB : b ∈ S.B
      rotate_left
      · have hR : S.putE id b k d = 13 := by rw [hE, if_pos hB]
        have hS : S.doPut id b k d = S := by unfold St.doPut; rw [hR, if_neg (by decide)]
        rw [hS, hR, if_neg (by decide), hmL]
        have HNB := Lib.hid hB
        clear hR hS hmL hE hB
        go_enter Tryd.func17, Tryd.ntmps17
        go_upto_region 1 with (fail)
        clear hW1
        go_wp2_with fail
        refine HNA.out.mono ?_
        rintro e w2 ⟨rfl, hb2⟩
        have HBV2 := Lib.hid (blk_below HBV.out hb2)
        have HB2 := Lib.hid (HB1.out.trans (hb2.mono HB1.out.size))
        have hO2 := HO1.out.below (HM.out.below HB1.out).q (HM.out.below HB1.out).f hb2
        have c0 := (blk_cell hO2.c 0).trans (rfl : _ = some (Value.map (some mb)))
        rcases look1 hO2 b (by unfold maxLen; omega) with ⟨_, hrun⟩ | ⟨h, _⟩
        rotate_left
        · exact absurd h HNB.out
        clear hb2 hO2
        simp only [if_true]
        go_wp2_with (refine wpList_store_row rfl 36 (.tmp 10) (.tmp 32) rfl w.heap.size #[.int .i64 0, .bool false, .int .i64 0, .int .u32 0] rfl rfl 36 _ HBV2.out (by kernel_rfl) rfl (by simp [Value.oneCell']) ?_)
        refine bodyPost_ret (results_ct rfl _ _ w.heap.size 36 #[.int .i64 0, .bool false, .int .i64 0, .int .u32 0] (0, 0) _ rfl (setRow_heap _ _ _ _ _ _ HBV2.out) Tryd.underlying36 rfl (by kernel_rfl)) rfl ?_
        exact put_same HM.out (below_setRow HB2.out (Nat.le_refl _) _)
      · have hE2 : S.putE id b k d = moreE (S.V b k) (kpOf id d) := by rw [hE, if_neg (fun h => h hB)]
        have hS : S.doPut id b k d = S.more b k (kpOf id d) := by unfold St.doPut St.more; rw [hE2]
        rw [hS, hE2]
        have HMo : Hid (∀ W A' c' Fb Q F, HasM W g S n Q F → d.length ≤ c' → DatF W Fb A' d → (∀ j, Fb j → IsC W j) → Calls Tryd.prog 40 #[.pointer (some ⟨g, 0, none⟩), .string (mkS b), .string (mkS k), .agg #[.int .i64 id, .bool false, .int .i64 (m : Int), .int .u32 (sumC d), .slice A' m c']] W (MoreIs S n Q F Fb g b k (kpOf id d) W)) := fun W A' c' Fb Q F hm hc hx hf => by
          subst hmL
          exact more_is W g S n Q F Fb b k (kpOf id d) A' c' hb hk hn hm hB hc hx hf
        have HSu : Hid (∀ W, (Kd.int .u8).C W A d.length (byN d) → Calls Tryd.prog 41 #[.slice A m c] W fun e w' => e = .returned (.int .u32 (sumC d)) ∧ W = w') := fun W h => by
          subst hmL
          exact sum_is d A c W hd h
        have HCl : Hid (∀ W, (Kd.int .u8).C W A d.length (byN d) → Calls Tryd.prog 42 #[.slice A m c] W fun e w' => (∃ A' c', e = .returned (.slice A' m c') ∧ d.length ≤ c' ∧ ∃ Fb, DatF w' Fb A' d ∧ ∀ k, Fb k → IsC w' k ∧ W.heap.size ≤ k) ∧ Below W.heap.size W w') := fun W h => by
          subst hmL
          exact bclone_is W A c d hd h
        obtain ⟨er, her⟩ : ∃ er, moreE (S.V b k) (kpOf id d) = er := ⟨_, rfl⟩
        obtain ⟨y, hy⟩ : ∃ y, (if moreE (S.V b k) (kpOf id d) = 0 then kpOf id d else kp0) = y := ⟨_, rfl⟩
        rw [hy, her, hmL]
        have HE := Lib.hid (And.intro hy her)
        have HBB := Lib.hid hB
        clear hE hE2 hS hmL hy her hB
        go_enter Tryd.func17, Tryd.ntmps17
        go_upto_region 1 with (fail)
        clear hW1
        go_wp2_with fail
        refine HNA.out.mono ?_
        rintro e w2 ⟨rfl, hb2⟩
        have HBV2 := Lib.hid (blk_below HBV.out hb2)
        have HB2 := Lib.hid (HB1.out.trans (hb2.mono HB1.out.size))
        have hs2 : w.heap.size + 1 ≤ w2.heap.size := by have := hb2.size; omega
        have hO2 := HO1.out.below (HM.out.below HB1.out).q (HM.out.below HB1.out).f hb2
        have c0 := (blk_cell hO2.c 0).trans (rfl : _ = some (Value.map (some mb)))
        rcases look1 hO2 b (by unfold maxLen; omega) with ⟨h, _⟩ | ⟨_, ib, _, _, _, _, hrun⟩
        · exact absurd HBB.out h
        clear hb2 hO2
        simp only [if_true]
        go_wp2_with fail
        refine (HSu.out _ (Kd.C_below HC.out HB2.out)).mono ?_
        rintro e w' ⟨rfl, rfl⟩
        go_wp2_with fail
        refine (HCl.out _ (Kd.C_below HC.out HB2.out)).mono ?_
        rintro e w3 ⟨⟨A', c', rfl, hc', Fb, hdf, hfb⟩, hb3⟩
        have HBV3 := Lib.hid (blk_below HBV2.out hb3)
        have HB3 := Lib.hid (HB2.out.trans (hb3.mono HB2.out.size))
        have hs3 : w.heap.size + 1 ≤ w3.heap.size := by have := hb3.size; omega
        have HFB := Lib.hid hfb
        have HDF := Lib.hid hdf
        clear hb3 hfb hdf
        go_wp2_with fail
        refine (HMo.out _ _ _ Fb Q F (HM.out.below HB3.out) hc' HDF.out (fun j hj => (HFB.out j hj).1)).mono ?_
        rintro e w4 ⟨rfl, ⟨F4, hm4, hf4⟩, hmv⟩
        rw [HE.out.1, HE.out.2]
        have hr : w.heap.size < w3.heap.size := by omega
        have hq4 : ¬ Q w.heap.size := fun h => by have := isM_lt (HM.out.q _ h); omega
        have hbv4 := (hmv.block w.heap.size hr hq4).trans HBV3.out
        have HBV4 := Lib.hid hbv4
        have HFin := Lib.hid (And.intro hm4 (And.intro hf4 (And.intro hmv hq4)))
        clear hm4 hf4 hmv hbv4 hq4
        unfold verV
        go_wp2_with (refine wpList_store_row rfl 36 (.tmp 10) (.tmp 46) rfl w.heap.size #[.int .i64 y.id, .bool y.mark, .int .i64 y.sz, .int .u32 y.sum] rfl rfl 36 _ HBV4.out (by kernel_rfl) rfl (by simp [Value.oneCell']) ?_)
        refine bodyPost_ret (results_ct rfl _ _ w.heap.size 36 #[.int .i64 y.id, .bool y.mark, .int .i64 y.sz, .int .u32 y.sum] (0, 0) _ rfl (setRow_heap _ _ _ _ _ _ HBV4.out) Tryd.underlying36 rfl (by kernel_rfl)) rfl ?_
        have hF4 : ∀ j, F4 j → F j ∨ w.heap.size + 1 ≤ j := fun j hj => by
          rcases HFin.out.2.1 j hj with h | h | h
          · exact .inl h
          · exact .inr (by have := (HFB.out j h).2; omega)
          · exact .inr (by omega)
        refine ⟨rfl, ⟨F4, HFin.out.1.setRow _ _ HFin.out.2.2.2 (fun h => ?_), fun j hj => (hF4 j hj).imp (fun h => h) (fun h => by omega)⟩, ?_⟩
        · rcases hF4 _ h with h | h
          · have := isC_lt (HM.out.f _ h); omega
          · omega
        · exact ((Moved.of_below HB3.out).trans HFin.out.2.2.1 (fun i hi => .inl hi)).setRow _ (Nat.le_refl _) _
end Go.Proofs.YtjbjcfnbgcloiaaDoor

/- versions and find of package model. -/
namespace Go.Proofs.YtjbjcfnbgcloiaaDoor
open Go.RowKit Nam YtjbjcfnbgcloiaaDoorW.PrintWords

instance : Inhabited Kp := ⟨kp0⟩
theorem go_at_ {α : Type} [Inhabited α] {l : List α} {j : Nat} (h : j < l.length) : l[j]? = some l[j]! := by simp [h]

def VersIs (S : St) (F : Nat → Prop) (b k : List UInt8) (w : World) (e : Ending) (w' : World) : Prop :=
  (∃ v er, e = .returned (.tuple #[v, .int .i64 er]) ∧ (if b ∉ S.B then er = 13 else if S.V b k = [] then er = 14 else er = 0 ∧ RowV w F v (S.V b k))) ∧ w = w'
set_option maxHeartbeats 1000000 in
set_option maxRecDepth 100000 in
theorem versions_is (w : World) (g : Nat) (S : St) (n : Nat) (Q F : Nat → Prop) (b k : List UInt8) (hb : b.length ≤ 100000) (hk : k.length ≤ 100000) (hm : HasM w g S n Q F) :
    Calls Tryd.prog 58 #[.pointer (some ⟨g, 0, none⟩), .string (mkS b), .string (mkS k)] w (VersIs S F b k w) := by
  have HM := Lib.hid hm
  obtain ⟨mb, D, hO⟩ := hm.ex
  have c0 := (blk_cell hO.c 0).trans (rfl : _ = some (Value.map (some mb)))
  have hqe := fun (w : World) (r : Option Nat) => run_eql_map_nil (P := Tryd.prog) w 63 _ _ r Tryd.underlying63
  clear hm
  rcases look1 hO b (by unfold maxLen; omega) with ⟨hB, hrun1⟩ | ⟨hB, ib, hat, hqi, hne, hin, hrun1⟩
  · have HB := Lib.hid hB
    clear hO hB
    go_enter Tryd.func58, Tryd.ntmps58
    go_wp2_with fail
    go_ret2
    exact ⟨⟨_, _, rfl, by rw [if_pos HB.out]⟩, rfl⟩
  · obtain ⟨v, hrow, hrun2⟩ := look2 hin k (by unfold maxLen; omega)
    have HR := Lib.hid hrow
    obtain ⟨A, c, hve, hlc⟩ := hrow.slice
    obtain ⟨m, hmL⟩ : ∃ m, (S.V b k).length = m := ⟨_, rfl⟩
    rw [hmL] at hlc hve
    subst hve
    have HB := Lib.hid hB
    have HML := Lib.hid hmL
    clear hO hB hat hqi hne hin hrow hmL
    by_cases hm0 : m = 0
    · subst hm0
      go_enter Tryd.func58, Tryd.ntmps58
      go_wp2_with fail
      go_ret2
      exact ⟨⟨_, _, rfl, by rw [if_neg (fun h => h HB.out), if_pos (List.length_eq_zero_iff.1 HML.out)]⟩, rfl⟩
    · have hd : decide ((m : Int) = 0) = false := decide_eq_false (by omega)
      have hd2 : ((m : Int) == 0) = false := by simp; omega
      have HM0 := Lib.hid hm0
      clear hm0
      go_enter Tryd.func58, Tryd.ntmps58
      go_wp2_with fail
      go_ret2
      exact ⟨⟨_, _, rfl, by rw [if_neg (fun h => h HB.out), if_neg (fun h => HM0.out (by rw [← HML.out, h]; rfl))]; exact ⟨rfl, HR.out⟩⟩, rfl⟩

def encK (x : Kp × (Option Addr × Nat)) : List Value := kpCells x.1 (.slice x.2.1 x.1.dt.length x.2.2)
/-- A row's elements, with the values of their data. -/
theorem row_zs {w : World} {F : Nat → Prop} {g c n : Nat} {l : List Kp} (h : RowV w F (.slice (some ⟨g, 0, none⟩) n c) l) :
    ∃ zs : List (Kp × (Option Addr × Nat)), zs.map Prod.fst = l ∧ ∀ j, j < zs.length → zs[j]!.1.dt.length ≤ zs[j]!.2.2 ∧ DatF w F zs[j]!.2.1 zs[j]!.1.dt ∧ ∀ i v, (encK zs[j]!)[i]? = some v → w.cell? ⟨g, 0 + j * 5 + i, none⟩ = some v := by
  have hx : ∀ j, ∃ v : Option Addr × Nat, ∀ y, l[j]? = some y → y.dt.length ≤ v.2 ∧ DatF w F v.1 y.dt ∧ ∀ i u, (encK (y, v))[i]? = some u → w.cell? ⟨g, j * 5 + i, none⟩ = some u := fun j => by
    cases hy : l[j]? with
    | none => exact ⟨(none, 0), fun y e => by cases e⟩
    | some y =>
      obtain ⟨A, c', h1, h2, h3⟩ := h.at_ j hy
      exact ⟨(A, c'), fun y' e => by injection e with e; subst e; exact ⟨h1, h2, h3⟩⟩
  obtain ⟨f, hf⟩ := Classical.axiomOfChoice hx
  refine ⟨(List.range l.length).map (fun j => (l[j]!, f j)), ?_, fun j hj => ?_⟩
  · rw [List.map_map]
    apply List.ext_getElem? 
    intro j
    by_cases hj : j < l.length
    · simp [hj]
    · simp [hj]
  · rw [List.length_map, List.length_range] at hj
    have he : ((List.range l.length).map (fun j => (l[j]!, f j)))[j]! = (l[j]!, f j) := by simp [hj]
    rw [he]
    obtain ⟨h2, h3, h4⟩ := hf j l[j]! (go_at_ hj)
    refine ⟨h2, h3, fun i v hi => ?_⟩
    rw [Nat.zero_add]
    exact h4 i v hi

theorem pred_id (id : Int) (B : Nat) (w : World) (hB : B < w.heap.size) (hcell : w.cell? ⟨B, 0, none⟩ = some (.int .i64 id)) :
    PredBelow Tryd.prog 60 #[.pointer (some ⟨B, 0, none⟩)] (fun x => .agg (encK x).toArray) (fun x => decide (x.1.id = id)) w := fun W x hb => by
  have hc : W.cell? ⟨B, 0, none⟩ = some (.int .i64 id) := (hb.cell (p := ⟨B, 0, none⟩) hB).trans hcell
  have hBW : B < W.heap.size := Nat.lt_of_lt_of_le hB hb.size
  have hne : B ≠ W.heap.size := by omega
  obtain ⟨x, A, c⟩ := x
  show Calls Tryd.prog 60 #[.agg #[.int .i64 x.id, .bool x.mark, .int .i64 x.sz, .int .u32 x.sum, .slice A x.dt.length c], .pointer (some ⟨B, 0, none⟩)] W _
  have HH := Lib.hid (And.intro hb hB)
  clear hcell hB hb
  go_enter Tryd.func60, Tryd.ntmps60
  go_wp2
  all_goals (go_ret; exact ⟨by simp [Value.int.injEq, *] <;> rfl, HH.out.1.alloc HH.out.1.size _⟩)

/-! ### find -/
def idxK (id : Int) (l : List Kp) : Int := if id = 0 then (l.length : Int) - 1 else Lib.idxBy (fun _ y => decide (y.id = id)) l kp0
def St.findE (S : St) (b k : List UInt8) (id least : Int) : Int :=
  if namedB b k = false then 12 else if id < least then 1 else if b ∉ S.B then 13 else if S.V b k = [] then 14 else if idxK id (S.V b k) < 0 then 15 else 0
theorem idx_spec (p : Kp → Bool) (d : Kp) : ∀ (l : List Kp) (i : Nat), Lib.idxByFrom (fun _ y => p y) d l i = -1 ∨ ∃ k, k < l.length ∧ Lib.idxByFrom (fun _ y => p y) d l i = ((i + k : Nat) : Int) ∧ p l[k]! = true
  | [], i => .inl rfl
  | y :: r, i => by
    cases h : p y with
    | true => exact .inr ⟨0, by simp, by simp [Lib.idxByFrom, h], by simpa using h⟩
    | false =>
      rcases idx_spec p d r (i + 1) with e | ⟨k, h1, h2, h3⟩
      · exact .inl (by simp [Lib.idxByFrom, h, e])
      · exact .inr ⟨k + 1, by simp; omega, by simp only [Lib.idxByFrom, h, Bool.false_eq_true, if_false, h2]; omega, by simpa using h3⟩
theorem idx_map {α : Type} [Inhabited α] (p : Kp → Bool) (d : Kp) (zs : List (Kp × α)) (z : Kp × α) (i : Nat) : Lib.idxByFrom (fun _ y => p y.1) z zs i = Lib.idxByFrom (fun _ y => p y) d (zs.map Prod.fst) i := by
  induction zs generalizing i with
  | nil => rfl
  | cons a r ih => simp only [List.map_cons, Lib.idxByFrom, ih]
theorem idxK_lt {id : Int} {l : List Kp} : idxK id l < 0 ∨ ∃ i : Nat, idxK id l = (i : Int) ∧ i < l.length := by
  unfold idxK
  split
  · by_cases h : l = []
    · subst h; exact .inl (by decide)
    · have := List.length_pos_iff.2 h
      exact .inr ⟨l.length - 1, by omega, by omega⟩
  · rcases idx_spec (fun (y : Kp) => decide (y.id = id)) kp0 l 0 with h | ⟨k, h1, h2, _⟩
    · exact .inl (by unfold Lib.idxBy; rw [h]; decide)
    · exact .inr ⟨k, by unfold Lib.idxBy; rw [h2]; simp, h1⟩
/-- slices.IndexFunc of a row: the first of an id. -/
theorem index_is (w : World) (F : Nat → Prop) (g n c : Nat) (l : List Kp) (id : Int) (B : Nat) (hl : l.length = n) (hn : n ≤ 100000) (hg : g < w.heap.size) (h : RowV w F (.slice (some ⟨g, 0, none⟩) n c) l) (hid : id ≠ 0) (hB : B < w.heap.size) (hcell : w.cell? ⟨B, 0, none⟩ = some (.int .i64 id)) :
    Calls Tryd.prog 59 #[.slice (some ⟨g, 0, none⟩) n c, .func (.func 60) #[] #[.pointer (some ⟨B, 0, none⟩)]] w fun e w' => e = .returned (.int .i64 (idxK id l)) ∧ Below w.heap.size w w' := by
  obtain ⟨zs, hz, hc⟩ := row_zs h
  have hzl : zs.length = n := by rw [← hl, ← hz, List.length_map]
  have eg : ∀ args w, (callFunc 60 args).run Tryd.prog w = .ok (.enter 60 args) w := enters_of Tryd.func60 (by kernel_rfl) rfl
  refine (AnyQ.slices_IndexFunc Tryd.indexK 5 (fun w => by kernel_rfl) (fun w => by kernel_rfl) encK (fun _ => rfl) (fun x => decide (x.1.id = id)) 60 #[.pointer (some ⟨B, 0, none⟩)] eg g 0 n c zs w (pred_id id B w hB hcell) (by omega) (by omega) hg (fun j hj => ?_)).mono fun e w' ⟨he, hb⟩ => ⟨?_, hb⟩
  · exact (hc j hj).2.2
  · rw [he, List.take_of_length_le (by omega)]
    unfold idxK Lib.idxBy
    rw [if_neg hid, idx_map (fun y => decide (y.id = id)) kp0, hz]
end Go.Proofs.YtjbjcfnbgcloiaaDoor

/- find of package model. -/
namespace Go.Proofs.YtjbjcfnbgcloiaaDoor
open Go.RowKit Nam YtjbjcfnbgcloiaaDoorW.PrintWords

theorem RowV.full {w : World} {F : Nat → Prop} {v : Value} {l : List Kp} (h : RowV w F v l) (hl : l ≠ []) : ∃ g c, v = .slice (some ⟨g, 0, none⟩) l.length c ∧ F g ∧ l.length ≤ c := by
  obtain ⟨news, h1, _⟩ := h
  rcases h1 with ⟨_, h0, _⟩ | ⟨g, c, h1, h2, h3, _⟩
  · exact absurd (List.length_eq_zero_iff.1 h0) hl
  · exact ⟨g, c, h1, h3, h2⟩
theorem setRow_kept {w : World} {F : Nat → Prop} (r : Nat) (cs : Array Value) (h : ¬ F r) : FKept F w (w.setRow r cs) := fun k hk => setRow_other _ _ _ _ (fun e => h (by rw [← e]; exact hk))
/-- What find leaves: its error, or a version and its place. -/
def FindIs (S : St) (F : Nat → Prop) (b k : List UInt8) (id least : Int) (w : World) (e : Ending) (w' : World) : Prop :=
  ((S.findE b k id least ≠ 0 ∧ e = .returned (.tuple #[.agg #[.int .i64 0, .bool false, .int .i64 0, .int .u32 0, .slice none 0 0], .int .i64 0, .int .i64 (S.findE b k id least)])) ∨
   (S.findE b k id least = 0 ∧ ∃ (i : Nat) (y : Kp) (A : Option Addr) (c : Nat), idxK id (S.V b k) = (i : Int) ∧ i < (S.V b k).length ∧ (S.V b k)[i]? = some y ∧ y.dt.length ≤ c ∧ DatF w' F A y.dt ∧
     e = .returned (.tuple #[.agg #[.int .i64 y.id, .bool y.mark, .int .i64 y.sz, .int .u32 y.sum, .slice A y.dt.length c], .int .i64 i, .int .i64 0]))) ∧ Below w.heap.size w w'
theorem find_err {S : St} {F : Nat → Prop} {b k : List UInt8} {id least err : Int} {w w' : World} (h : S.findE b k id least = err) (h0 : err ≠ 0) (hb : Below w.heap.size w w') :
    FindIs S F b k id least w (.returned (.tuple #[.agg #[.int .i64 0, .bool false, .int .i64 0, .int .u32 0, .slice none 0 0], .int .i64 0, .int .i64 err])) w' := by
  subst h
  exact ⟨.inl ⟨h0, rfl⟩, hb⟩
theorem find_ok {S : St} {F : Nat → Prop} {b k : List UInt8} {id least : Int} {w w' : World} {i : Nat} {y : Kp} {A : Option Addr} {c : Nat} (h : S.findE b k id least = 0) (hi : idxK id (S.V b k) = (i : Int)) (hl : i < (S.V b k).length) (hy : (S.V b k)[i]? = some y)
    (hc : y.dt.length ≤ c) (hd : DatF w' F A y.dt) (hb : Below w.heap.size w w') :
    FindIs S F b k id least w (.returned (.tuple #[.agg #[.int .i64 y.id, .bool y.mark, .int .i64 y.sz, .int .u32 y.sum, .slice A y.dt.length c], .int .i64 i, .int .i64 0])) w' :=
  ⟨.inr ⟨h, i, y, A, c, hi, hl, hy, hc, hd, rfl⟩, hb⟩

set_option maxHeartbeats 4000000 in
set_option maxRecDepth 100000 in
theorem find_is (w : World) (g : Nat) (S : St) (n : Nat) (Q F : Nat → Prop) (b k : List UInt8) (id least : Int) (hb : b.length ≤ 100000) (hk : k.length ≤ 100000) (hl : (S.V b k).length ≤ 100000) (hm : HasM w g S n Q F) (hT : Tabs w) :
    Calls Tryd.prog 43 #[.pointer (some ⟨g, 0, none⟩), .string (mkS b), .string (mkS k), .int .i64 id, .int .i64 least] w (FindIs S F b k id least w) := by
  have HM := Lib.hid hm
  obtain ⟨mb, D, hO⟩ := hm.ex
  obtain ⟨W2, hW2⟩ : ∃ W2, (w.alloc (.cells #[.int .i64 id] 3)).alloc (.cells #[.int .i64 0, .bool false, .int .i64 0, .int .u32 0, .slice none 0 0] 74) = W2 := ⟨_, rfl⟩
  have hb2 : Below w.heap.size w W2 := by rw [← hW2]; exact ((Below.refl _ _).alloc (Nat.le_refl _) _).alloc (by simp) _
  have hbi : W2.heap[w.heap.size]? = some (.cells #[.int .i64 id] 3 (0, 0)) := by rw [← hW2]; exact (heap_alloc_old _ _ (by simp)).trans (heap_alloc_new w _)
  have hbv : W2.heap[w.heap.size + 1]? = some (.cells #[.int .i64 0, .bool false, .int .i64 0, .int .u32 0, .slice none 0 0] 74 (0, 0)) := by
    rw [← hW2]
    have := heap_alloc_new (w.alloc (.cells #[.int .i64 id] 3)) (.cells #[.int .i64 0, .bool false, .int .i64 0, .int .u32 0, .slice none 0 0] 74)
    simpa using this
  have hs2 : w.heap.size + 2 = W2.heap.size := by rw [← hW2]; simp
  have hO2 := hO.below hm.q hm.f hb2
  have HBI := Lib.hid hbi
  have HBV := Lib.hid hbv
  have HB2 := Lib.hid hb2
  obtain ⟨nm, hnm⟩ : ∃ nm, namedB b k = nm := ⟨_, rfl⟩
  have hna := named_is W2 g mb b k hb hk (hT.below hb2) hO2.c
  rw [hnm] at hna
  have HNA := Lib.hid hna
  have HNM := Lib.hid hnm
  have HVS : Hid (∀ W, Below w.heap.size w W → Calls Tryd.prog 58 #[.pointer (some ⟨g, 0, none⟩), .string (mkS b), .string (mkS k)] W (VersIs S F b k W)) := fun W hW => versions_is W g S n Q F b k hb hk (hm.below hW)
  have HL := Lib.hid hl
  clear hO hO2 hbi hbv hb2 hna hnm hm hT hl
  cases nm with
  | false =>
    have hR : Hid (S.findE b k id least = 12) := by show _ = _; unfold St.findE; rw [if_pos HNM.out]
    go_enter Tryd.func43, Tryd.ntmps43
    go_upto_region 1 with (fail)
    clear hW2
    go_wp2_with fail
    refine HNA.out.mono ?_
    rintro e w3 ⟨rfl, hb3⟩
    have HBV3 := Lib.hid (blk_below HBV.out hb3)
    have HBI3 := Lib.hid (blk_below HBI.out hb3)
    have HB3 := Lib.hid (HB2.out.trans (hb3.mono HB2.out.size))
    have hs3 : w.heap.size + 2 ≤ w3.heap.size := by have := hb3.size; omega
    have i0 := (blk_cell HBI3.out 0).trans (rfl : _ = some (Value.int .i64 id))
    clear hb3
    simp only [Bool.false_eq_true, if_false]
    go_wp2_with (refine wpList_store_row rfl 74 (.tmp 10) (.tmp 23) rfl (w.heap.size + 1) #[.int .i64 0, .bool false, .int .i64 0, .int .u32 0, .slice none 0 0] rfl rfl 74 _ HBV3.out (by kernel_rfl) rfl (by simp [Value.oneCell']) ?_)
    refine bodyPost_ret (results_ctt rfl _ _ (w.heap.size + 1) 74 #[.int .i64 0, .bool false, .int .i64 0, .int .u32 0, .slice none 0 0] (0, 0) _ rfl (setRow_heap _ _ _ _ _ _ HBV3.out) Tryd.underlying74 rfl (by kernel_rfl)) rfl ?_
    exact find_err hR.out (by decide) (below_setRow HB3.out (by omega) _)
  | true =>
    have hE : S.findE b k id least = if id < least then 1 else if b ∉ S.B then 13 else if S.V b k = [] then 14 else if idxK id (S.V b k) < 0 then 15 else 0 := by unfold St.findE; rw [if_neg (by rw [HNM.out]; simp)]
    by_cases hlt : id < least
    · have hR : Hid (S.findE b k id least = 1) := by show _ = _; rw [hE, if_pos hlt]
      have dl : decide (id < least) = true := decide_eq_true hlt
      clear hE hlt
      go_enter Tryd.func43, Tryd.ntmps43
      go_upto_region 1 with (fail)
      clear hW2
      go_wp2_with fail
      refine HNA.out.mono ?_
      rintro e w3 ⟨rfl, hb3⟩
      have HBV3 := Lib.hid (blk_below HBV.out hb3)
      have HBI3 := Lib.hid (blk_below HBI.out hb3)
      have HB3 := Lib.hid (HB2.out.trans (hb3.mono HB2.out.size))
      have hs3 : w.heap.size + 2 ≤ w3.heap.size := by have := hb3.size; omega
      have i0 := (blk_cell HBI3.out 0).trans (rfl : _ = some (Value.int .i64 id))
      clear hb3
      simp only [if_true]
      go_wp2_with (refine wpList_store_row rfl 74 (.tmp 10) (.tmp 28) rfl (w.heap.size + 1) #[.int .i64 0, .bool false, .int .i64 0, .int .u32 0, .slice none 0 0] rfl rfl 74 _ HBV3.out (by kernel_rfl) rfl (by simp [Value.oneCell']) ?_)
      refine bodyPost_ret (results_ctt rfl _ _ (w.heap.size + 1) 74 #[.int .i64 0, .bool false, .int .i64 0, .int .u32 0, .slice none 0 0] (0, 0) _ rfl (setRow_heap _ _ _ _ _ _ HBV3.out) Tryd.underlying74 rfl (by kernel_rfl)) rfl ?_
      exact find_err hR.out (by decide) (below_setRow HB3.out (by omega) _)
    · rw [if_neg hlt] at hE
      have dl : decide (id < least) = false := decide_eq_false hlt
      clear hlt
      by_cases hv0 : b ∉ S.B ∨ S.V b k = []
      · have hbad : ∀ (v : Value) (er : Int) (w : World), (if b ∉ S.B then er = 13 else if S.V b k = [] then er = 14 else er = 0 ∧ RowV w F v (S.V b k)) → S.findE b k id least = er ∧ er ≠ 0 := fun v er w h => by
          rw [hE]
          by_cases hB : b ∉ S.B
          · rw [if_pos hB] at h ⊢
            subst h
            exact ⟨rfl, by decide⟩
          · rw [if_neg hB] at h ⊢
            have h2 := hv0.resolve_left hB
            rw [if_pos h2] at h ⊢
            subst h
            exact ⟨rfl, by decide⟩
        have HBad := Lib.hid hbad
        clear hbad hE hv0
        go_enter Tryd.func43, Tryd.ntmps43
        go_upto_region 1 with (fail)
        clear hW2
        go_wp2_with fail
        refine HNA.out.mono ?_
        rintro e w3 ⟨rfl, hb3⟩
        have HBV3 := Lib.hid (blk_below HBV.out hb3)
        have HBI3 := Lib.hid (blk_below HBI.out hb3)
        have HB3 := Lib.hid (HB2.out.trans (hb3.mono HB2.out.size))
        have hs3 : w.heap.size + 2 ≤ w3.heap.size := by have := hb3.size; omega
        have i0 := (blk_cell HBI3.out 0).trans (rfl : _ = some (Value.int .i64 id))
        clear hb3
        simp only [if_true]
        go_wp2_with fail
        refine (HVS.out _ HB3.out).mono ?_
        rintro e w' ⟨⟨v, er, rfl, hv⟩, rfl⟩
        obtain ⟨hR, hne⟩ := HBad.out _ _ _ hv
        have hR := Lib.hid hR
        have de : decide (er = 0) = false := decide_eq_false hne
        have de2 : (er == 0) = false := by simp [hne]
        have HNE := Lib.hid hne
        clear hv
        go_wp2_with (refine wpList_store_row rfl 74 (.tmp 10) (.tmp 38) rfl (w.heap.size + 1) #[.int .i64 0, .bool false, .int .i64 0, .int .u32 0, .slice none 0 0] rfl rfl 74 _ HBV3.out (by kernel_rfl) rfl (by simp [Value.oneCell']) ?_)
        refine bodyPost_ret (results_ctt rfl _ _ (w.heap.size + 1) 74 #[.int .i64 0, .bool false, .int .i64 0, .int .u32 0, .slice none 0 0] (0, 0) _ rfl (setRow_heap _ _ _ _ _ _ HBV3.out) Tryd.underlying74 rfl (by kernel_rfl)) rfl ?_
        exact find_err hR.out HNE.out (below_setRow HB3.out (by omega) _)
      · have hB : b ∈ S.B := Classical.not_not.1 (fun h => hv0 (.inl h))
        have hn0 : S.V b k ≠ [] := fun h => hv0 (.inr h)
        rw [if_neg (fun h => h hB), if_neg hn0] at hE
        have HGood : Hid (∀ (v : Value) (er : Int) (w : World), (if b ∉ S.B then er = 13 else if S.V b k = [] then er = 14 else er = 0 ∧ RowV w F v (S.V b k)) → er = 0 ∧ RowV w F v (S.V b k)) := fun v er w h => by
          rw [if_neg (fun h => h hB), if_neg hn0] at h
          exact h
        have HN0 := Lib.hid hn0
        obtain ⟨m, hmL⟩ : ∃ m, (S.V b k).length = m := ⟨_, rfl⟩
        have HML := Lib.hid hmL
        have hml := HL.out
        rw [hmL] at hml
        have hm0 : 0 < m := by rw [← hmL]; exact List.length_pos_iff.2 hn0
        have HE := Lib.hid hE
        have wm : IntKind.i64.wrap ((m : Int) - 1) = ((m - 1 : Nat) : Int) := by rw [IntWalk.i64_in _ (by omega)]; omega
        obtain ⟨m1, hm1⟩ : ∃ m1, m - 1 = m1 := ⟨_, rfl⟩
        rw [hm1] at wm
        have hmm : m = m1 + 1 := by omega
        clear hv0 hB hn0 hmL hE
        by_cases hid : id = 0
        · subst hid
          have hix : idxK 0 (S.V b k) = (m1 : Int) := by unfold idxK; rw [if_pos rfl, HML.out]; omega
          have hR : Hid (S.findE b k 0 least = 0) := by show _ = _; rw [HE.out, hix, if_neg (by omega)]
          obtain ⟨y, hy⟩ : ∃ y, (S.V b k)[m1]? = some y := ⟨_, List.getElem?_eq_getElem (by rw [HML.out]; omega)⟩
          have HIX := Lib.hid hix
          have HY := Lib.hid hy
          have HIL : Hid (m1 < (S.V b k).length) := by show _ < _; rw [HML.out]; omega
          have dm : decide ((m1 : Int) < 0) = false := decide_eq_false (by omega)
          have nn : (m1 : Int) < (m : Int) := by omega
          have n0 : (0 : Int) ≤ (m1 : Int) := by omega
          clear hix hy hm1 hmm
          go_enter Tryd.func43, Tryd.ntmps43
          go_upto_region 1 with (fail)
          clear hW2
          go_wp2_with fail
          refine HNA.out.mono ?_
          rintro e w3 ⟨rfl, hb3⟩
          have HBV3 := Lib.hid (blk_below HBV.out hb3)
          have HBI3 := Lib.hid (blk_below HBI.out hb3)
          have HB3 := Lib.hid (HB2.out.trans (hb3.mono HB2.out.size))
          have hs3 : w.heap.size + 2 ≤ w3.heap.size := by have := hb3.size; omega
          have i0 := (blk_cell HBI3.out 0).trans (rfl : _ = some (Value.int .i64 0))
          clear hb3
          simp only [if_true]
          go_wp2_with fail
          refine (HVS.out _ HB3.out).mono ?_
          rintro e w' ⟨⟨v, er, rfl, hv⟩, rfl⟩
          obtain ⟨rfl, hrow⟩ := HGood.out _ _ _ hv
          obtain ⟨g2, c2, rfl, hFg, hlc⟩ := hrow.full HN0.out
          rw [HML.out] at hrow hlc ⊢
          obtain ⟨A2, c3, hdc, hdf, hcell⟩ := hrow.at_ m1 HY.out
          have y0 := hcell 0 _ rfl
          have y1 := hcell 1 _ rfl
          have y2 := hcell 2 _ rfl
          have y3 := hcell 3 _ rfl
          have y4 := hcell 4 _ rfl
          rw [Nat.add_zero] at y0
          have HDC := Lib.hid hdc
          have HDF := Lib.hid hdf
          clear hv hrow hFg hdc hdf hcell
          go_wp2_with (refine wpList_store_row rfl 74 (.tmp 10) (.tmp 54) rfl (w.heap.size + 1) #[.int .i64 y.id, .bool y.mark, .int .i64 y.sz, .int .u32 y.sum, .slice A2 y.dt.length c3] rfl rfl 74 _ HBV3.out (by kernel_rfl) rfl (by simp [Value.oneCell']) ?_)
          refine bodyPost_ret (results_ctt rfl _ _ (w.heap.size + 1) 74 #[.int .i64 y.id, .bool y.mark, .int .i64 y.sz, .int .u32 y.sum, .slice A2 y.dt.length c3] (0, 0) _ rfl (setRow_heap _ _ _ _ _ _ HBV3.out) Tryd.underlying74 rfl (by kernel_rfl)) rfl ?_
          refine find_ok hR.out HIX.out HIL.out HY.out HDC.out (HDF.out.kept ?_) (below_setRow HB3.out (by omega) _)
          exact setRow_kept _ _ (fun h => by have := isC_lt (HM.out.f _ h); omega)
        · have d0 : (id == 0) = false := by simp [hid]
          have d1 : decide (id = 0) = false := decide_eq_false hid
          have HIN := Lib.hid hid
          rcases idxK_lt (id := id) (l := S.V b k) with hix | ⟨i, hix, hil⟩
          · have hR : Hid (S.findE b k id least = 15) := by show _ = _; rw [HE.out, if_pos hix]
            obtain ⟨r, hr⟩ : ∃ r, idxK id (S.V b k) = r := ⟨_, rfl⟩
            rw [hr] at hix
            have dm : decide (r < 0) = true := decide_eq_true hix
            have HRr := Lib.hid hr
            clear hr hix hid hmm hm1
            go_enter Tryd.func43, Tryd.ntmps43
            go_upto_region 1 with (fail)
            clear hW2
            go_wp2_with fail
            refine HNA.out.mono ?_
            rintro e w3 ⟨rfl, hb3⟩
            have HBV3 := Lib.hid (blk_below HBV.out hb3)
            have HBI3 := Lib.hid (blk_below HBI.out hb3)
            have HB3 := Lib.hid (HB2.out.trans (hb3.mono HB2.out.size))
            have hs3 : w.heap.size + 2 ≤ w3.heap.size := by have := hb3.size; omega
            have i0 := (blk_cell HBI3.out 0).trans (rfl : _ = some (Value.int .i64 id))
            clear hb3
            simp only [if_true]
            go_wp2_with fail
            refine (HVS.out _ HB3.out).mono ?_
            rintro e w' ⟨⟨v, er, rfl, hv⟩, rfl⟩
            obtain ⟨rfl, hrow⟩ := HGood.out _ _ _ hv
            obtain ⟨g2, c2, rfl, hFg, hlc⟩ := hrow.full HN0.out
            rw [HML.out] at hrow hlc ⊢
            have HIC : Hid (Calls Tryd.prog 59 #[.slice (some ⟨g2, 0, none⟩) m c2, .func (.func 60) #[] #[.pointer (some ⟨w.heap.size, 0, none⟩)]] w3 fun e w' => e = .returned (.int .i64 r) ∧ Below w3.heap.size w3 w') := by
              rw [← HRr.out]
              exact index_is w3 F g2 m c2 (S.V b k) id w.heap.size HML.out hml (isC_lt ((HM.out.below HB3.out).f g2 hFg)) hrow HIN.out (by omega) i0
            clear hv hrow hFg
            go_wp2_with fail
            refine HIC.out.mono ?_
            rintro e w4 ⟨rfl, hb4⟩
            have HBV4 := Lib.hid (blk_below HBV3.out hb4)
            have HB4 := Lib.hid (HB3.out.trans (hb4.mono HB3.out.size))
            clear hb4
            go_wp2_with (refine wpList_store_row rfl 74 (.tmp 10) (.tmp 50) rfl (w.heap.size + 1) #[.int .i64 0, .bool false, .int .i64 0, .int .u32 0, .slice none 0 0] rfl rfl 74 _ HBV4.out (by kernel_rfl) rfl (by simp [Value.oneCell']) ?_)
            refine bodyPost_ret (results_ctt rfl _ _ (w.heap.size + 1) 74 #[.int .i64 0, .bool false, .int .i64 0, .int .u32 0, .slice none 0 0] (0, 0) _ rfl (setRow_heap _ _ _ _ _ _ HBV4.out) Tryd.underlying74 rfl (by kernel_rfl)) rfl ?_
            exact find_err hR.out (by decide) (below_setRow HB4.out (by omega) _)
          · have hR : Hid (S.findE b k id least = 0) := by show _ = _; rw [HE.out, hix, if_neg (by omega)]
            obtain ⟨y, hy⟩ : ∃ y, (S.V b k)[i]? = some y := ⟨_, List.getElem?_eq_getElem hil⟩
            have HIX := Lib.hid hix
            have HY := Lib.hid hy
            have HIL := Lib.hid hil
            rw [HML.out] at hil
            have dm : decide ((i : Int) < 0) = false := decide_eq_false (by omega)
            have nn : (i : Int) < (m : Int) := by omega
            have n0 : (0 : Int) ≤ (i : Int) := by omega
            clear hix hy hid hmm hm1
            go_enter Tryd.func43, Tryd.ntmps43
            go_upto_region 1 with (fail)
            clear hW2
            go_wp2_with fail
            refine HNA.out.mono ?_
            rintro e w3 ⟨rfl, hb3⟩
            have HBV3 := Lib.hid (blk_below HBV.out hb3)
            have HBI3 := Lib.hid (blk_below HBI.out hb3)
            have HB3 := Lib.hid (HB2.out.trans (hb3.mono HB2.out.size))
            have hs3 : w.heap.size + 2 ≤ w3.heap.size := by have := hb3.size; omega
            have i0 := (blk_cell HBI3.out 0).trans (rfl : _ = some (Value.int .i64 id))
            clear hb3
            simp only [if_true]
            go_wp2_with fail
            refine (HVS.out _ HB3.out).mono ?_
            rintro e w' ⟨⟨v, er, rfl, hv⟩, rfl⟩
            obtain ⟨rfl, hrow⟩ := HGood.out _ _ _ hv
            obtain ⟨g2, c2, rfl, hFg, hlc⟩ := hrow.full HN0.out
            rw [HML.out] at hrow hlc ⊢
            have HIC : Hid (Calls Tryd.prog 59 #[.slice (some ⟨g2, 0, none⟩) m c2, .func (.func 60) #[] #[.pointer (some ⟨w.heap.size, 0, none⟩)]] w3 fun e w' => e = .returned (.int .i64 (i : Int)) ∧ Below w3.heap.size w3 w') := by
              rw [← HIX.out]
              exact index_is w3 F g2 m c2 (S.V b k) id w.heap.size HML.out hml (isC_lt ((HM.out.below HB3.out).f g2 hFg)) hrow HIN.out (by omega) i0
            have HRw := Lib.hid hrow
            clear hv hrow hFg
            go_wp2_with fail
            refine HIC.out.mono ?_
            rintro e w4 ⟨rfl, hb4⟩
            have HBV4 := Lib.hid (blk_below HBV3.out hb4)
            have HB4 := Lib.hid (HB3.out.trans (hb4.mono HB3.out.size))
            have hs4 : w.heap.size + 2 ≤ w4.heap.size := by have := hb4.size; omega
            have hrow := HRw.out.kept (below_cells hb4 (HM.out.below HB3.out).f)
            obtain ⟨A2, c3, hdc, hdf, hcell⟩ := hrow.at_ i HY.out
            have y0 := hcell 0 _ rfl
            have y1 := hcell 1 _ rfl
            have y2 := hcell 2 _ rfl
            have y3 := hcell 3 _ rfl
            have y4 := hcell 4 _ rfl
            rw [Nat.add_zero] at y0
            have HDC := Lib.hid hdc
            have HDF := Lib.hid hdf
            clear hb4 hrow hdc hdf hcell i0
            go_wp2_with (refine wpList_store_row rfl 74 (.tmp 10) (.tmp 54) rfl (w.heap.size + 1) #[.int .i64 y.id, .bool y.mark, .int .i64 y.sz, .int .u32 y.sum, .slice A2 y.dt.length c3] rfl rfl 74 _ HBV4.out (by kernel_rfl) rfl (by simp [Value.oneCell']) ?_)
            refine bodyPost_ret (results_ctt rfl _ _ (w.heap.size + 1) 74 #[.int .i64 y.id, .bool y.mark, .int .i64 y.sz, .int .u32 y.sum, .slice A2 y.dt.length c3] (0, 0) _ rfl (setRow_heap _ _ _ _ _ _ HBV4.out) Tryd.underlying74 rfl (by kernel_rfl)) rfl ?_
            refine find_ok hR.out HIX.out HIL.out HY.out HDC.out (HDF.out.kept ?_) (below_setRow HB4.out (by omega) _)
            exact setRow_kept _ _ (fun h => by have := isC_lt (HM.out.f _ h); omega)
end Go.Proofs.YtjbjcfnbgcloiaaDoor

/- Delete of package model. -/
namespace Go.Proofs.YtjbjcfnbgcloiaaDoor
open Go.RowKit Nam YtjbjcfnbgcloiaaDoorW.PrintWords

def kpDel (id : Int) : Kp := ⟨id, true, 0, 0, []⟩
def St.delE (S : St) (id : Int) (b k : List UInt8) : Int := if S.findE b k 0 0 ≠ 0 then S.findE b k 0 0 else moreE (S.V b k) (kpDel id)
def St.doDel (S : St) (id : Int) (b k : List UInt8) : St := if S.delE id b k = 0 then S.put b k (S.V b k ++ [kpDel id]) else S
theorem find_in {S : St} {b k : List UInt8} {id least : Int} (h : S.findE b k id least = 0) : b ∈ S.B ∧ S.V b k ≠ [] ∧ namedB b k = true := by
  unfold St.findE at h
  refine ⟨?_, ?_, ?_⟩
  all_goals (first | refine Classical.byContradiction (fun hn => ?_) | skip)
  · by_cases h1 : namedB b k = false
    · rw [if_pos h1] at h; cases h
    · rw [if_neg h1] at h
      by_cases h2 : id < least
      · rw [if_pos h2] at h; cases h
      · rw [if_neg h2, if_pos hn] at h; cases h
  · have hn := Classical.not_not.1 hn
    by_cases h1 : namedB b k = false
    · rw [if_pos h1] at h; cases h
    · rw [if_neg h1] at h
      by_cases h2 : id < least
      · rw [if_pos h2] at h; cases h
      · rw [if_neg h2] at h
        by_cases h3 : b ∉ S.B
        · rw [if_pos h3] at h; cases h
        · rw [if_neg h3, if_pos hn] at h; cases h
  · by_cases h1 : namedB b k = false
    · rw [if_pos h1] at h; cases h
    · exact hn (by simpa using h1)
/-- A box laid, and a row stored in it. -/
theorem boxed {w w3 W4 : World} {cs0 cs : Array Value} {t : TypeId} (hb : Below w.heap.size w w3) (hW : (w3.alloc (.cells cs0 t)).setRow w3.heap.size cs = W4) : Below w.heap.size w W4 ∧ Below w3.heap.size w3 W4 := by
  subst hW
  exact ⟨below_setRow (hb.alloc hb.size _) hb.size _, below_setRow ((Below.refl _ _).alloc (Nat.le_refl _) _) (Nat.le_refl _) _⟩

set_option maxHeartbeats 2000000 in
set_option maxRecDepth 100000 in
theorem delete_is (w : World) (g : Nat) (S : St) (n : Nat) (Q F : Nat → Prop) (id : Int) (b k : List UInt8) (hb : b.length ≤ 100000) (hk : k.length ≤ 100000) (hl : (S.V b k).length ≤ 100000) (hn : n ≤ 100000) (hm : HasM w g S n Q F) (hT : Tabs w) :
    Calls Tryd.prog 23 #[.pointer (some ⟨g, 0, none⟩), .int .i64 id, .string (mkS b), .string (mkS k)] w
      (PutIs (S.doDel id b k) n Q F g (if S.delE id b k = 0 then kpDel id else kp0) (S.delE id b k) w) := by
  have HM := Lib.hid hm
  obtain ⟨W1, hW1⟩ : ∃ W1, w.alloc (.cells #[.int .i64 0, .bool false, .int .i64 0, .int .u32 0] 36) = W1 := ⟨_, rfl⟩
  have hb1 : Below w.heap.size w W1 := by rw [← hW1]; exact (Below.refl _ _).alloc (Nat.le_refl _) _
  have hbv : W1.heap[w.heap.size]? = some (.cells #[.int .i64 0, .bool false, .int .i64 0, .int .u32 0] 36 (0, 0)) := by rw [← hW1]; exact heap_alloc_new w _
  have hs1 : w.heap.size + 1 = W1.heap.size := by rw [← hW1]; simp
  have hfe := find_is W1 g S n Q F b k 0 0 hb hk hl (hm.below hb1) (hT.below hb1)
  have HW4 : Hid (∀ (w3 W4 : World) (cs : Array Value), Below W1.heap.size W1 w3 → (w3.alloc (.cells #[.int .i64 0, .bool false, .int .i64 0, .int .u32 0, .slice none 0 0] 74)).setRow w3.heap.size cs = W4 → Hid (W4.heap[w.heap.size]? = some (.cells #[.int .i64 0, .bool false, .int .i64 0, .int .u32 0] 36 (0, 0))) ∧ Hid (Below w.heap.size w W4) ∧ Hid (HasM W4 g S n Q F) ∧ Hid (w.heap.size < W4.heap.size)) := fun w3 W4 cs h3 h4 => by
    have h03 : Below w.heap.size w w3 := hb1.trans (h3.mono (by omega))
    obtain ⟨h5, h6⟩ := boxed h03 h4
    exact ⟨blk_below (blk_below hbv h3) h6, h5, hm.below h5, by show _ < _; have := h3.size; have := h6.size; omega⟩
  have HW4b : Hid (∀ (w3 W4 : World) (cs : Array Value), Below W1.heap.size W1 w3 → w3.alloc (.cells cs 74) = W4 → Hid (W4.heap[w.heap.size]? = some (.cells #[.int .i64 0, .bool false, .int .i64 0, .int .u32 0] 36 (0, 0))) ∧ Hid (Below w.heap.size w W4) ∧ Hid (HasM W4 g S n Q F) ∧ Hid (w.heap.size < W4.heap.size)) := fun w3 W4 cs h3 h4 => by
    have h03 : Below w.heap.size w w3 := hb1.trans (h3.mono (by omega))
    subst h4
    have h5 := h03.alloc h03.size (.cells cs 74)
    have h6 := (Below.refl w3.heap.size w3).alloc (Nat.le_refl _) (.cells cs 74)
    exact ⟨blk_below (blk_below hbv h3) h6, h5, hm.below h5, by show _ < _; have := h3.size; have := h6.size; omega⟩
  have HB5 : Hid (∀ (W4 w5 : World), W4.heap[w.heap.size]? = some (.cells #[.int .i64 0, .bool false, .int .i64 0, .int .u32 0] 36 (0, 0)) → Below w.heap.size w W4 → Moved Q W4 w5 → Hid (w5.heap[w.heap.size]? = some (.cells #[.int .i64 0, .bool false, .int .i64 0, .int .u32 0] 36 (0, 0)))) := fun W4 w5 h1 h2 h3 =>
    (h3.block w.heap.size (by have := isC_lt ⟨_, _, _, h1⟩; exact this) (fun h => by have := isM_lt (hm.q _ h); omega)).trans h1
  clear hbv hb1 hm hT
  by_cases hf : S.findE b k 0 0 = 0
  rotate_left
  · have hR : S.delE id b k = S.findE b k 0 0 := by unfold St.delE; rw [if_pos hf]
    obtain ⟨er, her⟩ : ∃ er, S.findE b k 0 0 = er := ⟨_, rfl⟩
    rw [her] at hR hf
    have hS : S.doDel id b k = S := by unfold St.doDel; rw [hR, if_neg hf]
    rw [hS, hR, if_neg hf]
    have HFE : Hid (Calls Tryd.prog 43 #[.pointer (some ⟨g, 0, none⟩), .string (mkS b), .string (mkS k), .int .i64 0, .int .i64 0] W1 fun e w' => e = .returned (.tuple #[.agg #[.int .i64 0, .bool false, .int .i64 0, .int .u32 0, .slice none 0 0], .int .i64 0, .int .i64 er]) ∧ Below W1.heap.size W1 w') := hfe.mono fun e w' h => by
      refine ⟨?_, h.2⟩
      rcases h.1 with ⟨_, he⟩ | ⟨h0, _⟩
      · rw [he, her]
      · exact absurd (her.symm.trans h0) hf
    have de : (er == 0) = false := by simp [hf]
    have HR := Lib.hid hR
    clear hfe hR hS her
    go_enter Tryd.func23, Tryd.ntmps23
    go_upto_region 1 with (fail)
    clear hW1
    go_wp2_with (first | (go_at_call 43; refine HFE.out.mono ?_; rintro e w3 ⟨rfl, hb3⟩; have hb3 := hb3; obtain ⟨W4, hW4⟩ : ∃ W4, (w3.alloc (.cells #[.int .i64 0, .bool false, .int .i64 0, .int .u32 0, .slice none 0 0] 74)).setRow w3.heap.size #[.int .i64 0, .bool false, .int .i64 0, .int .u32 0, .slice none 0 0] = W4 := ⟨_, rfl⟩; obtain ⟨HBV4, HB4, HS4, HBD4⟩ := HW4.out w3 W4 #[.int .i64 0, .bool false, .int .i64 0, .int .u32 0, .slice none 0 0] hb3 hW4; clear hb3) | (refine wpList_store_row rfl 74 (.tmp 10) (.tmp 18) rfl w3.heap.size #[.int .i64 0, .bool false, .int .i64 0, .int .u32 0, .slice none 0 0] rfl rfl 74 _ (heap_alloc_new w3 _) (by kernel_rfl) rfl (by simp [Value.oneCell']) ?_; rw [hW4]; clear hW4) | (refine (HMo.out _ HS4.out).mono ?_; rintro e w5 ⟨rfl, ⟨F5, hm5, hf5⟩, hmv⟩; have HFin := Lib.hid (And.intro hm5 (And.intro hf5 hmv)); have HBV5 := HB5.out _ _ HBV4.out HB4.out HFin.out.2.2; clear hm5 hf5 hmv; rw [HE.out.1, HE.out.2]; unfold verV) | (refine wpList_store_row rfl 36 (.tmp 8) (.tmp 23) rfl w.heap.size #[.int .i64 0, .bool false, .int .i64 0, .int .u32 0] rfl rfl 36 _ HBV4.out (by kernel_rfl) rfl (by simp [Value.oneCell']) ?_))
    refine bodyPost_ret (results_ct rfl _ _ w.heap.size 36 #[.int .i64 0, .bool false, .int .i64 0, .int .u32 0] (0, 0) _ rfl (setRow_heap _ _ _ _ _ _ HBV4.out) Tryd.underlying36 rfl (by kernel_rfl)) rfl ?_
    exact put_same HM.out (below_setRow HB4.out (Nat.le_refl _) _)
  · have hR : S.delE id b k = moreE (S.V b k) (kpDel id) := by unfold St.delE; rw [if_neg (fun h => h hf)]
    have hS : S.doDel id b k = S.more b k (kpDel id) := by unfold St.doDel St.more; rw [hR]
    rw [hS, hR]
    have hB := (find_in hf).1
    have HFE : Hid (Calls Tryd.prog 43 #[.pointer (some ⟨g, 0, none⟩), .string (mkS b), .string (mkS k), .int .i64 0, .int .i64 0] W1 fun e w' => (∃ (y : Kp) (A : Option Addr) (c i : Nat), e = .returned (.tuple #[.agg #[.int .i64 y.id, .bool y.mark, .int .i64 y.sz, .int .u32 y.sum, .slice A y.dt.length c], .int .i64 (i : Int), .int .i64 0])) ∧ Below W1.heap.size W1 w') := hfe.mono fun e w' h => by
      refine ⟨?_, h.2⟩
      rcases h.1 with ⟨h0, _⟩ | ⟨_, i, y, A, c, _, _, _, _, _, he⟩
      · exact absurd hf h0
      · exact ⟨y, A, c, i, he⟩
    have HMo : Hid (∀ W, HasM W g S n Q F → Calls Tryd.prog 40 #[.pointer (some ⟨g, 0, none⟩), .string (mkS b), .string (mkS k), .agg #[.int .i64 id, .bool true, .int .i64 0, .int .u32 0, .slice none 0 0]] W (MoreIs S n Q F (fun _ => False) g b k (kpDel id) W)) := fun W hm =>
      more_is W g S n Q F (fun _ => False) b k (kpDel id) none 0 hb hk hn hm hB (Nat.le_refl _) (fun _ _ => Kd.C_nil _ _) (fun j hj => hj.elim)
    obtain ⟨er, her⟩ : ∃ er, moreE (S.V b k) (kpDel id) = er := ⟨_, rfl⟩
    obtain ⟨z, hz⟩ : ∃ z, (if moreE (S.V b k) (kpDel id) = 0 then kpDel id else kp0) = z := ⟨_, rfl⟩
    rw [hz, her]
    have HE := Lib.hid (And.intro hz her)
    clear hfe hR hS her hz hB hf
    go_enter Tryd.func23, Tryd.ntmps23
    go_upto_region 1 with (fail)
    clear hW1
    go_wp2_with (first | (go_at_call 43; refine HFE.out.mono ?_; rintro e w3 ⟨⟨y, A, c, i, rfl⟩, hb3⟩; have hb3 := hb3; obtain ⟨W4, hW4⟩ : ∃ W4, w3.alloc (.cells #[.int .i64 y.id, .bool y.mark, .int .i64 y.sz, .int .u32 y.sum, .slice A y.dt.length c] 74) = W4 := ⟨_, rfl⟩; obtain ⟨HBV4, HB4, HS4, HBD4⟩ := HW4b.out w3 W4 #[.int .i64 y.id, .bool y.mark, .int .i64 y.sz, .int .u32 y.sum, .slice A y.dt.length c] hb3 hW4; clear hb3) | (refine wpList_store_row rfl 74 (.tmp 10) (.tmp 18) rfl w3.heap.size #[.int .i64 0, .bool false, .int .i64 0, .int .u32 0, .slice none 0 0] rfl rfl 74 _ (heap_alloc_new w3 _) (by kernel_rfl) rfl (by simp [Value.oneCell']) ?_; rw [hW4]; clear hW4) | (refine (HMo.out _ HS4.out).mono ?_; rintro e w5 ⟨rfl, ⟨F5, hm5, hf5⟩, hmv⟩; have HFin := Lib.hid (And.intro hm5 (And.intro hf5 hmv)); have HBV5 := HB5.out _ _ HBV4.out HB4.out HFin.out.2.2; clear hm5 hf5 hmv; rw [HE.out.1, HE.out.2]; unfold verV) | (refine wpList_store_row rfl 36 (.tmp 8) (.tmp 32) rfl w.heap.size #[.int .i64 z.id, .bool z.mark, .int .i64 z.sz, .int .u32 z.sum] rfl rfl 36 _ HBV5.out (by kernel_rfl) rfl (by simp [Value.oneCell']) ?_))
    refine bodyPost_ret (results_ct rfl _ _ w.heap.size 36 #[.int .i64 z.id, .bool z.mark, .int .i64 z.sz, .int .u32 z.sum] (0, 0) _ rfl (setRow_heap _ _ _ _ _ _ HBV5.out) Tryd.underlying36 rfl (by kernel_rfl)) rfl ?_
    have hF5 : ∀ j, F5 j → F j ∨ w.heap.size < j := fun j hj => by
      rcases HFin.out.2.1 j hj with h | h | h
      · exact .inl h
      · exact h.elim
      · exact .inr (by have := HBD4.out; omega)
    refine ⟨rfl, ⟨F5, HFin.out.1.setRow _ _ (fun h => ?_) (fun h => ?_), fun j hj => (hF5 j hj).imp (fun h => h) (fun h => by omega)⟩, ?_⟩
    · have := isM_lt (HM.out.q _ h); omega
    · rcases hF5 _ h with h | h
      · have := isC_lt (HM.out.f _ h); omega
      · omega
    · exact ((Moved.of_below HB4.out).trans HFin.out.2.2 (fun i hi => .inl hi)).setRow _ (Nat.le_refl _) _
end Go.Proofs.YtjbjcfnbgcloiaaDoor

/- Get of package model. -/
namespace Go.Proofs.YtjbjcfnbgcloiaaDoor
open Go.RowKit Nam YtjbjcfnbgcloiaaDoorW.PrintWords

def St.getK (S : St) (b k : List UInt8) (id : Int) : Option Kp := (S.V b k)[(idxK id (S.V b k)).toNat]?
def St.getE (S : St) (b k : List UInt8) (id : Int) : Int := if S.findE b k id 0 ≠ 0 then S.findE b k id 0 else match S.getK b k id with
  | some y => if y.mark then 16 else 0
  | none => 0
def GetIs (S : St) (b k : List UInt8) (id : Int) (w : World) (e : Ending) (w' : World) : Prop :=
  (∃ (y : Kp) (v : Value), e = .returned (.tuple #[verV y, v, .int .i64 (S.getE b k id)]) ∧
    ((S.findE b k id 0 ≠ 0 ∧ y = kp0 ∧ v = .slice none 0 0) ∨ (S.findE b k id 0 = 0 ∧ S.getK b k id = some y ∧ S.getE b k id = 16 ∧ y.mark = true ∧ v = .slice none 0 0) ∨
     (S.findE b k id 0 = 0 ∧ S.getK b k id = some y ∧ S.getE b k id = 0 ∧ y.mark = false ∧ ∃ (A : Option Addr) (c : Nat), v = .slice A y.dt.length c ∧ y.dt.length ≤ c ∧ ∃ Fb, DatF w' Fb A y.dt ∧ ∀ j, Fb j → IsC w' j ∧ w.heap.size < j))) ∧ Below w.heap.size w w'
theorem below_put {w W : World} {B : Nat} (h : Below B w W) {p : Addr} (hp : B ≤ p.block) (u : Value) : Below B w (W.setCell p u) :=
  ⟨by simpa [World.setCell] using h.os, by simpa [World.setCell] using h.tape, by simpa [World.setCell] using h.output, by simpa [World.setCell] using h.size, fun k hk => (Below.heap_setCell W p u k (by omega)).trans (h.block k hk)⟩
theorem fkept_put {F : Nat → Prop} (W : World) {p : Addr} (hp : ∀ k, F k → k ≠ p.block) (u : Value) : FKept F W (W.setCell p u) := fun k hk => Below.heap_setCell W p u k (hp k hk)
theorem cell_put {W : World} {g g2 j i : Nat} {v : Value} (h : W.cell? ⟨g, j, none⟩ = some v) (hne : g ≠ g2) (u : Value) : (W.setCell ⟨g2, i, none⟩ u).cell? ⟨g, j, none⟩ = some v :=
  (World.cell?_of_block (Below.heap_setCell W ⟨g2, i, none⟩ u g hne)).trans h

set_option maxHeartbeats 2000000 in
set_option maxRecDepth 100000 in
theorem get_is (w : World) (g : Nat) (S : St) (n : Nat) (Q F : Nat → Prop) (b k : List UInt8) (id : Int) (hb : b.length ≤ 100000) (hk : k.length ≤ 100000) (hl : (S.V b k).length ≤ 100000) (hd : ∀ y ∈ S.V b k, y.dt.length ≤ 1000000) (hm : HasM w g S n Q F) (hT : Tabs w) :
    Calls Tryd.prog 18 #[.pointer (some ⟨g, 0, none⟩), .string (mkS b), .string (mkS k), .int .i64 id] w (GetIs S b k id w) := by
  obtain ⟨W1, hW1⟩ : ∃ W1, w.alloc (.cells #[.int .i64 0, .bool false, .int .i64 0, .int .u32 0] 36) = W1 := ⟨_, rfl⟩
  have hb1 : Below w.heap.size w W1 := by rw [← hW1]; exact (Below.refl _ _).alloc (Nat.le_refl _) _
  have hbv : W1.heap[w.heap.size]? = some (.cells #[.int .i64 0, .bool false, .int .i64 0, .int .u32 0] 36 (0, 0)) := by rw [← hW1]; exact heap_alloc_new w _
  have hs1 : w.heap.size + 1 = W1.heap.size := by rw [← hW1]; simp
  have hfe := find_is W1 g S n Q F b k id 0 hb hk hl (hm.below hb1) (hT.below hb1)
  have HW4 : Hid (∀ (w3 W4 : World) (cs : Array Value), Below W1.heap.size W1 w3 → (w3.alloc (.cells #[.int .i64 0, .bool false, .int .i64 0, .int .u32 0, .slice none 0 0] 74)).setRow w3.heap.size cs = W4 → Hid (W4.heap[w.heap.size]? = some (.cells #[.int .i64 0, .bool false, .int .i64 0, .int .u32 0] 36 (0, 0))) ∧ Hid (Below w.heap.size w W4) ∧ Hid (w.heap.size < w3.heap.size) ∧ Hid (w.heap.size < W4.heap.size) ∧ Hid (Below w3.heap.size w3 W4)) := fun w3 W4 cs h3 h4 => by
    have h03 : Below w.heap.size w w3 := hb1.trans (h3.mono (by omega))
    obtain ⟨h5, h6⟩ := boxed h03 h4
    have := h3.size
    have := h6.size
    exact ⟨blk_below (blk_below hbv h3) h6, h5, by show _ < _; omega, by show _ < _; omega, h6⟩
  have HW4b : Hid (∀ (w3 W4 : World) (cs : Array Value), Below W1.heap.size W1 w3 → w3.alloc (.cells cs 74) = W4 → Hid (W4.heap[w.heap.size]? = some (.cells #[.int .i64 0, .bool false, .int .i64 0, .int .u32 0] 36 (0, 0))) ∧ Hid (Below w.heap.size w W4) ∧ Hid (W4.heap[w3.heap.size]? = some (.cells cs 74 (0, 0))) ∧ Hid (w.heap.size < w3.heap.size ∧ w3.heap.size < W4.heap.size) ∧ Hid (Below w3.heap.size w3 W4)) := fun w3 W4 cs h3 h4 => by
    have h03 : Below w.heap.size w w3 := hb1.trans (h3.mono (by omega))
    have hnew := heap_alloc_new w3 (.cells cs 74)
    subst h4
    have h5 := h03.alloc h03.size (.cells cs 74)
    have h6 := (Below.refl w3.heap.size w3).alloc (Nat.le_refl _) (.cells cs 74)
    exact ⟨blk_below (blk_below hbv h3) h6, h5, hnew, ⟨by have := h3.size; omega, blk_lt hnew⟩, h6⟩
  have HFC : Hid (∀ V, Below W1.heap.size W1 V → ∀ j, F j → IsC V j) := fun V hV => ((hm.below hb1).below hV).f
  have HFC4 : Hid (∀ V, Below w.heap.size w V → ∀ j, F j → IsC V j) := fun V hV => (hm.below hV).f
  clear hbv hb1 hm hT
  by_cases hf : S.findE b k id 0 = 0
  rotate_left
  · have hR : S.getE b k id = S.findE b k id 0 := by unfold St.getE; rw [if_pos hf]
    obtain ⟨er, her⟩ : ∃ er, S.findE b k id 0 = er := ⟨_, rfl⟩
    have HF := Lib.hid hf
    rw [her] at hR hf
    have HFE : Hid (Calls Tryd.prog 43 #[.pointer (some ⟨g, 0, none⟩), .string (mkS b), .string (mkS k), .int .i64 id, .int .i64 0] W1 fun e w' => e = .returned (.tuple #[.agg #[.int .i64 0, .bool false, .int .i64 0, .int .u32 0, .slice none 0 0], .int .i64 0, .int .i64 er]) ∧ Below W1.heap.size W1 w') := hfe.mono fun e w' h => by
      refine ⟨?_, h.2⟩
      rcases h.1 with ⟨_, he⟩ | ⟨h0, _⟩
      · rw [he, her]
      · exact absurd (her.symm.trans h0) hf
    have de : (er == 0) = false := by simp [hf]
    have HR := Lib.hid hR
    clear hfe hR her
    go_enter Tryd.func18, Tryd.ntmps18
    go_upto_region 1 with (fail)
    clear hW1
    go_wp2_with (first | (go_at_call 43; refine HFE.out.mono ?_; rintro e w3 ⟨rfl, hb3⟩; obtain ⟨W4, hW4⟩ : ∃ W4, (w3.alloc (.cells #[.int .i64 0, .bool false, .int .i64 0, .int .u32 0, .slice none 0 0] 74)).setRow w3.heap.size #[.int .i64 0, .bool false, .int .i64 0, .int .u32 0, .slice none 0 0] = W4 := ⟨_, rfl⟩; obtain ⟨HBV4, HB4, HS4, HBD4, HK4⟩ := HW4.out w3 W4 #[.int .i64 0, .bool false, .int .i64 0, .int .u32 0, .slice none 0 0] hb3 hW4; clear hb3) | (refine wpList_store_row rfl 74 (.tmp 11) (.tmp 20) rfl w3.heap.size #[.int .i64 0, .bool false, .int .i64 0, .int .u32 0, .slice none 0 0] rfl rfl 74 _ (heap_alloc_new w3 _) (by kernel_rfl) rfl (by simp [Value.oneCell']) ?_; rw [hW4]; clear hW4) | (refine wpList_store_row rfl 36 (.tmp 8) (.tmp 26) rfl w.heap.size #[.int .i64 0, .bool false, .int .i64 0, .int .u32 0] rfl rfl 36 _ HBV4.out (by kernel_rfl) rfl (by simp [Value.oneCell']) ?_))
    refine bodyPost_ret (results_ctt rfl _ _ w.heap.size 36 #[.int .i64 0, .bool false, .int .i64 0, .int .u32 0] (0, 0) _ rfl (setRow_heap _ _ _ _ _ _ HBV4.out) Tryd.underlying36 rfl (by kernel_rfl)) rfl ?_
    exact ⟨⟨kp0, _, by rw [HR.out]; rfl, .inl ⟨HF.out, rfl, rfl⟩⟩, below_setRow HB4.out (Nat.le_refl _) _⟩
  · have HFE : Hid (Calls Tryd.prog 43 #[.pointer (some ⟨g, 0, none⟩), .string (mkS b), .string (mkS k), .int .i64 id, .int .i64 0] W1 fun e w' => (∃ (y : Kp) (A : Option Addr) (c i : Nat), e = .returned (.tuple #[.agg #[.int .i64 y.id, .bool y.mark, .int .i64 y.sz, .int .u32 y.sum, .slice A y.dt.length c], .int .i64 (i : Int), .int .i64 0]) ∧ S.getK b k id = some y ∧ y.dt.length ≤ c ∧ DatF w' F A y.dt) ∧ Below W1.heap.size W1 w') := hfe.mono fun e w' h => by
      refine ⟨?_, h.2⟩
      rcases h.1 with ⟨h0, _⟩ | ⟨_, i, y, A, c, hi, hil, hy, hc, hd, he⟩
      · exact absurd hf h0
      · exact ⟨y, A, c, i, he, by unfold St.getK; rw [hi]; exact hy, hc, hd⟩
    have HF := Lib.hid hf
    obtain ⟨y, hy⟩ : ∃ y, S.getK b k id = some y := by
      have : 0 ≤ idxK id (S.V b k) := by
        refine Classical.byContradiction fun hn => ?_
        unfold St.findE at hf
        have := find_in (S := S) (b := b) (k := k) (id := id) (least := 0) HF.out
        rw [if_neg (by rw [this.2.2]; simp)] at hf
        by_cases h2 : id < 0
        · rw [if_pos h2] at hf; cases hf
        · rw [if_neg h2, if_neg (fun h => h this.1), if_neg this.2.1, if_pos (by omega)] at hf; cases hf
      rcases idxK_lt (id := id) (l := S.V b k) with h | ⟨i, h, hi⟩
      · omega
      · exact ⟨(S.V b k)[i], by unfold St.getK; rw [h]; simp [hi]⟩
    have hyd : y.dt.length ≤ 1000000 := by
      refine hd y ?_
      unfold St.getK at hy
      exact List.mem_of_getElem? hy
    have HY := Lib.hid hy
    have HFE : Hid (Calls Tryd.prog 43 #[.pointer (some ⟨g, 0, none⟩), .string (mkS b), .string (mkS k), .int .i64 id, .int .i64 0] W1 fun e w' => (∃ (A : Option Addr) (c i : Nat), e = .returned (.tuple #[.agg #[.int .i64 y.id, .bool y.mark, .int .i64 y.sz, .int .u32 y.sum, .slice A y.dt.length c], .int .i64 (i : Int), .int .i64 0]) ∧ y.dt.length ≤ c ∧ DatF w' F A y.dt) ∧ Below W1.heap.size W1 w') := HFE.out.mono fun e w' ⟨⟨y', A, c, i, h1, h2, h3⟩, h4⟩ => by
      rw [HY.out] at h2
      injection h2 with h2
      subst h2
      exact ⟨⟨A, c, i, h1, h3⟩, h4⟩
    obtain ⟨mk, hmk⟩ : ∃ mk, y.mark = mk := ⟨_, rfl⟩
    cases mk with
    | true =>
      have HR : Hid (S.getE b k id = 16) := by show _ = _; unfold St.getE; rw [if_neg (fun h => h HF.out), HY.out]; simp [hmk]
      have HMK := Lib.hid hmk
      clear hfe hy hf
      rw [hmk] at HFE
      go_enter Tryd.func18, Tryd.ntmps18
      go_upto_region 1 with (fail)
      clear hW1
      go_wp2_with (first | (go_at_call 43; refine HFE.out.mono ?_; rintro e w3 ⟨⟨A, c, i, rfl, hdc, hdf⟩, hb3⟩; obtain ⟨W4, hW4⟩ : ∃ W4, w3.alloc (.cells #[.int .i64 y.id, .bool true, .int .i64 y.sz, .int .u32 y.sum, .slice A y.dt.length c] 74) = W4 := ⟨_, rfl⟩; obtain ⟨HBV4, HB4, HS4, HBD4, HK4⟩ := HW4b.out w3 W4 #[.int .i64 y.id, .bool true, .int .i64 y.sz, .int .u32 y.sum, .slice A y.dt.length c] hb3 hW4; have z0 := (blk_cell HS4.out 0).trans (rfl : _ = some (Value.int .i64 y.id)); have z1 := (blk_cell HS4.out 1).trans (rfl : _ = some (Value.bool true)); have z2 := (blk_cell HS4.out 2).trans (rfl : _ = some (Value.int .i64 y.sz)); have z3 := (blk_cell HS4.out 3).trans (rfl : _ = some (Value.int .u32 y.sum)); have z4 := (blk_cell HS4.out 4).trans (rfl : _ = some (Value.slice A y.dt.length c)); have HDA := Lib.hid (And.intro hdc hdf); have HB3 := Lib.hid hb3; clear hb3 hdc hdf) | (refine wpList_store_row rfl 36 (.tmp 8) (.tmp 33) rfl w.heap.size #[.int .i64 y.id, .bool true, .int .i64 y.sz, .int .u32 y.sum] rfl rfl 36 _ HBV4.out (by kernel_rfl) rfl (by simp [Value.oneCell']) ?_))
      refine bodyPost_ret (results_ctt rfl _ _ w.heap.size 36 #[.int .i64 y.id, .bool true, .int .i64 y.sz, .int .u32 y.sum] (0, 0) _ rfl (setRow_heap _ _ _ _ _ _ HBV4.out) Tryd.underlying36 rfl (by kernel_rfl)) rfl ?_
      exact ⟨⟨y, _, by rw [HR.out]; unfold verV; rw [HMK.out]; rfl, .inr (.inl ⟨HF.out, HY.out, HR.out, HMK.out, rfl⟩)⟩, below_setRow HB4.out (Nat.le_refl _) _⟩
    | false =>
      have HR : Hid (S.getE b k id = 0) := by show _ = _; unfold St.getE; rw [if_neg (fun h => h HF.out), HY.out]; simp [hmk]
      have HMK := Lib.hid hmk
      have HCl : Hid (∀ W A c, (Kd.int .u8).C W A y.dt.length (byN y.dt) → Calls Tryd.prog 42 #[.slice A y.dt.length c] W fun e w' => (∃ A' c', e = .returned (.slice A' y.dt.length c') ∧ y.dt.length ≤ c' ∧ ∃ Fb, DatF w' Fb A' y.dt ∧ ∀ k, Fb k → IsC w' k ∧ W.heap.size ≤ k) ∧ Below W.heap.size W w') := fun W A c h => bclone_is W A c y.dt hyd h
      clear hfe hy hf hyd
      rw [hmk] at HFE
      go_enter Tryd.func18, Tryd.ntmps18
      go_upto_region 1 with (fail)
      clear hW1
      go_wp2_with (first | (go_at_call 43; refine HFE.out.mono ?_; rintro e w3 ⟨⟨A, c, i, rfl, hdc, hdf⟩, hb3⟩; obtain ⟨W4, hW4⟩ : ∃ W4, w3.alloc (.cells #[.int .i64 y.id, .bool false, .int .i64 y.sz, .int .u32 y.sum, .slice A y.dt.length c] 74) = W4 := ⟨_, rfl⟩; obtain ⟨HBV4, HB4, HS4, HBD4, HK4⟩ := HW4b.out w3 W4 #[.int .i64 y.id, .bool false, .int .i64 y.sz, .int .u32 y.sum, .slice A y.dt.length c] hb3 hW4; have z0 := (blk_cell HS4.out 0).trans (rfl : _ = some (Value.int .i64 y.id)); have z1 := (blk_cell HS4.out 1).trans (rfl : _ = some (Value.bool false)); have z2 := (blk_cell HS4.out 2).trans (rfl : _ = some (Value.int .i64 y.sz)); have z3 := (blk_cell HS4.out 3).trans (rfl : _ = some (Value.int .u32 y.sum)); have z4 := (blk_cell HS4.out 4).trans (rfl : _ = some (Value.slice A y.dt.length c)); have HDA := Lib.hid (And.intro hdc hdf); have HB3 := Lib.hid hb3; clear hb3 hdc hdf) | fail)
      have hDF : DatF W4 F A y.dt := HDA.out.2.kept (below_cells HK4.out (fun j hj => (HFC.out w3 HB3.out j hj)))
      have HDF := Lib.hid hDF
      clear hDF
      have HSf : Hid (∀ V, Below W4.heap.size W4 V → V.cell? ⟨w3.heap.size, 0, none⟩ = some (.int .i64 y.id) ∧ V.cell? ⟨w3.heap.size, 1, none⟩ = some (.bool false) ∧ V.cell? ⟨w3.heap.size, 2, none⟩ = some (.int .i64 y.sz) ∧ V.cell? ⟨w3.heap.size, 3, none⟩ = some (.int .u32 y.sum) ∧ V.cell? ⟨w3.heap.size, 4, none⟩ = some (.slice A y.dt.length c)) := fun V hV => by
        have hbx := blk_below HS4.out hV
        exact ⟨(blk_cell hbx 0).trans rfl, (blk_cell hbx 1).trans rfl, (blk_cell hbx 2).trans rfl, (blk_cell hbx 3).trans rfl, (blk_cell hbx 4).trans rfl⟩
      have hne1 : w3.heap.size ≠ w.heap.size := by have := HBD4.out.1; omega
      have hB0 : Below W4.heap.size W4 W4.drew := (Below.refl _ _).drew
      have HC4 : Hid (∀ V, Below W4.heap.size W4 V → Calls Tryd.prog 42 #[.slice A y.dt.length c] V fun e w' => (∃ A' c', e = .returned (.slice A' y.dt.length c') ∧ Hid (y.dt.length ≤ c' ∧ ∃ Fb, DatF w' Fb A' y.dt ∧ ∀ k, Fb k → IsC w' k ∧ w.heap.size < k)) ∧ Below W4.heap.size W4 w' ∧ Hid (w'.heap[w.heap.size]? = some (.cells #[.int .i64 0, .bool false, .int .i64 0, .int .u32 0] 36 (0, 0)))) := fun V hV =>
        (HCl.out V A c (HDF.out.kept (below_cells hV (fun j hj => (HFC4.out W4 HB4.out j hj)))).now).mono fun e w' ⟨⟨A', c', h1, h2, Fb, h3, h4⟩, h5⟩ =>
          ⟨⟨A', c', h1, h2, Fb, h3, fun k hk => ⟨(h4 k hk).1, by have := (h4 k hk).2; have := hV.size; have := HBD4.out; omega⟩⟩, hV.trans (h5.mono hV.size), blk_below (blk_below HBV4.out hV) (h5.mono (Nat.le_refl _))⟩
      go_region_with (first | (go_at_call 42; refine (HC4.out _ hB0).mono ?_; rintro e w5 ⟨⟨A', c', rfl, HDD⟩, hb5, HBV5⟩; have q0 := HSf.out _ hb5; obtain ⟨q0, q1, q2, q3, q4⟩ := q0; have r0 := (blk_cell HBV5.out 0).trans (rfl : _ = some (Value.int .i64 0)); have r1 := (blk_cell HBV5.out 1).trans (rfl : _ = some (Value.bool false)); have r2 := (blk_cell HBV5.out 2).trans (rfl : _ = some (Value.int .i64 0)); have r3 := (blk_cell HBV5.out 3).trans (rfl : _ = some (Value.int .u32 0)); have f0 := blk_frozen HBV5.out 0; have f1 := blk_frozen HBV5.out 1; have f2 := blk_frozen HBV5.out 2; have f3 := blk_frozen HBV5.out 3))
      all_goals
        clear q0 q1 q2 q3 q4 r0 r1 r2 r3 f0 f1 f2 f3 z0 z1 z2 z3 z4
        obtain ⟨hdc5, Fb, hdf5, hfb5⟩ := HDD.out
        have hfn : ∀ j, Fb j → j ≠ w.heap.size := fun j h => by have := (hfb5 _ h).2; omega
        have HD5 := Lib.hid hdc5
        have HF5 := Lib.hid hdf5
        have HB5 := Lib.hid hfb5
        have HN5 := Lib.hid hfn
        have HL5 := Lib.hid hb5
        clear hdc5 hdf5 hfb5 hfn hb5 hne1 hB0
        go_wp2_with fail
        refine bodyPost_ret (results_ctt rfl _ _ w.heap.size 36 #[.int .i64 y.id, .bool false, .int .i64 y.sz, .int .u32 y.sum] (0, 0) _ rfl (blk_put (blk_put (blk_put (blk_put HBV5.out 0 _ rfl) 1 _ rfl) 2 _ rfl) 3 _ rfl) Tryd.underlying36 rfl (by kernel_rfl)) rfl ?_
        have hkp := (((fkept_put w5 (p := ⟨w.heap.size, 0, none⟩) HN5.out (.int .i64 y.id)).trans (fkept_put _ (p := ⟨w.heap.size, 1, none⟩) HN5.out (.bool false))).trans (fkept_put _ (p := ⟨w.heap.size, 2, none⟩) HN5.out (.int .i64 y.sz))).trans (fkept_put _ (p := ⟨w.heap.size, 3, none⟩) HN5.out (.int .u32 y.sum))
        refine ⟨⟨y, _, by rw [HR.out]; unfold verV; rw [HMK.out]; rfl, .inr (.inr ⟨HF.out, HY.out, HR.out, HMK.out, A', c', rfl, HD5.out, Fb, HF5.out.kept hkp, fun j hj => ⟨?_, (HB5.out j hj).2⟩⟩)⟩, below_put (below_put (below_put (below_put (HB4.out.trans (HL5.out.mono HB4.out.size)) (Nat.le_refl _) _) (Nat.le_refl _) _) (Nat.le_refl _) _) (Nat.le_refl _) _⟩
        obtain ⟨x1, x2, x3, x4⟩ := (HB5.out j hj).1
        exact ⟨x1, x2, x3, (hkp j hj).trans x4⟩
end Go.Proofs.YtjbjcfnbgcloiaaDoor

/- Head of package model. -/
namespace Go.Proofs.YtjbjcfnbgcloiaaDoor
open Go.RowKit Nam YtjbjcfnbgcloiaaDoorW.PrintWords

def HeadIs (S : St) (b k : List UInt8) (id : Int) (w : World) (e : Ending) (w' : World) : Prop :=
  (∃ (y : Kp), e = .returned (.tuple #[verV y, .int .i64 (S.getE b k id)]) ∧ ((S.findE b k id 0 ≠ 0 ∧ y = kp0) ∨ (S.findE b k id 0 = 0 ∧ S.getK b k id = some y))) ∧ Below w.heap.size w w'

set_option maxHeartbeats 2000000 in
set_option maxRecDepth 100000 in
theorem head_is (w : World) (g : Nat) (S : St) (n : Nat) (Q F : Nat → Prop) (b k : List UInt8) (id : Int) (hb : b.length ≤ 100000) (hk : k.length ≤ 100000) (hl : (S.V b k).length ≤ 100000) (hd : ∀ y ∈ S.V b k, y.dt.length ≤ 1000000) (hm : HasM w g S n Q F) (hT : Tabs w) :
    Calls Tryd.prog 13 #[.pointer (some ⟨g, 0, none⟩), .string (mkS b), .string (mkS k), .int .i64 id] w (HeadIs S b k id w) := by
  obtain ⟨W1, hW1⟩ : ∃ W1, w.alloc (.cells #[.int .i64 0, .bool false, .int .i64 0, .int .u32 0] 36) = W1 := ⟨_, rfl⟩
  have hb1 : Below w.heap.size w W1 := by rw [← hW1]; exact (Below.refl _ _).alloc (Nat.le_refl _) _
  have hbv : W1.heap[w.heap.size]? = some (.cells #[.int .i64 0, .bool false, .int .i64 0, .int .u32 0] 36 (0, 0)) := by rw [← hW1]; exact heap_alloc_new w _
  have hs1 : w.heap.size + 1 = W1.heap.size := by rw [← hW1]; simp
  have hge := get_is W1 g S n Q F b k id hb hk hl hd (hm.below hb1) (hT.below hb1)
  have HG : Hid (Calls Tryd.prog 18 #[.pointer (some ⟨g, 0, none⟩), .string (mkS b), .string (mkS k), .int .i64 id] W1 fun e w' => (∃ (y : Kp) (v : Value) (er : Int), e = .returned (.tuple #[.agg #[.int .i64 y.id, .bool y.mark, .int .i64 y.sz, .int .u32 y.sum], v, .int .i64 er]) ∧ Hid (er = S.getE b k id ∧ ((S.findE b k id 0 ≠ 0 ∧ y = kp0) ∨ (S.findE b k id 0 = 0 ∧ S.getK b k id = some y)))) ∧ Below W1.heap.size W1 w') := hge.mono fun e w' ⟨⟨y, v, he, h⟩, hb⟩ => by
    refine ⟨⟨y, v, _, he, rfl, ?_⟩, hb⟩
    rcases h with ⟨h1, h2, _⟩ | ⟨h1, h2, _⟩ | ⟨h1, h2, _⟩
    · exact .inl ⟨h1, h2⟩
    · exact .inr ⟨h1, h2⟩
    · exact .inr ⟨h1, h2⟩
  have HW4b : Hid (∀ (w3 W4 : World) (cs : Array Value), Below W1.heap.size W1 w3 → w3.alloc (.cells cs 36) = W4 → Hid (W4.heap[w.heap.size]? = some (.cells #[.int .i64 0, .bool false, .int .i64 0, .int .u32 0] 36 (0, 0))) ∧ Hid (Below w.heap.size w W4) ∧ Hid (W4.heap[w3.heap.size]? = some (.cells cs 36 (0, 0)))) := fun w3 W4 cs h3 h4 => by
    have h03 : Below w.heap.size w w3 := hb1.trans (h3.mono (by omega))
    have hnew := heap_alloc_new w3 (.cells cs 36)
    subst h4
    have h5 := h03.alloc h03.size (.cells cs 36)
    have h6 := (Below.refl w3.heap.size w3).alloc (Nat.le_refl _) (.cells cs 36)
    exact ⟨blk_below (blk_below hbv h3) h6, h5, hnew⟩
  clear hbv hb1 hm hT hge
  go_enter Tryd.func13, Tryd.ntmps13
  go_upto_region 1 with (fail)
  clear hW1
  go_wp2_with (first | (go_at_call 18; refine HG.out.mono ?_; rintro e w3 ⟨⟨y, v, er, rfl, HY⟩, hb3⟩; obtain ⟨W4, hW4⟩ : ∃ W4, w3.alloc (.cells #[.int .i64 y.id, .bool y.mark, .int .i64 y.sz, .int .u32 y.sum] 36) = W4 := ⟨_, rfl⟩; obtain ⟨HBV4, HB4, HS4⟩ := HW4b.out w3 W4 #[.int .i64 y.id, .bool y.mark, .int .i64 y.sz, .int .u32 y.sum] hb3 hW4; have z0 := (blk_cell HS4.out 0).trans (rfl : _ = some (Value.int .i64 y.id)); have z1 := (blk_cell HS4.out 1).trans (rfl : _ = some (Value.bool y.mark)); have z2 := (blk_cell HS4.out 2).trans (rfl : _ = some (Value.int .i64 y.sz)); have z3 := (blk_cell HS4.out 3).trans (rfl : _ = some (Value.int .u32 y.sum)); clear hb3) | (refine wpList_store_row rfl 36 (.tmp 8) (.tmp 22) rfl w.heap.size #[.int .i64 y.id, .bool y.mark, .int .i64 y.sz, .int .u32 y.sum] rfl rfl 36 _ HBV4.out (by kernel_rfl) rfl (by simp [Value.oneCell']) ?_))
  refine bodyPost_ret (results_ct rfl _ _ w.heap.size 36 #[.int .i64 y.id, .bool y.mark, .int .i64 y.sz, .int .u32 y.sum] (0, 0) _ rfl (setRow_heap _ _ _ _ _ _ HBV4.out) Tryd.underlying36 rfl (by kernel_rfl)) rfl ?_
  exact ⟨⟨y, by rw [← HY.out.1]; rfl, HY.out.2⟩, below_setRow HB4.out (Nat.le_refl _) _⟩
end Go.Proofs.YtjbjcfnbgcloiaaDoor

/- slices.Delete of one version. -/
namespace Go.Proofs.YtjbjcfnbgcloiaaDoor
open Go.RowKit Nam YtjbjcfnbgcloiaaDoorW.PrintWords

def kz : List Value := [.int .i64 0, .bool false, .int .i64 0, .int .u32 0, .slice none 0 0]
theorem zero74 (w : World) : (zeroValue 74).run Tryd.prog w = .ok (.agg #[.int .i64 0, .bool false, .int .i64 0, .int .u32 0, .slice none 0 0]) w := by kernel_rfl
theorem run_clear_kept (w : World) (ty : TypeId) (b o c : Nat) (hc : ∀ j, j < 5 → (w.cell? ⟨b, o + j, none⟩).isSome = true) (hf : ∀ j, j < 5 → w.frozen? ⟨b, o + j, none⟩ = false) :
    (Builtin.clear_ #[77] ty #[.slice (some ⟨b, o, none⟩) 1 c]).run Tryd.prog w = .ok (.tuple #[]) (w.setCells b o kz) := by
  have hst := run_storeCells_cells (P := Tryd.prog) b o kz 0 w (by simpa [kz] using hc) (by simpa [kz] using hf) (by simp [kz, Value.oneCell'])
  simp only [Nat.add_zero] at hst
  have hzc : (Builtin.zeroCells (Value.agg #[.int .i64 0, .bool false, .int .i64 0, .int .u32 0, .slice none 0 0]).cells 1).toList = kz := by kernel_rfl
  simp [Builtin.clear_, run_underlying Tryd.underlying77, zero74, hzc, hst]

set_option maxHeartbeats 2000000 in
set_option maxRecDepth 100000 in
theorem kdel_is (w : World) (base g n cap i j m : Nat) (news : List Value) (hown : w.ownsRow base 74 5 (.slice (some ⟨g, 0, none⟩) n cap) n news) (hj : j = i + 1) (hn : n = j + m) (hn2 : n ≤ 1000) (h1 : ∀ u ∈ news, u.oneCell' = true) :
    Calls Tryd.prog 48 #[.slice (some ⟨g, 0, none⟩) n cap, .int .i64 (i : Int), .int .i64 (j : Int)] w fun e w' =>
      e = .returned (.slice (some ⟨g, 0, none⟩) (i + m) cap) ∧ w'.ownsRow base 74 5 (.slice (some ⟨g, 0, none⟩) (i + m) cap) (i + m) (news.take (i * 5) ++ news.drop (j * 5)) ∧ w.grownBy w' (some g) := by
  obtain ⟨hl, hown⟩ := hown
  rcases hown with ⟨h0, _⟩ | ⟨g', cap', cur, h0, hbg, hcell, hle, hmx, hsz, htk⟩
  · cases h0
  injection h0 with e1 e2 e3
  injection e1 with e1
  injection e1 with e1 e4 e5
  subst e1
  subst e3
  clear e2 e4 e5
  obtain ⟨i0, hi, hz0, hz1, hz2⟩ := info_parts infoKp
  obtain ⟨tail, htl⟩ : ∃ tail, tail = news.drop (j * 5) := ⟨_, rfl⟩
  have hlen : tail.length = m * 5 := by rw [htl, List.length_drop, hl]; omega
  have hget : ∀ t u, tail[t]? = some u → cur[j * 5 + t]? = some u := fun t u hu => by
    rw [htl, List.getElem?_drop, ← htk, List.getElem?_take] at hu
    split at hu
    · simpa using hu
    · cases hu
  obtain ⟨W0, hW0⟩ : ∃ W0, W0 = w.drew := ⟨_, rfl⟩
  have hc0 : W0.heap[g]? = some (.cells cur 74 (0, 0)) := by rw [hW0]; exact hcell
  obtain ⟨A, hA, hsrc⟩ : ∃ A : Addr, (if cap = j then some (⟨g, 0, none⟩ : Addr) else some ⟨g, j * 5, none⟩) = some A ∧ Hid (∀ t u, tail[t]? = some u → w.drew.cell? (A.add t) = some u) := by
    by_cases h : cap = j
    · refine ⟨⟨g, 0, none⟩, by simp [h], fun t u hu => ?_⟩
      have h0 : tail.length = 0 := by rw [hlen]; omega
      rw [List.length_eq_zero_iff.1 h0] at hu
      simp at hu
    · refine ⟨⟨g, j * 5, none⟩, by simp [h], fun t u hu => ?_⟩
      rw [Addr.add_lit, ← hW0]
      exact (blk_cell hc0 _).trans (hget t u hu)
  have s1 : Hid (tail.length = m * 5) := hlen
  have s2 : Hid (∀ u ∈ tail, u.oneCell' = true) := fun u hu => h1 u (by rw [htl] at hu; exact List.mem_of_mem_drop hu)
  have s3 : Hid (∀ t, t < tail.length → (w.drew.cell? ⟨g, 0 + i * 5 + t, none⟩).isSome = true ∧ w.drew.frozen? ⟨g, 0 + i * 5 + t, none⟩ = false) := fun t ht => by
    rw [← hW0, blk_cell hc0]
    refine ⟨?_, blk_frozen hc0 _⟩
    rw [hlen] at ht
    rw [Array.getElem?_eq_getElem (by rw [hsz]; omega)]
    rfl
  obtain ⟨W1, hW1⟩ : ∃ W1, W1 = w.drew.setCells g (0 + i * 5) tail := ⟨_, rfl⟩
  obtain ⟨cur1, hc1, hs1, ht1⟩ := setCells_row tail (0 + i * 5) w.drew cur hcell (by rw [hlen, hsz]; omega)
  rw [← hW1] at hc1
  have hcl : ∀ ty, (Builtin.clear_ #[77] ty #[.slice (some ⟨g, (i + m) * 5, none⟩) (n - (i + m)) (cap - (i + m))]).run Tryd.prog W1 = .ok (.tuple #[]) (W1.setCells g ((i + m) * 5) kz) := fun ty => by
    rw [show n - (i + m) = 1 by omega]
    refine run_clear_kept W1 ty g _ _ (fun t ht => ?_) (fun t ht => blk_frozen hc1 _)
    rw [blk_cell hc1, Array.getElem?_eq_getElem (by rw [hs1, hsz]; omega)]
    rfl
  obtain ⟨cur2, hc2, hs2, ht2⟩ := setCells_row kz ((i + m) * 5) W1 cur1 hc1 (by rw [hs1, hsz]; simp [kz]; omega)
  have hW : Hid (W1 = w.drew.setCells g (0 + i * 5) tail) := hW1
  have hFin : Hid ((W1.setCells g ((i + m) * 5) kz).ownsRow base 74 5 (.slice (some ⟨g, 0, none⟩) (i + m) cap) (i + m) (news.take (i * 5) ++ news.drop (j * 5)) ∧ w.grownBy (W1.setCells g ((i + m) * 5) kz) (some g)) := by
    refine ⟨⟨?_, .inr ⟨g, cap, cur2, rfl, hbg, hc2, by omega, hmx, by rw [hs2, hs1, hsz], ?_⟩⟩, ?_⟩
    · rw [← htl, List.length_append, List.length_take, hlen, hl]; omega
    · rw [ht2, ht1, ← htl]
      have hcl : cur.toList.length = cap * 5 := by rw [Array.length_toList, hsz]
      have e1 : (cur.toList.take (0 + i * 5)).length = i * 5 := by rw [List.length_take, hcl]; omega
      have e2 : cur.toList.take (0 + i * 5) = news.take (i * 5) := by rw [← htk, List.take_take, Nat.zero_add]; congr 1; omega
      rw [List.append_assoc _ kz, List.take_append_of_le_length (by rw [List.length_take]; simp [hlen, e1]; omega), List.take_take, Nat.min_self, e2]
      rw [List.take_append_of_le_length (by rw [List.length_append, hlen, ← e2, e1]; omega), List.take_of_length_le (by rw [List.length_append, hlen, ← e2, e1]; omega)]
    · have a1 := setCells_same g tail (0 + i * 5) w.drew
      have a2 := setCells_same g kz ((i + m) * 5) W1
      rw [← hW1] at a1
      refine ⟨a2.1.trans a1.1, a2.2.1.trans a1.2.1, a2.2.2.1.trans a1.2.2.1, by rw [a2.2.2.2, a1.2.2.2]; exact Nat.le_refl _, fun k hk hne => ?_⟩
      have hne : k ≠ g := fun e => hne (by rw [e])
      rw [setCells_far _ _ k hne, hW1, setCells_far _ _ k hne]
      rfl
  have hic : i ≤ cap := by omega
  have hjc : j ≤ cap := by omega
  have hjn : j ≤ n := by omega
  have hij : i ≠ j := by omega
  have hij2 : i ≤ j := by omega
  have hr : i + m ≤ cap := by omega
  have hrn : i + m ≤ n := by omega
  have hrc : cap ≠ i + m := by omega
  have hnm : n - j = m := by omega
  have HB := Lib.hid (And.intro hi (And.intro hz1 hnm))
  clear hW1 hW0 hc0 hc1 hc2 ht1 ht2 hs1 hs2 hlen htl hget hcell hsz htk hl h1 hi hz0 hz1 hz2 hj hn hnm
  go_enter Tryd.func48, Tryd.ntmps48
  go_wp2_with fail
  go_region_law (refine step_append_room rfl (.tmp 22) (.tmp 25) 77 rfl 74 i0 5 Tryd.underlying77 HB.out.1 HB.out.2.1 g 0 i cap (by simp [Act.eval, Act.put]) A m (cap - j) tail (by simp [Act.eval, Act.put, HB.out.2.2]) s1.out hsrc.out s2.out hr s3.out ?_; rw [← hW.out])
  go_wp2
  go_ret
  exact ⟨rfl, hFin.out⟩
end Go.Proofs.YtjbjcfnbgcloiaaDoor

/- Erase of package model. -/
namespace Go.Proofs.YtjbjcfnbgcloiaaDoor
open Go.RowKit Nam YtjbjcfnbgcloiaaDoorW.PrintWords

def St.eraL (S : St) (b k : List UInt8) (id : Int) : List Kp := (S.V b k).take (idxK id (S.V b k)).toNat ++ (S.V b k).drop ((idxK id (S.V b k)).toNat + 1)
def St.doEra (S : St) (b k : List UInt8) (id : Int) : St := if S.findE b k id 1 = 0 then S.put b k (S.eraL b k id) else S
def EraIs (S : St) (n : Nat) (Q F : Nat → Prop) (g : Nat) (b k : List UInt8) (id : Int) (w : World) (e : Ending) (w' : World) : Prop :=
  e = .returned (.int .i64 (S.findE b k id 1)) ∧ (∃ F', HasM w' g (S.doEra b k id) (n + 1) Q F' ∧ ∀ j, F' j → F j ∨ w.heap.size ≤ j) ∧ Moved Q w w'

/-- The end of a call that has taken a version away. -/
theorem era_fin {w w5 : World} {g n mb ib g3 n1 cap3 i base : Nat} {S : St} {Q F : Nat → Prop} {D D2 : DataW Unit} {b k : List UInt8} {id : Int} {l : List Kp} {news : List Value} (hm : HasM w g S n Q F) (hB : b ∈ S.B) (hO : Outer w g S n Q F mb D)
    (hat : D.atKey (.string b) .nil = .lit (.int .i64 ib)) (hqi : Q ib) (hne : ib ≠ mb) (hin : w.ownsMap Tryd.prog 9 R2 ib n D2) (hv2 : ∀ s, ∃ v ps, R2 v = some (D2.atKey (.string s) .nil, ps) ∧ RowV w F v (S.V b s)) (hl : S.V b k = l) (hE : S.findE b k id 1 = 0)
    (hi : idxK id l = (i : Int)) (hil : i < l.length) (hn1 : n1 + 1 = l.length) (hr : Reps (KpF w F) 5 l news) (hbase : w.heap.size ≤ base)
    (hown : w5.ownsMap Tryd.prog 9 R2 ib (n + 1) (D2.put (.string k) (.agg [.lit (.int .i64 g3), .lit (.int .i64 n1), .lit (.int .i64 cap3)]))) (hmv : Moved (fun j => j = ib) w w5)
    (hrow : w5.ownsRow base 74 5 (.slice (some ⟨g3, 0, none⟩) n1 cap3) n1 (news.take (i * 5) ++ news.drop ((i + 1) * 5))) :
    EraIs S n Q F g b k id w (.returned (.int .i64 0)) w5 := by
  have hck : FKept F w w5 := hmv.cells (fun j hj => by subst hj; exact hm.q j hqi) hm.f
  have hg3 : base ≤ g3 := own_base hrow g3 rfl
  have hreps : Reps (KpF w5 (fun j => F j ∨ j = g3)) 5 (l.take i ++ l.drop (i + 1)) (news.take (i * 5) ++ news.drop ((i + 1) * 5)) :=
    reps_mono (reps_kept (open Kd in reps_append (reps_take hr (by omega)) (reps_drop hr)) hck) (fun j hj => .inl hj)
  have hlen : (l.take i ++ l.drop (i + 1)).length = n1 := by rw [List.length_append, List.length_take, List.length_drop]; omega
  have hRV := rowV_of_own hrow hreps hlen (fun j hj => by simp [Value.ownBlock] at hj; exact .inr hj.symm)
  have hs := stored hm.q hm.f (F' := fun j => F j ∨ j = g3) (fun j hj => .inl hj) (fun j hj => by
      rcases hj with hj | rfl
      · obtain ⟨a, b, c, e⟩ := hm.f j hj
        exact ⟨a, b, c, (hck j hj).trans e⟩
      · obtain ⟨cells, hc⟩ := own_typed hrow j rfl
        exact ⟨_, _, _, hc⟩) hm.nd hm.off hO hB hat hqi hne hin hv2 (v := .slice (some ⟨g3, 0, none⟩) n1 cap3) rfl hown hmv hRV
  unfold EraIs St.doEra St.eraL
  rw [hE, if_pos rfl, hl, hi, Int.toNat_natCast]
  exact ⟨rfl, ⟨_, hs.1, fun j hj => by rcases hj with hj | rfl; exact .inl hj; exact .inr (by omega)⟩, hs.2⟩

set_option maxHeartbeats 4000000 in
set_option maxRecDepth 100000 in
theorem erase_is (w : World) (g : Nat) (S : St) (n : Nat) (Q F : Nat → Prop) (b k : List UInt8) (id : Int) (hb : b.length ≤ 100000) (hk : k.length ≤ 100000) (hl : (S.V b k).length ≤ 1000) (hn : n ≤ 100000) (hm : HasM w g S n Q F) (hT : Tabs w) :
    Calls Tryd.prog 24 #[.pointer (some ⟨g, 0, none⟩), .string (mkS b), .string (mkS k), .int .i64 id] w (EraIs S n Q F g b k id w) := by
  have HM := Lib.hid hm
  have hfe := find_is w g S n Q F b k id 1 hb hk (by omega) hm hT
  by_cases hf : S.findE b k id 1 = 0
  rotate_left
  · obtain ⟨er, her⟩ : ∃ er, S.findE b k id 1 = er := ⟨_, rfl⟩
    have HS : Hid (S.doEra b k id = S) := by show _ = _; unfold St.doEra; rw [if_neg hf]
    have HR := Lib.hid her
    rw [her] at hf
    have HFE : Hid (Calls Tryd.prog 43 #[.pointer (some ⟨g, 0, none⟩), .string (mkS b), .string (mkS k), .int .i64 id, .int .i64 1] w fun e w' => e = .returned (.tuple #[.agg #[.int .i64 0, .bool false, .int .i64 0, .int .u32 0, .slice none 0 0], .int .i64 0, .int .i64 er]) ∧ Below w.heap.size w w') := hfe.mono fun e w' h => by
      refine ⟨?_, h.2⟩
      rcases h.1 with ⟨_, he⟩ | ⟨h0, _⟩
      · rw [he, her]
      · exact absurd (her.symm.trans h0) hf
    have de : (er == 0) = false := by simp [hf]
    clear hfe her hm hT
    go_enter Tryd.func24, Tryd.ntmps24
    go_wp2_with (first | (go_at_call 43; refine HFE.out.mono ?_; rintro e w3 ⟨rfl, hb3⟩; have HB3 := Lib.hid hb3; clear hb3) | (refine wpList_store_row rfl 74 (.tmp 9) (.tmp 18) rfl w3.heap.size #[.int .i64 0, .bool false, .int .i64 0, .int .u32 0, .slice none 0 0] rfl rfl 74 _ (heap_alloc_new w3 _) (by kernel_rfl) rfl (by simp [Value.oneCell']) ?_))
    go_ret
    have hbx := below_setRow (HB3.out.alloc HB3.out.size (.cells #[.int .i64 0, .bool false, .int .i64 0, .int .u32 0, .slice none 0 0] 74)) HB3.out.size #[.int .i64 0, .bool false, .int .i64 0, .int .u32 0, .slice none 0 0]
    exact ⟨by rw [HR.out]; rfl, ⟨F, by rw [HS.out]; exact (HM.out.below hbx).mono (by omega), fun j hj => .inl hj⟩, Moved.of_below hbx⟩
  · obtain ⟨hB, hn0, _⟩ := find_in hf
    obtain ⟨mb, D, hO⟩ := hm.ex
    obtain ⟨ib, hat, hqi, hne, D2, hin, hv2⟩ := hO.at_ b hB
    obtain ⟨v, ps, hv, hrow⟩ := hv2 k
    obtain ⟨l, hlL⟩ : ∃ l, S.V b k = l := ⟨_, rfl⟩
    rw [hlL] at hrow hn0 hl
    obtain ⟨i, hidx, hil⟩ : ∃ i : Nat, idxK id l = (i : Int) ∧ i < l.length := by
      rcases idxK_lt (id := id) (l := l) with h | h
      · unfold St.findE at hf
        have := find_in (S := S) (b := b) (k := k) (id := id) (least := 1) hf
        exact absurd hf (by rw [if_neg (by rw [this.2.2]; simp)]; by_cases h2 : id < 1; · rw [if_pos h2]; decide
                            · rw [if_neg h2, if_neg (fun h => h this.1), if_neg this.2.1, hlL, if_pos h]; decide)
      · exact h
    obtain ⟨A2, c2, hve, hlc⟩ := hrow.slice
    obtain ⟨m, hmL⟩ : ∃ m, l.length = m := ⟨_, rfl⟩
    rw [hmL] at hve hlc
    subst hve
    obtain ⟨news, hna, hrn⟩ := hrow
    rw [hmL] at hna
    have HFE : Hid (Calls Tryd.prog 43 #[.pointer (some ⟨g, 0, none⟩), .string (mkS b), .string (mkS k), .int .i64 id, .int .i64 1] w fun e w' => (∃ (y : Kp) (A : Option Addr) (c : Nat), e = .returned (.tuple #[.agg #[.int .i64 y.id, .bool y.mark, .int .i64 y.sz, .int .u32 y.sum, .slice A y.dt.length c], .int .i64 (i : Int), .int .i64 0])) ∧ Below w.heap.size w w') := hfe.mono fun e w' h => by
      refine ⟨?_, h.2⟩
      rcases h.1 with ⟨h0, _⟩ | ⟨_, i', y, A, c, hi', _, _, _, _, he⟩
      · exact absurd hf h0
      · rw [hlL, hidx] at hi'
        have : i = i' := by omega
        subst this
        exact ⟨y, A, c, he⟩
    have HSf : Hid (∀ V, Below w.heap.size w V → V.cell? ⟨g, 0, none⟩ = some (.map (some mb)) ∧ (Instr.lookup 59 (.map (some mb)) (.string (mkS b)) false).run Tryd.prog V = .ok (.map (some ib)) V ∧ (Instr.lookup 63 (.map (some ib)) (.string (mkS k)) false).run Tryd.prog V = .ok (.slice A2 m c2) V) := fun V hV => by
      have hO' := hO.below hm.q hm.f hV
      have hin' := ownsMap_kept hin (hV.block ib (isM_lt (hm.q ib hqi)))
      exact ⟨(blk_cell hO'.c 0).trans rfl, look1' hO' (by unfold maxLen; omega) hat, look2' hin' (by unfold maxLen; omega) hv⟩
    have hnl : news.length = m * 5 := by rw [hrn.1, hmL]
    obtain ⟨n1, hn1⟩ : ∃ n1, n1 + 1 = m := ⟨m - 1, by omega⟩
    have HCl : Hid (∀ W4 V, Below w.heap.size w W4 → Below W4.heap.size W4 V → Calls Tryd.prog 38 #[.slice A2 m c2] V fun e w' => (∃ g3 cap3, e = .returned (.slice (some ⟨g3, 0, none⟩) m cap3) ∧ Hid (w'.ownsRow W4.heap.size 74 5 (.slice (some ⟨g3, 0, none⟩) m cap3) m news)) ∧ Below W4.heap.size W4 w') := fun W4 V h4 hV =>
      (kclone_at V F _ news m (by omega) hnl (reps_ones hrn) (hna.kept ((below_cells h4 hm.f).trans (below_cells hV (hm.below h4).f)))).mono fun e w' ⟨⟨v', he, ho⟩, hb⟩ => by
        refine ⟨?_, hV.trans (hb.mono hV.size)⟩
        have ho' := own_weaken ho hV.size
        rcases ho'.2 with ⟨_, h0⟩ | ⟨g3, cap3, cur, h0, _⟩
        · omega
        · subst h0
          exact ⟨g3, cap3, he, ho'⟩
    have HDe : Hid (∀ W4 V g3 cap3, Below W4.heap.size W4 V → V.ownsRow W4.heap.size 74 5 (.slice (some ⟨g3, 0, none⟩) m cap3) m news → Calls Tryd.prog 48 #[.slice (some ⟨g3, 0, none⟩) m cap3, .int .i64 (i : Int), .int .i64 ((i + 1 : Nat) : Int)] V fun e w' => e = .returned (.slice (some ⟨g3, 0, none⟩) n1 cap3) ∧ Hid (w'.ownsRow W4.heap.size 74 5 (.slice (some ⟨g3, 0, none⟩) n1 cap3) n1 (news.take (i * 5) ++ news.drop ((i + 1) * 5))) ∧ Below W4.heap.size W4 w') := fun W4 V g3 cap3 hV ho =>
      (kdel_is V W4.heap.size g3 m cap3 i (i + 1) (m - (i + 1)) news ho rfl (by omega) (by omega) (reps_ones hrn)).mono fun e w' ⟨he, h2, h3⟩ => by
        rw [show i + (m - (i + 1)) = n1 by omega] at he h2
        exact ⟨he, h2, hV.grown h3 hV.size (fun j hj => own_base ho j hj)⟩
    have HUp : Hid (∀ (W4 W6 : World) (g3 cap3 : Nat), Below w.heap.size w W4 → Below W4.heap.size W4 W6 → W6.ownsRow W4.heap.size 74 5 (.slice (some ⟨g3, 0, none⟩) n1 cap3) n1 (news.take (i * 5) ++ news.drop ((i + 1) * 5)) → ∃ w7, (Instr.mapUpdate 63 (.map (some ib)) (.string (mkS k)) (.slice (some ⟨g3, 0, none⟩) n1 cap3)).run Tryd.prog W6 = .ok () w7 ∧ Hid (EraIs S n Q F g b k id w (.returned (.int .i64 0)) w7)) := fun W4 W6 g3 cap3 h4 h6 ho => by
      have h46 := h4.trans (h6.mono h4.size)
      have hib := isM_lt (hm.q ib hqi)
      obtain ⟨w7, h1, h2, h3⟩ := (ownsMap_kept hin (h46.block ib hib)).update KS Tryd.underlying63 (by unfold maxLen; omega) (key_str k (by unfold maxLen; omega)) (show R2 (.slice (some ⟨g3, 0, none⟩) n1 cap3) = some (.agg [.lit (.int .i64 g3), .lit (.int .i64 n1), .lit (.int .i64 cap3)], []) from rfl)
      have hmv : Moved (fun j => j = ib) w w7 := (Moved.of_below h46).trans (Moved.of_grown h3 (Q := fun j => j = ib) rfl) (fun i hi => .inl hi)
      refine ⟨w7, h1, era_fin hm hB hO hat hqi hne hin hv2 hlL hf hidx (by omega) (by omega) hrn h4.size h2 hmv (own_other ho h3 (.inr ?_))⟩
      have hg3 := own_base ho g3 rfl
      have := h4.size
      simp only [Value.ownBlock]
      intro e
      injection e with e
      omega
    have wi : IntKind.i64.wrap ((i : Int) + 1) = ((i + 1 : Nat) : Int) := by rw [IntWalk.i64_in _ (by omega)]; omega
    have hrcl : (S.findE b k id 1 = 0) := hf
    have HR := Lib.hid hrcl
    clear hrcl hfe hf hB hn0 hO hat hqi hne hin hv2 hv hlL hidx hil hlc hna hrn hnl hn1 hmL hm hT hl
    go_enter Tryd.func24, Tryd.ntmps24
    go_wp2_with (first | (go_at_call 43; refine HFE.out.mono ?_; rintro e w3 ⟨⟨y, A, c, rfl⟩, hb3⟩; obtain ⟨W4, hW4⟩ : ∃ W4, w3.alloc (.cells #[.int .i64 y.id, .bool y.mark, .int .i64 y.sz, .int .u32 y.sum, .slice A y.dt.length c] 74) = W4 := ⟨_, rfl⟩; have hb4 : Below w.heap.size w W4 := (by rw [← hW4]; exact hb3.alloc hb3.size _); clear hb3) | fail)
    clear hW4
    have hB0 : Below W4.heap.size W4 W4.drew := (Below.refl _ _).drew
    obtain ⟨q0, q1, q2⟩ := HSf.out _ hb4
    obtain ⟨d0, d1, d2⟩ := HSf.out W4.drew (hb4.trans (hB0.mono hb4.size))
    go_region_with (first | (go_at_call 38; refine (HCl.out _ _ hb4 hB0).mono ?_; rintro e w5 ⟨⟨g3, cap3, rfl, HOW⟩, hb5⟩; obtain ⟨r0, r1, r2⟩ := HSf.out _ (hb4.trans (hb5.mono hb4.size))) | (go_at_call 48; refine (HDe.out _ _ _ _ hb5 HOW.out).mono ?_; rintro e w6 ⟨rfl, HOW6, hb6⟩; obtain ⟨s0, s1, s2⟩ := HSf.out _ (hb4.trans (hb6.mono hb4.size)); obtain ⟨w7, hrun7, HE7⟩ := HUp.out _ _ _ _ hb4 hb6 HOW6.out))
    all_goals
      clear hrun7 q0 q1 q2 d0 d1 d2 r0 r1 r2 s0 s1 s2 hb5 hb6 hB0 hb4
      go_wp2_with fail
      go_ret
      exact HE7.out
end Go.Proofs.YtjbjcfnbgcloiaaDoor
