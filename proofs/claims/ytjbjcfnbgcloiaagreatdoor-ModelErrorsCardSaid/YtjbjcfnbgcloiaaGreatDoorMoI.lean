/- find of package model. -/
import Derived.Test.YtjbjcfnbgcloiaaGreatDoorMoH
namespace Go.Proofs.YtjbjcfnbgcloiaaGreatDoor
open Go.RowKit Nam YtjbjcfnbgcloiaaGreatDoorW.PrintWords

theorem RowV.full {w : World} {F : Nat → Prop} {v : Value} {l : List Kp} (h : RowV w F v l) (hl : l ≠ []) : ∃ g c, v = .slice (some ⟨g, 0, none⟩) l.length c ∧ F g ∧ l.length ≤ c := by
  obtain ⟨news, h1, _⟩ := h
  rcases h1 with ⟨_, h0, _⟩ | ⟨g, c, h1, h2, h3, _⟩
  · exact absurd (List.length_eq_zero_iff.1 h0) hl
  · exact ⟨g, c, h1, h3, h2⟩
theorem setRow_kept {w : World} {F : Nat → Prop} (r : Nat) (cs : Array Value) (h : ¬ F r) : FKept F w (w.setRow r cs) := fun k hk => setRow_other _ _ _ _ (fun e => h (by rw [← e]; exact hk))
/-- What find leaves: its error, or a version and its place. -/
def FindIs (S : St) (F : Nat → Prop) (b k : List UInt8) (id least : Int) (w : World) (e : Ending) (w' : World) : Prop :=
  ((S.findE b k id least ≠ 0 ∧ e = .returned (.tuple #[.agg #[.int .i64 0, .bool false, .int .i64 0, .int .u32 0, .slice none 0 0], .int .i64 0, .int .i64 (S.findE b k id least)])) ∨
   (S.findE b k id least = 0 ∧ ∃ (i : Nat) (y : Kp) (A : Option Addr) (c : Nat), idxK id (S.V b k) = (i : Int) ∧ i < (S.V b k).length ∧ (S.V b k)[i]? = some y ∧ y.dt.length ≤ c ∧ DatF w' F A y.dt ∧
     e = .returned (.tuple #[.agg #[.int .i64 y.id, .bool y.mark, .int .i64 y.sz, .int .u32 y.sum, .slice A y.dt.length c], .int .i64 i, .int .i64 0]))) ∧ Below w.heap.size w w'
theorem find_err {S : St} {F : Nat → Prop} {b k : List UInt8} {id least err : Int} {w w' : World} (h : S.findE b k id least = err) (h0 : err ≠ 0) (hb : Below w.heap.size w w') :
    FindIs S F b k id least w (.returned (.tuple #[.agg #[.int .i64 0, .bool false, .int .i64 0, .int .u32 0, .slice none 0 0], .int .i64 0, .int .i64 err])) w' := by
  subst h
  exact ⟨.inl ⟨h0, rfl⟩, hb⟩
theorem find_ok {S : St} {F : Nat → Prop} {b k : List UInt8} {id least : Int} {w w' : World} {i : Nat} {y : Kp} {A : Option Addr} {c : Nat} (h : S.findE b k id least = 0) (hi : idxK id (S.V b k) = (i : Int)) (hl : i < (S.V b k).length) (hy : (S.V b k)[i]? = some y)
    (hc : y.dt.length ≤ c) (hd : DatF w' F A y.dt) (hb : Below w.heap.size w w') :
    FindIs S F b k id least w (.returned (.tuple #[.agg #[.int .i64 y.id, .bool y.mark, .int .i64 y.sz, .int .u32 y.sum, .slice A y.dt.length c], .int .i64 i, .int .i64 0])) w' :=
  ⟨.inr ⟨h, i, y, A, c, hi, hl, hy, hc, hd, rfl⟩, hb⟩

set_option maxHeartbeats 4000000 in
set_option maxRecDepth 100000 in
theorem find_is (w : World) (g : Nat) (S : St) (n : Nat) (Q F : Nat → Prop) (b k : List UInt8) (id least : Int) (hb : b.length ≤ 100000) (hk : k.length ≤ 100000) (hl : (S.V b k).length ≤ 100000) (hm : HasM w g S n Q F) (hT : Tabs w) :
    Calls Tryz.prog 55 #[.pointer (some ⟨g, 0, none⟩), .string (mkS b), .string (mkS k), .int .i64 id, .int .i64 least] w (FindIs S F b k id least w) := by
  have HM := Lib.hid hm
  obtain ⟨mb, D, hO⟩ := hm.ex
  obtain ⟨W2, hW2⟩ : ∃ W2, (w.alloc (.cells #[.int .i64 id] 3)).alloc (.cells #[.int .i64 0, .bool false, .int .i64 0, .int .u32 0, .slice none 0 0] 67) = W2 := ⟨_, rfl⟩
  have hb2 : Below w.heap.size w W2 := by rw [← hW2]; exact ((Below.refl _ _).alloc (Nat.le_refl _) _).alloc (by simp) _
  have hbi : W2.heap[w.heap.size]? = some (.cells #[.int .i64 id] 3 (0, 0)) := by rw [← hW2]; exact (heap_alloc_old _ _ (by simp)).trans (heap_alloc_new w _)
  have hbv : W2.heap[w.heap.size + 1]? = some (.cells #[.int .i64 0, .bool false, .int .i64 0, .int .u32 0, .slice none 0 0] 67 (0, 0)) := by
    rw [← hW2]
    have := heap_alloc_new (w.alloc (.cells #[.int .i64 id] 3)) (.cells #[.int .i64 0, .bool false, .int .i64 0, .int .u32 0, .slice none 0 0] 67)
    simpa using this
  have hs2 : w.heap.size + 2 = W2.heap.size := by rw [← hW2]; simp
  have hO2 := hO.below hm.q hm.f hb2
  have HBI := Lib.hid hbi
  have HBV := Lib.hid hbv
  have HB2 := Lib.hid hb2
  obtain ⟨nm, hnm⟩ : ∃ nm, namedB b k = nm := ⟨_, rfl⟩
  have hna := named_is W2 g mb b k hb hk (hT.below hb2) hO2.c
  rw [hnm] at hna
  have HNA := Lib.hid hna
  have HNM := Lib.hid hnm
  have HVS : Hid (∀ W, Below w.heap.size w W → Calls Tryz.prog 81 #[.pointer (some ⟨g, 0, none⟩), .string (mkS b), .string (mkS k)] W (VersIs S F b k W)) := fun W hW => versions_is W g S n Q F b k hb hk (hm.below hW)
  have HL := Lib.hid hl
  clear hO hO2 hbi hbv hb2 hna hnm hm hT hl
  cases nm with
  | false =>
    have hR : Hid (S.findE b k id least = 12) := by show _ = _; unfold St.findE; rw [if_pos HNM.out]
    go_enter Tryz.func55, Tryz.ntmps55
    go_upto_region 1 with (fail)
    clear hW2
    go_wp2_with fail
    refine HNA.out.mono ?_
    rintro e w3 ⟨rfl, hb3⟩
    have HBV3 := Lib.hid (blk_below HBV.out hb3)
    have HBI3 := Lib.hid (blk_below HBI.out hb3)
    have HB3 := Lib.hid (HB2.out.trans (hb3.mono HB2.out.size))
    have hs3 : w.heap.size + 2 ≤ w3.heap.size := by have := hb3.size; omega
    have i0 := (blk_cell HBI3.out 0).trans (rfl : _ = some (Value.int .i64 id))
    clear hb3
    simp only [Bool.false_eq_true, if_false]
    go_wp2_with (refine wpList_store_row rfl 67 (.tmp 10) (.tmp 23) rfl (w.heap.size + 1) #[.int .i64 0, .bool false, .int .i64 0, .int .u32 0, .slice none 0 0] rfl rfl 67 _ HBV3.out (by kernel_rfl) rfl (by simp [Value.oneCell']) ?_)
    refine bodyPost_ret (results_ctt rfl _ _ (w.heap.size + 1) 67 #[.int .i64 0, .bool false, .int .i64 0, .int .u32 0, .slice none 0 0] (0, 0) _ rfl (setRow_heap _ _ _ _ _ _ HBV3.out) Tryz.underlying67 rfl (by kernel_rfl)) rfl ?_
    exact find_err hR.out (by decide) (below_setRow HB3.out (by omega) _)
  | true =>
    have hE : S.findE b k id least = if id < least then 1 else if b ∉ S.B then 13 else if S.V b k = [] then 14 else if idxK id (S.V b k) < 0 then 15 else 0 := by unfold St.findE; rw [if_neg (by rw [HNM.out]; simp)]
    by_cases hlt : id < least
    · have hR : Hid (S.findE b k id least = 1) := by show _ = _; rw [hE, if_pos hlt]
      have dl : decide (id < least) = true := decide_eq_true hlt
      clear hE hlt
      go_enter Tryz.func55, Tryz.ntmps55
      go_upto_region 1 with (fail)
      clear hW2
      go_wp2_with fail
      refine HNA.out.mono ?_
      rintro e w3 ⟨rfl, hb3⟩
      have HBV3 := Lib.hid (blk_below HBV.out hb3)
      have HBI3 := Lib.hid (blk_below HBI.out hb3)
      have HB3 := Lib.hid (HB2.out.trans (hb3.mono HB2.out.size))
      have hs3 : w.heap.size + 2 ≤ w3.heap.size := by have := hb3.size; omega
      have i0 := (blk_cell HBI3.out 0).trans (rfl : _ = some (Value.int .i64 id))
      clear hb3
      simp only [if_true]
      go_wp2_with (refine wpList_store_row rfl 67 (.tmp 10) (.tmp 28) rfl (w.heap.size + 1) #[.int .i64 0, .bool false, .int .i64 0, .int .u32 0, .slice none 0 0] rfl rfl 67 _ HBV3.out (by kernel_rfl) rfl (by simp [Value.oneCell']) ?_)
      refine bodyPost_ret (results_ctt rfl _ _ (w.heap.size + 1) 67 #[.int .i64 0, .bool false, .int .i64 0, .int .u32 0, .slice none 0 0] (0, 0) _ rfl (setRow_heap _ _ _ _ _ _ HBV3.out) Tryz.underlying67 rfl (by kernel_rfl)) rfl ?_
      exact find_err hR.out (by decide) (below_setRow HB3.out (by omega) _)
    · rw [if_neg hlt] at hE
      have dl : decide (id < least) = false := decide_eq_false hlt
      clear hlt
      by_cases hv0 : b ∉ S.B ∨ S.V b k = []
      · have hbad : ∀ (v : Value) (er : Int) (w : World), (if b ∉ S.B then er = 13 else if S.V b k = [] then er = 14 else er = 0 ∧ RowV w F v (S.V b k)) → S.findE b k id least = er ∧ er ≠ 0 := fun v er w h => by
          rw [hE]
          by_cases hB : b ∉ S.B
          · rw [if_pos hB] at h ⊢
            subst h
            exact ⟨rfl, by decide⟩
          · rw [if_neg hB] at h ⊢
            have h2 := hv0.resolve_left hB
            rw [if_pos h2] at h ⊢
            subst h
            exact ⟨rfl, by decide⟩
        have HBad := Lib.hid hbad
        clear hbad hE hv0
        go_enter Tryz.func55, Tryz.ntmps55
        go_upto_region 1 with (fail)
        clear hW2
        go_wp2_with fail
        refine HNA.out.mono ?_
        rintro e w3 ⟨rfl, hb3⟩
        have HBV3 := Lib.hid (blk_below HBV.out hb3)
        have HBI3 := Lib.hid (blk_below HBI.out hb3)
        have HB3 := Lib.hid (HB2.out.trans (hb3.mono HB2.out.size))
        have hs3 : w.heap.size + 2 ≤ w3.heap.size := by have := hb3.size; omega
        have i0 := (blk_cell HBI3.out 0).trans (rfl : _ = some (Value.int .i64 id))
        clear hb3
        simp only [if_true]
        go_wp2_with fail
        refine (HVS.out _ HB3.out).mono ?_
        rintro e w' ⟨⟨v, er, rfl, hv⟩, rfl⟩
        obtain ⟨hR, hne⟩ := HBad.out _ _ _ hv
        have hR := Lib.hid hR
        have de : decide (er = 0) = false := decide_eq_false hne
        have de2 : (er == 0) = false := by simp [hne]
        have HNE := Lib.hid hne
        clear hv
        go_wp2_with (refine wpList_store_row rfl 67 (.tmp 10) (.tmp 38) rfl (w.heap.size + 1) #[.int .i64 0, .bool false, .int .i64 0, .int .u32 0, .slice none 0 0] rfl rfl 67 _ HBV3.out (by kernel_rfl) rfl (by simp [Value.oneCell']) ?_)
        refine bodyPost_ret (results_ctt rfl _ _ (w.heap.size + 1) 67 #[.int .i64 0, .bool false, .int .i64 0, .int .u32 0, .slice none 0 0] (0, 0) _ rfl (setRow_heap _ _ _ _ _ _ HBV3.out) Tryz.underlying67 rfl (by kernel_rfl)) rfl ?_
        exact find_err hR.out HNE.out (below_setRow HB3.out (by omega) _)
      · have hB : b ∈ S.B := Classical.not_not.1 (fun h => hv0 (.inl h))
        have hn0 : S.V b k ≠ [] := fun h => hv0 (.inr h)
        rw [if_neg (fun h => h hB), if_neg hn0] at hE
        have HGood : Hid (∀ (v : Value) (er : Int) (w : World), (if b ∉ S.B then er = 13 else if S.V b k = [] then er = 14 else er = 0 ∧ RowV w F v (S.V b k)) → er = 0 ∧ RowV w F v (S.V b k)) := fun v er w h => by
          rw [if_neg (fun h => h hB), if_neg hn0] at h
          exact h
        have HN0 := Lib.hid hn0
        obtain ⟨m, hmL⟩ : ∃ m, (S.V b k).length = m := ⟨_, rfl⟩
        have HML := Lib.hid hmL
        have hml := HL.out
        rw [hmL] at hml
        have hm0 : 0 < m := by rw [← hmL]; exact List.length_pos_iff.2 hn0
        have HE := Lib.hid hE
        have wm : IntKind.i64.wrap ((m : Int) - 1) = ((m - 1 : Nat) : Int) := by rw [IntWalk.i64_in _ (by omega)]; omega
        obtain ⟨m1, hm1⟩ : ∃ m1, m - 1 = m1 := ⟨_, rfl⟩
        rw [hm1] at wm
        have hmm : m = m1 + 1 := by omega
        clear hv0 hB hn0 hmL hE
        by_cases hid : id = 0
        · subst hid
          have hix : idxK 0 (S.V b k) = (m1 : Int) := by unfold idxK; rw [if_pos rfl, HML.out]; omega
          have hR : Hid (S.findE b k 0 least = 0) := by show _ = _; rw [HE.out, hix, if_neg (by omega)]
          obtain ⟨y, hy⟩ : ∃ y, (S.V b k)[m1]? = some y := ⟨_, List.getElem?_eq_getElem (by rw [HML.out]; omega)⟩
          have HIX := Lib.hid hix
          have HY := Lib.hid hy
          have HIL : Hid (m1 < (S.V b k).length) := by show _ < _; rw [HML.out]; omega
          have dm : decide ((m1 : Int) < 0) = false := decide_eq_false (by omega)
          have nn : (m1 : Int) < (m : Int) := by omega
          have n0 : (0 : Int) ≤ (m1 : Int) := by omega
          clear hix hy hm1 hmm
          go_enter Tryz.func55, Tryz.ntmps55
          go_upto_region 1 with (fail)
          clear hW2
          go_wp2_with fail
          refine HNA.out.mono ?_
          rintro e w3 ⟨rfl, hb3⟩
          have HBV3 := Lib.hid (blk_below HBV.out hb3)
          have HBI3 := Lib.hid (blk_below HBI.out hb3)
          have HB3 := Lib.hid (HB2.out.trans (hb3.mono HB2.out.size))
          have hs3 : w.heap.size + 2 ≤ w3.heap.size := by have := hb3.size; omega
          have i0 := (blk_cell HBI3.out 0).trans (rfl : _ = some (Value.int .i64 0))
          clear hb3
          simp only [if_true]
          go_wp2_with fail
          refine (HVS.out _ HB3.out).mono ?_
          rintro e w' ⟨⟨v, er, rfl, hv⟩, rfl⟩
          obtain ⟨rfl, hrow⟩ := HGood.out _ _ _ hv
          obtain ⟨g2, c2, rfl, hFg, hlc⟩ := hrow.full HN0.out
          rw [HML.out] at hrow hlc ⊢
          obtain ⟨A2, c3, hdc, hdf, hcell⟩ := hrow.at_ m1 HY.out
          have y0 := hcell 0 _ rfl
          have y1 := hcell 1 _ rfl
          have y2 := hcell 2 _ rfl
          have y3 := hcell 3 _ rfl
          have y4 := hcell 4 _ rfl
          rw [Nat.add_zero] at y0
          have HDC := Lib.hid hdc
          have HDF := Lib.hid hdf
          clear hv hrow hFg hdc hdf hcell
          go_wp2_with (refine wpList_store_row rfl 67 (.tmp 10) (.tmp 54) rfl (w.heap.size + 1) #[.int .i64 y.id, .bool y.mark, .int .i64 y.sz, .int .u32 y.sum, .slice A2 y.dt.length c3] rfl rfl 67 _ HBV3.out (by kernel_rfl) rfl (by simp [Value.oneCell']) ?_)
          refine bodyPost_ret (results_ctt rfl _ _ (w.heap.size + 1) 67 #[.int .i64 y.id, .bool y.mark, .int .i64 y.sz, .int .u32 y.sum, .slice A2 y.dt.length c3] (0, 0) _ rfl (setRow_heap _ _ _ _ _ _ HBV3.out) Tryz.underlying67 rfl (by kernel_rfl)) rfl ?_
          refine find_ok hR.out HIX.out HIL.out HY.out HDC.out (HDF.out.kept ?_) (below_setRow HB3.out (by omega) _)
          exact setRow_kept _ _ (fun h => by have := isC_lt (HM.out.f _ h); omega)
        · have d0 : (id == 0) = false := by simp [hid]
          have d1 : decide (id = 0) = false := decide_eq_false hid
          have HIN := Lib.hid hid
          rcases idxK_lt (id := id) (l := S.V b k) with hix | ⟨i, hix, hil⟩
          · have hR : Hid (S.findE b k id least = 15) := by show _ = _; rw [HE.out, if_pos hix]
            obtain ⟨r, hr⟩ : ∃ r, idxK id (S.V b k) = r := ⟨_, rfl⟩
            rw [hr] at hix
            have dm : decide (r < 0) = true := decide_eq_true hix
            have HRr := Lib.hid hr
            clear hr hix hid hmm hm1
            go_enter Tryz.func55, Tryz.ntmps55
            go_upto_region 1 with (fail)
            clear hW2
            go_wp2_with fail
            refine HNA.out.mono ?_
            rintro e w3 ⟨rfl, hb3⟩
            have HBV3 := Lib.hid (blk_below HBV.out hb3)
            have HBI3 := Lib.hid (blk_below HBI.out hb3)
            have HB3 := Lib.hid (HB2.out.trans (hb3.mono HB2.out.size))
            have hs3 : w.heap.size + 2 ≤ w3.heap.size := by have := hb3.size; omega
            have i0 := (blk_cell HBI3.out 0).trans (rfl : _ = some (Value.int .i64 id))
            clear hb3
            simp only [if_true]
            go_wp2_with fail
            refine (HVS.out _ HB3.out).mono ?_
            rintro e w' ⟨⟨v, er, rfl, hv⟩, rfl⟩
            obtain ⟨rfl, hrow⟩ := HGood.out _ _ _ hv
            obtain ⟨g2, c2, rfl, hFg, hlc⟩ := hrow.full HN0.out
            rw [HML.out] at hrow hlc ⊢
            have HIC : Hid (Calls Tryz.prog 82 #[.slice (some ⟨g2, 0, none⟩) m c2, .func (.func 83) #[] #[.pointer (some ⟨w.heap.size, 0, none⟩)]] w3 fun e w' => e = .returned (.int .i64 r) ∧ Below w3.heap.size w3 w') := by
              rw [← HRr.out]
              exact index_is w3 F g2 m c2 (S.V b k) id w.heap.size HML.out hml (isC_lt ((HM.out.below HB3.out).f g2 hFg)) hrow HIN.out (by omega) i0
            clear hv hrow hFg
            go_wp2_with fail
            refine HIC.out.mono ?_
            rintro e w4 ⟨rfl, hb4⟩
            have HBV4 := Lib.hid (blk_below HBV3.out hb4)
            have HB4 := Lib.hid (HB3.out.trans (hb4.mono HB3.out.size))
            clear hb4
            go_wp2_with (refine wpList_store_row rfl 67 (.tmp 10) (.tmp 50) rfl (w.heap.size + 1) #[.int .i64 0, .bool false, .int .i64 0, .int .u32 0, .slice none 0 0] rfl rfl 67 _ HBV4.out (by kernel_rfl) rfl (by simp [Value.oneCell']) ?_)
            refine bodyPost_ret (results_ctt rfl _ _ (w.heap.size + 1) 67 #[.int .i64 0, .bool false, .int .i64 0, .int .u32 0, .slice none 0 0] (0, 0) _ rfl (setRow_heap _ _ _ _ _ _ HBV4.out) Tryz.underlying67 rfl (by kernel_rfl)) rfl ?_
            exact find_err hR.out (by decide) (below_setRow HB4.out (by omega) _)
          · have hR : Hid (S.findE b k id least = 0) := by show _ = _; rw [HE.out, hix, if_neg (by omega)]
            obtain ⟨y, hy⟩ : ∃ y, (S.V b k)[i]? = some y := ⟨_, List.getElem?_eq_getElem hil⟩
            have HIX := Lib.hid hix
            have HY := Lib.hid hy
            have HIL := Lib.hid hil
            rw [HML.out] at hil
            have dm : decide ((i : Int) < 0) = false := decide_eq_false (by omega)
            have nn : (i : Int) < (m : Int) := by omega
            have n0 : (0 : Int) ≤ (i : Int) := by omega
            clear hix hy hid hmm hm1
            go_enter Tryz.func55, Tryz.ntmps55
            go_upto_region 1 with (fail)
            clear hW2
            go_wp2_with fail
            refine HNA.out.mono ?_
            rintro e w3 ⟨rfl, hb3⟩
            have HBV3 := Lib.hid (blk_below HBV.out hb3)
            have HBI3 := Lib.hid (blk_below HBI.out hb3)
            have HB3 := Lib.hid (HB2.out.trans (hb3.mono HB2.out.size))
            have hs3 : w.heap.size + 2 ≤ w3.heap.size := by have := hb3.size; omega
            have i0 := (blk_cell HBI3.out 0).trans (rfl : _ = some (Value.int .i64 id))
            clear hb3
            simp only [if_true]
            go_wp2_with fail
            refine (HVS.out _ HB3.out).mono ?_
            rintro e w' ⟨⟨v, er, rfl, hv⟩, rfl⟩
            obtain ⟨rfl, hrow⟩ := HGood.out _ _ _ hv
            obtain ⟨g2, c2, rfl, hFg, hlc⟩ := hrow.full HN0.out
            rw [HML.out] at hrow hlc ⊢
            have HIC : Hid (Calls Tryz.prog 82 #[.slice (some ⟨g2, 0, none⟩) m c2, .func (.func 83) #[] #[.pointer (some ⟨w.heap.size, 0, none⟩)]] w3 fun e w' => e = .returned (.int .i64 (i : Int)) ∧ Below w3.heap.size w3 w') := by
              rw [← HIX.out]
              exact index_is w3 F g2 m c2 (S.V b k) id w.heap.size HML.out hml (isC_lt ((HM.out.below HB3.out).f g2 hFg)) hrow HIN.out (by omega) i0
            have HRw := Lib.hid hrow
            clear hv hrow hFg
            go_wp2_with fail
            refine HIC.out.mono ?_
            rintro e w4 ⟨rfl, hb4⟩
            have HBV4 := Lib.hid (blk_below HBV3.out hb4)
            have HB4 := Lib.hid (HB3.out.trans (hb4.mono HB3.out.size))
            have hs4 : w.heap.size + 2 ≤ w4.heap.size := by have := hb4.size; omega
            have hrow := HRw.out.kept (below_cells hb4 (HM.out.below HB3.out).f)
            obtain ⟨A2, c3, hdc, hdf, hcell⟩ := hrow.at_ i HY.out
            have y0 := hcell 0 _ rfl
            have y1 := hcell 1 _ rfl
            have y2 := hcell 2 _ rfl
            have y3 := hcell 3 _ rfl
            have y4 := hcell 4 _ rfl
            rw [Nat.add_zero] at y0
            have HDC := Lib.hid hdc
            have HDF := Lib.hid hdf
            clear hb4 hrow hdc hdf hcell i0
            go_wp2_with (refine wpList_store_row rfl 67 (.tmp 10) (.tmp 54) rfl (w.heap.size + 1) #[.int .i64 y.id, .bool y.mark, .int .i64 y.sz, .int .u32 y.sum, .slice A2 y.dt.length c3] rfl rfl 67 _ HBV4.out (by kernel_rfl) rfl (by simp [Value.oneCell']) ?_)
            refine bodyPost_ret (results_ctt rfl _ _ (w.heap.size + 1) 67 #[.int .i64 y.id, .bool y.mark, .int .i64 y.sz, .int .u32 y.sum, .slice A2 y.dt.length c3] (0, 0) _ rfl (setRow_heap _ _ _ _ _ _ HBV4.out) Tryz.underlying67 rfl (by kernel_rfl)) rfl ?_
            refine find_ok hR.out HIX.out HIL.out HY.out HDC.out (HDF.out.kept ?_) (below_setRow HB4.out (by omega) _)
            exact setRow_kept _ _ (fun h => by have := isC_lt (HM.out.f _ h); omega)
end Go.Proofs.YtjbjcfnbgcloiaaGreatDoor
