/- Put of package model. -/
import Derived.Test.YtjbjcfnbgcloiaaGreatDoorMoF
namespace Go.Proofs.YtjbjcfnbgcloiaaGreatDoor
open Go.RowKit Nam YtjbjcfnbgcloiaaGreatDoorW.PrintWords

def kpOf (id : Int) (d : List UInt8) : Kp := ⟨id, false, d.length, sumC d, d⟩
def St.putE (S : St) (id : Int) (b k d : List UInt8) : Int := if namedB b k = false then 12 else if 65536 < d.length then 3 else if b ∉ S.B then 13 else moreE (S.V b k) (kpOf id d)
def St.doPut (S : St) (id : Int) (b k d : List UInt8) : St := if S.putE id b k d = 0 then S.put b k (S.V b k ++ [kpOf id d]) else S
/-- What a call that may put a version leaves: its error, the version, the state. -/
def PutIs (S' : St) (n : Nat) (Q F : Nat → Prop) (g : Nat) (y : Kp) (err : Int) (w : World) (e : Ending) (w' : World) : Prop :=
  e = .returned (.tuple #[verV y, .int .i64 err]) ∧ (∃ F', HasM w' g S' (n + 1) Q F' ∧ ∀ j, F' j → F j ∨ w.heap.size ≤ j) ∧ Moved Q w w'
theorem put_same {S : St} {n : Nat} {Q F : Nat → Prop} {g : Nat} {err : Int} {w w' : World} (hm : HasM w g S n Q F) (hb : Below w.heap.size w w') :
    PutIs S n Q F g kp0 err w (.returned (.tuple #[.agg #[.int .i64 0, .bool false, .int .i64 0, .int .u32 0], .int .i64 err])) w' :=
  ⟨rfl, ⟨F, (hm.below hb).mono (by omega), fun j hj => .inl hj⟩, Moved.of_below hb⟩
theorem HasM.setRow {w : World} {g : Nat} {S : St} {n : Nat} {Q F : Nat → Prop} (h : HasM w g S n Q F) (r : Nat) (cs : Array Value) (hq : ¬ Q r) (hf : ¬ F r) : HasM (w.setRow r cs) g S n Q F :=
  h.kept (fun k hk => setRow_other _ _ _ _ (fun e => hf (by rw [← e]; exact hk))) (fun k hk => setRow_other _ _ _ _ (fun e => hq (by rw [← e]; exact hk)))

set_option maxHeartbeats 1000000 in
set_option maxRecDepth 100000 in
theorem put_is (w : World) (g : Nat) (S : St) (n : Nat) (Q F : Nat → Prop) (id : Int) (b k d : List UInt8) (A : Option Addr) (c : Nat) (hb : b.length ≤ 100000) (hk : k.length ≤ 100000) (hd : d.length ≤ 1000000) (hn : n ≤ 100000) (hm : HasM w g S n Q F)
    (hC : (Kd.int .u8).C w A d.length (byN d)) (hT : Tabs w) :
    Calls Tryz.prog 17 #[.pointer (some ⟨g, 0, none⟩), .int .i64 id, .string (mkS b), .string (mkS k), .slice A d.length c] w
      (PutIs (S.doPut id b k d) n Q F g (if S.putE id b k d = 0 then kpOf id d else kp0) (S.putE id b k d) w) := by
  have HM := Lib.hid hm
  obtain ⟨mb, D, hO⟩ := hm.ex
  obtain ⟨W1, hW1⟩ : ∃ W1, w.alloc (.cells #[.int .i64 0, .bool false, .int .i64 0, .int .u32 0] 38) = W1 := ⟨_, rfl⟩
  have hb1 : Below w.heap.size w W1 := by rw [← hW1]; exact (Below.refl _ _).alloc (Nat.le_refl _) _
  have hbv : W1.heap[w.heap.size]? = some (.cells #[.int .i64 0, .bool false, .int .i64 0, .int .u32 0] 38 (0, 0)) := by rw [← hW1]; exact heap_alloc_new w _
  have hs1 : w.heap.size + 1 = W1.heap.size := by rw [← hW1]; simp
  have hO1 := hO.below hm.q hm.f hb1
  have HO1 := Lib.hid hO1
  have HBV := Lib.hid hbv
  have HB1 := Lib.hid hb1
  have HC := Lib.hid hC
  obtain ⟨nm, hnm⟩ : ∃ nm, namedB b k = nm := ⟨_, rfl⟩
  have hna := named_is W1 g mb b k hb hk (hT.below hb1) hO1.c
  rw [hnm] at hna
  have HNA := Lib.hid hna
  have HNM := Lib.hid hnm
  clear hO hO1 hbv hb1 hC hna hnm hm hT
  obtain ⟨m, hmL⟩ : ∃ m, d.length = m := ⟨_, rfl⟩
  have HML := Lib.hid hmL
  cases nm with
  | false =>
    have hR : S.putE id b k d = 12 := by unfold St.putE; rw [if_pos HNM.out]
    have hS : S.doPut id b k d = S := by unfold St.doPut; rw [hR, if_neg (by decide)]
    rw [hS, hR, if_neg (by decide)]
    clear hR hS hmL
    go_enter Tryz.func17, Tryz.ntmps17
    go_upto_region 1 with (fail)
    clear hW1
    go_wp2_with fail
    refine HNA.out.mono ?_
    rintro e w2 ⟨rfl, hb2⟩
    have HBV2 := Lib.hid (blk_below HBV.out hb2)
    have HB2 := Lib.hid (HB1.out.trans (hb2.mono HB1.out.size))
    clear hb2
    simp only [Bool.false_eq_true, if_false]
    go_wp2_with (refine wpList_store_row rfl 38 (.tmp 10) (.tmp 19) rfl w.heap.size #[.int .i64 0, .bool false, .int .i64 0, .int .u32 0] rfl rfl 38 _ HBV2.out (by kernel_rfl) rfl (by simp [Value.oneCell']) ?_)
    refine bodyPost_ret (results_ct rfl _ _ w.heap.size 38 #[.int .i64 0, .bool false, .int .i64 0, .int .u32 0] (0, 0) _ rfl (setRow_heap _ _ _ _ _ _ HBV2.out) Tryz.underlying38 rfl (by kernel_rfl)) rfl ?_
    exact put_same HM.out (below_setRow HB2.out (Nat.le_refl _) _)
  | true =>
    have hE : S.putE id b k d = if 65536 < d.length then 3 else if b ∉ S.B then 13 else moreE (S.V b k) (kpOf id d) := by unfold St.putE; rw [if_neg (by rw [HNM.out]; simp)]
    by_cases h6 : 65536 < m
    · have hR : S.putE id b k d = 3 := by rw [hE, if_pos (by rw [hmL]; exact h6)]
      have hS : S.doPut id b k d = S := by unfold St.doPut; rw [hR, if_neg (by decide)]
      rw [hS, hR, if_neg (by decide), hmL]
      have d6 : decide ((65536 : Int) < (m : Int)) = true := decide_eq_true (by omega)
      clear hR hS hmL hE h6
      go_enter Tryz.func17, Tryz.ntmps17
      go_upto_region 1 with (fail)
      clear hW1
      go_wp2_with fail
      refine HNA.out.mono ?_
      rintro e w2 ⟨rfl, hb2⟩
      have HBV2 := Lib.hid (blk_below HBV.out hb2)
      have HB2 := Lib.hid (HB1.out.trans (hb2.mono HB1.out.size))
      clear hb2
      simp only [if_true]
      go_wp2_with (refine wpList_store_row rfl 38 (.tmp 10) (.tmp 24) rfl w.heap.size #[.int .i64 0, .bool false, .int .i64 0, .int .u32 0] rfl rfl 38 _ HBV2.out (by kernel_rfl) rfl (by simp [Value.oneCell']) ?_)
      refine bodyPost_ret (results_ct rfl _ _ w.heap.size 38 #[.int .i64 0, .bool false, .int .i64 0, .int .u32 0] (0, 0) _ rfl (setRow_heap _ _ _ _ _ _ HBV2.out) Tryz.underlying38 rfl (by kernel_rfl)) rfl ?_
      exact put_same HM.out (below_setRow HB2.out (Nat.le_refl _) _)
    · rw [if_neg (by rw [hmL]; exact h6)] at hE
      have d6 : decide ((65536 : Int) < (m : Int)) = false := decide_eq_false (by omega)
      have hqe := fun (w : World) (r : Option Nat) => run_eql_map_nil (P := Tryz.prog) w 63 _ _ r Tryz.underlying63
      clear h6
      by_cases hB : b ∈ S.B
      rotate_left
      · have hR : S.putE id b k d = 13 := by rw [hE, if_pos hB]
        have hS : S.doPut id b k d = S := by unfold St.doPut; rw [hR, if_neg (by decide)]
        rw [hS, hR, if_neg (by decide), hmL]
        have HNB := Lib.hid hB
        clear hR hS hmL hE hB
        go_enter Tryz.func17, Tryz.ntmps17
        go_upto_region 1 with (fail)
        clear hW1
        go_wp2_with fail
        refine HNA.out.mono ?_
        rintro e w2 ⟨rfl, hb2⟩
        have HBV2 := Lib.hid (blk_below HBV.out hb2)
        have HB2 := Lib.hid (HB1.out.trans (hb2.mono HB1.out.size))
        have hO2 := HO1.out.below (HM.out.below HB1.out).q (HM.out.below HB1.out).f hb2
        have c0 := (blk_cell hO2.c 0).trans (rfl : _ = some (Value.map (some mb)))
        rcases look1 hO2 b (by unfold maxLen; omega) with ⟨_, hrun⟩ | ⟨h, _⟩
        rotate_left
        · exact absurd h HNB.out
        clear hb2 hO2
        simp only [if_true]
        go_wp2_with (refine wpList_store_row rfl 38 (.tmp 10) (.tmp 32) rfl w.heap.size #[.int .i64 0, .bool false, .int .i64 0, .int .u32 0] rfl rfl 38 _ HBV2.out (by kernel_rfl) rfl (by simp [Value.oneCell']) ?_)
        refine bodyPost_ret (results_ct rfl _ _ w.heap.size 38 #[.int .i64 0, .bool false, .int .i64 0, .int .u32 0] (0, 0) _ rfl (setRow_heap _ _ _ _ _ _ HBV2.out) Tryz.underlying38 rfl (by kernel_rfl)) rfl ?_
        exact put_same HM.out (below_setRow HB2.out (Nat.le_refl _) _)
      · have hE2 : S.putE id b k d = moreE (S.V b k) (kpOf id d) := by rw [hE, if_neg (fun h => h hB)]
        have hS : S.doPut id b k d = S.more b k (kpOf id d) := by unfold St.doPut St.more; rw [hE2]
        rw [hS, hE2]
        have HMo : Hid (∀ W A' c' Fb Q F, HasM W g S n Q F → d.length ≤ c' → DatF W Fb A' d → (∀ j, Fb j → IsC W j) → Calls Tryz.prog 51 #[.pointer (some ⟨g, 0, none⟩), .string (mkS b), .string (mkS k), .agg #[.int .i64 id, .bool false, .int .i64 (m : Int), .int .u32 (sumC d), .slice A' m c']] W (MoreIs S n Q F Fb g b k (kpOf id d) W)) := fun W A' c' Fb Q F hm hc hx hf => by
          subst hmL
          exact more_is W g S n Q F Fb b k (kpOf id d) A' c' hb hk hn hm hB hc hx hf
        have HSu : Hid (∀ W, (Kd.int .u8).C W A d.length (byN d) → Calls Tryz.prog 52 #[.slice A m c] W fun e w' => e = .returned (.int .u32 (sumC d)) ∧ W = w') := fun W h => by
          subst hmL
          exact sum_is d A c W hd h
        have HCl : Hid (∀ W, (Kd.int .u8).C W A d.length (byN d) → Calls Tryz.prog 53 #[.slice A m c] W fun e w' => (∃ A' c', e = .returned (.slice A' m c') ∧ d.length ≤ c' ∧ ∃ Fb, DatF w' Fb A' d ∧ ∀ k, Fb k → IsC w' k ∧ W.heap.size ≤ k) ∧ Below W.heap.size W w') := fun W h => by
          subst hmL
          exact bclone_is W A c d hd h
        obtain ⟨er, her⟩ : ∃ er, moreE (S.V b k) (kpOf id d) = er := ⟨_, rfl⟩
        obtain ⟨y, hy⟩ : ∃ y, (if moreE (S.V b k) (kpOf id d) = 0 then kpOf id d else kp0) = y := ⟨_, rfl⟩
        rw [hy, her, hmL]
        have HE := Lib.hid (And.intro hy her)
        have HBB := Lib.hid hB
        clear hE hE2 hS hmL hy her hB
        go_enter Tryz.func17, Tryz.ntmps17
        go_upto_region 1 with (fail)
        clear hW1
        go_wp2_with fail
        refine HNA.out.mono ?_
        rintro e w2 ⟨rfl, hb2⟩
        have HBV2 := Lib.hid (blk_below HBV.out hb2)
        have HB2 := Lib.hid (HB1.out.trans (hb2.mono HB1.out.size))
        have hs2 : w.heap.size + 1 ≤ w2.heap.size := by have := hb2.size; omega
        have hO2 := HO1.out.below (HM.out.below HB1.out).q (HM.out.below HB1.out).f hb2
        have c0 := (blk_cell hO2.c 0).trans (rfl : _ = some (Value.map (some mb)))
        rcases look1 hO2 b (by unfold maxLen; omega) with ⟨h, _⟩ | ⟨_, ib, _, _, _, _, hrun⟩
        · exact absurd HBB.out h
        clear hb2 hO2
        simp only [if_true]
        go_wp2_with fail
        refine (HSu.out _ (Kd.C_below HC.out HB2.out)).mono ?_
        rintro e w' ⟨rfl, rfl⟩
        go_wp2_with fail
        refine (HCl.out _ (Kd.C_below HC.out HB2.out)).mono ?_
        rintro e w3 ⟨⟨A', c', rfl, hc', Fb, hdf, hfb⟩, hb3⟩
        have HBV3 := Lib.hid (blk_below HBV2.out hb3)
        have HB3 := Lib.hid (HB2.out.trans (hb3.mono HB2.out.size))
        have hs3 : w.heap.size + 1 ≤ w3.heap.size := by have := hb3.size; omega
        have HFB := Lib.hid hfb
        have HDF := Lib.hid hdf
        clear hb3 hfb hdf
        go_wp2_with fail
        refine (HMo.out _ _ _ Fb Q F (HM.out.below HB3.out) hc' HDF.out (fun j hj => (HFB.out j hj).1)).mono ?_
        rintro e w4 ⟨rfl, ⟨F4, hm4, hf4⟩, hmv⟩
        rw [HE.out.1, HE.out.2]
        have hr : w.heap.size < w3.heap.size := by omega
        have hq4 : ¬ Q w.heap.size := fun h => by have := isM_lt (HM.out.q _ h); omega
        have hbv4 := (hmv.block w.heap.size hr hq4).trans HBV3.out
        have HBV4 := Lib.hid hbv4
        have HFin := Lib.hid (And.intro hm4 (And.intro hf4 (And.intro hmv hq4)))
        clear hm4 hf4 hmv hbv4 hq4
        unfold verV
        go_wp2_with (refine wpList_store_row rfl 38 (.tmp 10) (.tmp 46) rfl w.heap.size #[.int .i64 y.id, .bool y.mark, .int .i64 y.sz, .int .u32 y.sum] rfl rfl 38 _ HBV4.out (by kernel_rfl) rfl (by simp [Value.oneCell']) ?_)
        refine bodyPost_ret (results_ct rfl _ _ w.heap.size 38 #[.int .i64 y.id, .bool y.mark, .int .i64 y.sz, .int .u32 y.sum] (0, 0) _ rfl (setRow_heap _ _ _ _ _ _ HBV4.out) Tryz.underlying38 rfl (by kernel_rfl)) rfl ?_
        have hF4 : ∀ j, F4 j → F j ∨ w.heap.size + 1 ≤ j := fun j hj => by
          rcases HFin.out.2.1 j hj with h | h | h
          · exact .inl h
          · exact .inr (by have := (HFB.out j h).2; omega)
          · exact .inr (by omega)
        refine ⟨rfl, ⟨F4, HFin.out.1.setRow _ _ HFin.out.2.2.2 (fun h => ?_), fun j hj => (hF4 j hj).imp (fun h => h) (fun h => by omega)⟩, ?_⟩
        · rcases hF4 _ h with h | h
          · have := isC_lt (HM.out.f _ h); omega
          · omega
        · exact ((Moved.of_below HB3.out).trans HFin.out.2.2.1 (fun i hi => .inl hi)).setRow _ (Nat.le_refl _) _
end Go.Proofs.YtjbjcfnbgcloiaaGreatDoor
