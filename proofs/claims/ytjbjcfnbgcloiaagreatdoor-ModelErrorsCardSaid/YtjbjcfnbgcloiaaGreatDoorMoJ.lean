/- Delete of package model. -/
import Derived.Test.YtjbjcfnbgcloiaaGreatDoorMoI
namespace Go.Proofs.YtjbjcfnbgcloiaaGreatDoor
open Go.RowKit Nam YtjbjcfnbgcloiaaGreatDoorW.PrintWords

def kpDel (id : Int) : Kp := ⟨id, true, 0, 0, []⟩
def St.delE (S : St) (id : Int) (b k : List UInt8) : Int := if S.findE b k 0 0 ≠ 0 then S.findE b k 0 0 else moreE (S.V b k) (kpDel id)
def St.doDel (S : St) (id : Int) (b k : List UInt8) : St := if S.delE id b k = 0 then S.put b k (S.V b k ++ [kpDel id]) else S
theorem find_in {S : St} {b k : List UInt8} {id least : Int} (h : S.findE b k id least = 0) : b ∈ S.B ∧ S.V b k ≠ [] ∧ namedB b k = true := by
  unfold St.findE at h
  refine ⟨?_, ?_, ?_⟩
  all_goals (first | refine Classical.byContradiction (fun hn => ?_) | skip)
  · by_cases h1 : namedB b k = false
    · rw [if_pos h1] at h; cases h
    · rw [if_neg h1] at h
      by_cases h2 : id < least
      · rw [if_pos h2] at h; cases h
      · rw [if_neg h2, if_pos hn] at h; cases h
  · have hn := Classical.not_not.1 hn
    by_cases h1 : namedB b k = false
    · rw [if_pos h1] at h; cases h
    · rw [if_neg h1] at h
      by_cases h2 : id < least
      · rw [if_pos h2] at h; cases h
      · rw [if_neg h2] at h
        by_cases h3 : b ∉ S.B
        · rw [if_pos h3] at h; cases h
        · rw [if_neg h3, if_pos hn] at h; cases h
  · by_cases h1 : namedB b k = false
    · rw [if_pos h1] at h; cases h
    · exact hn (by simpa using h1)
/-- A box laid, and a row stored in it. -/
theorem boxed {w w3 W4 : World} {cs0 cs : Array Value} {t : TypeId} (hb : Below w.heap.size w w3) (hW : (w3.alloc (.cells cs0 t)).setRow w3.heap.size cs = W4) : Below w.heap.size w W4 ∧ Below w3.heap.size w3 W4 := by
  subst hW
  exact ⟨below_setRow (hb.alloc hb.size _) hb.size _, below_setRow ((Below.refl _ _).alloc (Nat.le_refl _) _) (Nat.le_refl _) _⟩

set_option maxHeartbeats 2000000 in
set_option maxRecDepth 100000 in
theorem delete_is (w : World) (g : Nat) (S : St) (n : Nat) (Q F : Nat → Prop) (id : Int) (b k : List UInt8) (hb : b.length ≤ 100000) (hk : k.length ≤ 100000) (hl : (S.V b k).length ≤ 100000) (hn : n ≤ 100000) (hm : HasM w g S n Q F) (hT : Tabs w) :
    Calls Tryz.prog 34 #[.pointer (some ⟨g, 0, none⟩), .int .i64 id, .string (mkS b), .string (mkS k)] w
      (PutIs (S.doDel id b k) n Q F g (if S.delE id b k = 0 then kpDel id else kp0) (S.delE id b k) w) := by
  have HM := Lib.hid hm
  obtain ⟨W1, hW1⟩ : ∃ W1, w.alloc (.cells #[.int .i64 0, .bool false, .int .i64 0, .int .u32 0] 38) = W1 := ⟨_, rfl⟩
  have hb1 : Below w.heap.size w W1 := by rw [← hW1]; exact (Below.refl _ _).alloc (Nat.le_refl _) _
  have hbv : W1.heap[w.heap.size]? = some (.cells #[.int .i64 0, .bool false, .int .i64 0, .int .u32 0] 38 (0, 0)) := by rw [← hW1]; exact heap_alloc_new w _
  have hs1 : w.heap.size + 1 = W1.heap.size := by rw [← hW1]; simp
  have hfe := find_is W1 g S n Q F b k 0 0 hb hk hl (hm.below hb1) (hT.below hb1)
  have HW4 : Hid (∀ (w3 W4 : World) (cs : Array Value), Below W1.heap.size W1 w3 → (w3.alloc (.cells #[.int .i64 0, .bool false, .int .i64 0, .int .u32 0, .slice none 0 0] 67)).setRow w3.heap.size cs = W4 → Hid (W4.heap[w.heap.size]? = some (.cells #[.int .i64 0, .bool false, .int .i64 0, .int .u32 0] 38 (0, 0))) ∧ Hid (Below w.heap.size w W4) ∧ Hid (HasM W4 g S n Q F) ∧ Hid (w.heap.size < W4.heap.size)) := fun w3 W4 cs h3 h4 => by
    have h03 : Below w.heap.size w w3 := hb1.trans (h3.mono (by omega))
    obtain ⟨h5, h6⟩ := boxed h03 h4
    exact ⟨blk_below (blk_below hbv h3) h6, h5, hm.below h5, by show _ < _; have := h3.size; have := h6.size; omega⟩
  have HW4b : Hid (∀ (w3 W4 : World) (cs : Array Value), Below W1.heap.size W1 w3 → w3.alloc (.cells cs 67) = W4 → Hid (W4.heap[w.heap.size]? = some (.cells #[.int .i64 0, .bool false, .int .i64 0, .int .u32 0] 38 (0, 0))) ∧ Hid (Below w.heap.size w W4) ∧ Hid (HasM W4 g S n Q F) ∧ Hid (w.heap.size < W4.heap.size)) := fun w3 W4 cs h3 h4 => by
    have h03 : Below w.heap.size w w3 := hb1.trans (h3.mono (by omega))
    subst h4
    have h5 := h03.alloc h03.size (.cells cs 67)
    have h6 := (Below.refl w3.heap.size w3).alloc (Nat.le_refl _) (.cells cs 67)
    exact ⟨blk_below (blk_below hbv h3) h6, h5, hm.below h5, by show _ < _; have := h3.size; have := h6.size; omega⟩
  have HB5 : Hid (∀ (W4 w5 : World), W4.heap[w.heap.size]? = some (.cells #[.int .i64 0, .bool false, .int .i64 0, .int .u32 0] 38 (0, 0)) → Below w.heap.size w W4 → Moved Q W4 w5 → Hid (w5.heap[w.heap.size]? = some (.cells #[.int .i64 0, .bool false, .int .i64 0, .int .u32 0] 38 (0, 0)))) := fun W4 w5 h1 h2 h3 =>
    (h3.block w.heap.size (by have := isC_lt ⟨_, _, _, h1⟩; exact this) (fun h => by have := isM_lt (hm.q _ h); omega)).trans h1
  clear hbv hb1 hm hT
  by_cases hf : S.findE b k 0 0 = 0
  rotate_left
  · have hR : S.delE id b k = S.findE b k 0 0 := by unfold St.delE; rw [if_pos hf]
    obtain ⟨er, her⟩ : ∃ er, S.findE b k 0 0 = er := ⟨_, rfl⟩
    rw [her] at hR hf
    have hS : S.doDel id b k = S := by unfold St.doDel; rw [hR, if_neg hf]
    rw [hS, hR, if_neg hf]
    have HFE : Hid (Calls Tryz.prog 55 #[.pointer (some ⟨g, 0, none⟩), .string (mkS b), .string (mkS k), .int .i64 0, .int .i64 0] W1 fun e w' => e = .returned (.tuple #[.agg #[.int .i64 0, .bool false, .int .i64 0, .int .u32 0, .slice none 0 0], .int .i64 0, .int .i64 er]) ∧ Below W1.heap.size W1 w') := hfe.mono fun e w' h => by
      refine ⟨?_, h.2⟩
      rcases h.1 with ⟨_, he⟩ | ⟨h0, _⟩
      · rw [he, her]
      · exact absurd (her.symm.trans h0) hf
    have de : (er == 0) = false := by simp [hf]
    have HR := Lib.hid hR
    clear hfe hR hS her
    go_enter Tryz.func34, Tryz.ntmps34
    go_upto_region 1 with (fail)
    clear hW1
    go_wp2_with (first | (go_at_call 55; refine HFE.out.mono ?_; rintro e w3 ⟨rfl, hb3⟩; have hb3 := hb3; obtain ⟨W4, hW4⟩ : ∃ W4, (w3.alloc (.cells #[.int .i64 0, .bool false, .int .i64 0, .int .u32 0, .slice none 0 0] 67)).setRow w3.heap.size #[.int .i64 0, .bool false, .int .i64 0, .int .u32 0, .slice none 0 0] = W4 := ⟨_, rfl⟩; obtain ⟨HBV4, HB4, HS4, HBD4⟩ := HW4.out w3 W4 #[.int .i64 0, .bool false, .int .i64 0, .int .u32 0, .slice none 0 0] hb3 hW4; clear hb3) | (refine wpList_store_row rfl 67 (.tmp 10) (.tmp 18) rfl w3.heap.size #[.int .i64 0, .bool false, .int .i64 0, .int .u32 0, .slice none 0 0] rfl rfl 67 _ (heap_alloc_new w3 _) (by kernel_rfl) rfl (by simp [Value.oneCell']) ?_; rw [hW4]; clear hW4) | (refine (HMo.out _ HS4.out).mono ?_; rintro e w5 ⟨rfl, ⟨F5, hm5, hf5⟩, hmv⟩; have HFin := Lib.hid (And.intro hm5 (And.intro hf5 hmv)); have HBV5 := HB5.out _ _ HBV4.out HB4.out HFin.out.2.2; clear hm5 hf5 hmv; rw [HE.out.1, HE.out.2]; unfold verV) | (refine wpList_store_row rfl 38 (.tmp 8) (.tmp 23) rfl w.heap.size #[.int .i64 0, .bool false, .int .i64 0, .int .u32 0] rfl rfl 38 _ HBV4.out (by kernel_rfl) rfl (by simp [Value.oneCell']) ?_))
    refine bodyPost_ret (results_ct rfl _ _ w.heap.size 38 #[.int .i64 0, .bool false, .int .i64 0, .int .u32 0] (0, 0) _ rfl (setRow_heap _ _ _ _ _ _ HBV4.out) Tryz.underlying38 rfl (by kernel_rfl)) rfl ?_
    exact put_same HM.out (below_setRow HB4.out (Nat.le_refl _) _)
  · have hR : S.delE id b k = moreE (S.V b k) (kpDel id) := by unfold St.delE; rw [if_neg (fun h => h hf)]
    have hS : S.doDel id b k = S.more b k (kpDel id) := by unfold St.doDel St.more; rw [hR]
    rw [hS, hR]
    have hB := (find_in hf).1
    have HFE : Hid (Calls Tryz.prog 55 #[.pointer (some ⟨g, 0, none⟩), .string (mkS b), .string (mkS k), .int .i64 0, .int .i64 0] W1 fun e w' => (∃ (y : Kp) (A : Option Addr) (c i : Nat), e = .returned (.tuple #[.agg #[.int .i64 y.id, .bool y.mark, .int .i64 y.sz, .int .u32 y.sum, .slice A y.dt.length c], .int .i64 (i : Int), .int .i64 0])) ∧ Below W1.heap.size W1 w') := hfe.mono fun e w' h => by
      refine ⟨?_, h.2⟩
      rcases h.1 with ⟨h0, _⟩ | ⟨_, i, y, A, c, _, _, _, _, _, he⟩
      · exact absurd hf h0
      · exact ⟨y, A, c, i, he⟩
    have HMo : Hid (∀ W, HasM W g S n Q F → Calls Tryz.prog 51 #[.pointer (some ⟨g, 0, none⟩), .string (mkS b), .string (mkS k), .agg #[.int .i64 id, .bool true, .int .i64 0, .int .u32 0, .slice none 0 0]] W (MoreIs S n Q F (fun _ => False) g b k (kpDel id) W)) := fun W hm =>
      more_is W g S n Q F (fun _ => False) b k (kpDel id) none 0 hb hk hn hm hB (Nat.le_refl _) (fun _ _ => Kd.C_nil _ _) (fun j hj => hj.elim)
    obtain ⟨er, her⟩ : ∃ er, moreE (S.V b k) (kpDel id) = er := ⟨_, rfl⟩
    obtain ⟨z, hz⟩ : ∃ z, (if moreE (S.V b k) (kpDel id) = 0 then kpDel id else kp0) = z := ⟨_, rfl⟩
    rw [hz, her]
    have HE := Lib.hid (And.intro hz her)
    clear hfe hR hS her hz hB hf
    go_enter Tryz.func34, Tryz.ntmps34
    go_upto_region 1 with (fail)
    clear hW1
    go_wp2_with (first | (go_at_call 55; refine HFE.out.mono ?_; rintro e w3 ⟨⟨y, A, c, i, rfl⟩, hb3⟩; have hb3 := hb3; obtain ⟨W4, hW4⟩ : ∃ W4, w3.alloc (.cells #[.int .i64 y.id, .bool y.mark, .int .i64 y.sz, .int .u32 y.sum, .slice A y.dt.length c] 67) = W4 := ⟨_, rfl⟩; obtain ⟨HBV4, HB4, HS4, HBD4⟩ := HW4b.out w3 W4 #[.int .i64 y.id, .bool y.mark, .int .i64 y.sz, .int .u32 y.sum, .slice A y.dt.length c] hb3 hW4; clear hb3) | (refine wpList_store_row rfl 67 (.tmp 10) (.tmp 18) rfl w3.heap.size #[.int .i64 0, .bool false, .int .i64 0, .int .u32 0, .slice none 0 0] rfl rfl 67 _ (heap_alloc_new w3 _) (by kernel_rfl) rfl (by simp [Value.oneCell']) ?_; rw [hW4]; clear hW4) | (refine (HMo.out _ HS4.out).mono ?_; rintro e w5 ⟨rfl, ⟨F5, hm5, hf5⟩, hmv⟩; have HFin := Lib.hid (And.intro hm5 (And.intro hf5 hmv)); have HBV5 := HB5.out _ _ HBV4.out HB4.out HFin.out.2.2; clear hm5 hf5 hmv; rw [HE.out.1, HE.out.2]; unfold verV) | (refine wpList_store_row rfl 38 (.tmp 8) (.tmp 32) rfl w.heap.size #[.int .i64 z.id, .bool z.mark, .int .i64 z.sz, .int .u32 z.sum] rfl rfl 38 _ HBV5.out (by kernel_rfl) rfl (by simp [Value.oneCell']) ?_))
    refine bodyPost_ret (results_ct rfl _ _ w.heap.size 38 #[.int .i64 z.id, .bool z.mark, .int .i64 z.sz, .int .u32 z.sum] (0, 0) _ rfl (setRow_heap _ _ _ _ _ _ HBV5.out) Tryz.underlying38 rfl (by kernel_rfl)) rfl ?_
    have hF5 : ∀ j, F5 j → F j ∨ w.heap.size < j := fun j hj => by
      rcases HFin.out.2.1 j hj with h | h | h
      · exact .inl h
      · exact h.elim
      · exact .inr (by have := HBD4.out; omega)
    refine ⟨rfl, ⟨F5, HFin.out.1.setRow _ _ (fun h => ?_) (fun h => ?_), fun j hj => (hF5 j hj).imp (fun h => h) (fun h => by omega)⟩, ?_⟩
    · have := isM_lt (HM.out.q _ h); omega
    · rcases hF5 _ h with h | h
      · have := isC_lt (HM.out.f _ h); omega
      · omega
    · exact ((Moved.of_below HB4.out).trans HFin.out.2.2 (fun i hi => .inl hi)).setRow _ (Nat.le_refl _) _
end Go.Proofs.YtjbjcfnbgcloiaaGreatDoor
