/- Entries as six cells; their order (keys, then the greater id first); what the comparing function of page.Sort answers. -/
import Derived.Test.YtgaejaadjmcckaaSrtT
import Derived.StillTailTactics
import Derived.Test.YtgaejaadjmcckaaNamP
namespace Go.Proofs.Ytgaejaadjmcckaa
open Go.Shelf Go.RowKit Go.Lib Go.Sort Srt

/-- An entry. -/
structure Ent where
  key : ByteArray
  id : Int
  mark : Bool
  size : Int
  sum : Int
  latest : Bool
deriving Inhabited, DecidableEq

def encE (e : Ent) : List Value := [.string e.key, .int .i64 e.id, .bool e.mark, .int .i64 e.size, .int .u32 e.sum, .bool e.latest]

theorem encE_length (e : Ent) : (encE e).length = 6 := rfl
theorem encE_one (e : Ent) : ∀ v ∈ encE e, v.oneCell' = true := by
  intro v hv
  simp only [encE, List.mem_cons, List.not_mem_nil, or_false] at hv
  rcases hv with rfl | rfl | rfl | rfl | rfl | rfl <;> rfl

theorem less_swap (a b : List UInt8) : (!Op.bytesLess a b && !(a == b)) = Op.bytesLess b a := by
  cases h : Op.bytesLess a b
  · by_cases e : a = b
    · subst e; simp [h]
    · cases h2 : Op.bytesLess b a
      · exact absurd (Nam.less_total a b h h2) e
      · simp [e]
  · rw [Nam.less_asymm a b h]; rfl

def cmpS (a b : ByteArray) : Int := if Op.bytesLess a.toList b.toList then -1 else if Op.bytesLess b.toList a.toList then 1 else 0
def cmpI (a b : Int) : Int := if a < b then -1 else if b < a then 1 else 0
def cfE (x y : Ent) : Int := if cmpS x.key y.key ≠ 0 then cmpS x.key y.key else cmpI y.id x.id

set_option maxHeartbeats 1000000 in
theorem nanS_is (a : ByteArray) (w : World) : Calls Try.prog 35 #[.string a] w fun e w' => e = .returned (.bool false) ∧ w = w' := by
  go_enter Try.func35, Try.ntmps35
  go_wp2
  go_ret
  exact ⟨congrArg (fun x => Ending.returned (Value.bool x)) (by simp), rfl⟩
set_option maxHeartbeats 1000000 in
theorem nanI_is (a : Int) (w : World) : Calls Try.prog 36 #[.int .i64 a] w fun e w' => e = .returned (.bool false) ∧ w = w' := by
  go_enter Try.func36, Try.ntmps36
  go_wp2
  go_ret
  exact ⟨congrArg (fun x => Ending.returned (Value.bool x)) (by simp), rfl⟩

set_option maxHeartbeats 1000000 in
theorem cmpS_is (a b : ByteArray) (w : World) : Calls Try.prog 27 #[.string a, .string b] w fun e w' => e = .returned (.int .i64 (cmpS a b)) ∧ w = w' := by
  unfold cmpS
  have hgt : ∀ (t : TypeId) (W : World), (binOp .gtr t (.string a) (.string b)).run Try.prog W = .ok (.bool (Op.bytesLess b.toList a.toList)) W := fun t W => by
    rw [← less_swap]
    simp [binOp, Op.stringOp]
  cases h1 : Op.bytesLess a.toList b.toList <;> cases h2 : Op.bytesLess b.toList a.toList
  all_goals
    go_enter Try.func27, Try.ntmps27
    go_wp2_with (first | (go_at_call_of 35 (Value.string a); refine (nanS_is _ _).mono ?_; rintro e w' ⟨rfl, rfl⟩) | (go_at_call 35; refine (nanS_is _ _).mono ?_; rintro e w' ⟨rfl, rfl⟩))
    go_ret
    exact ⟨rfl, rfl⟩

set_option maxHeartbeats 1000000 in
theorem cmpI_is (a b : Int) (w : World) : Calls Try.prog 28 #[.int .i64 a, .int .i64 b] w fun e w' => e = .returned (.int .i64 (cmpI a b)) ∧ w = w' := by
  unfold cmpI
  by_cases h1 : a < b <;> by_cases h2 : b < a
  all_goals (try (exfalso; omega))
  all_goals
    simp only [h1, h2, if_true, if_false]
    go_enter Try.func28, Try.ntmps28
    go_wp2_with (first | (go_at_call 36; refine (nanI_is _ _).mono ?_; rintro e w' ⟨rfl, rfl⟩))
    go_ret
    exact ⟨rfl, rfl⟩

set_option maxHeartbeats 1000000 in
theorem or_is (g c : Nat) (x y : Int) (w : World) (h0 : w.cell? ⟨g, 0, none⟩ = some (.int .i64 x)) (h1 : w.cell? ⟨g, 1, none⟩ = some (.int .i64 y)) :
    Calls Try.prog 26 #[.slice (some ⟨g, 0, none⟩) 2 c] w fun e w' => e = .returned (.int .i64 (if x ≠ 0 then x else y)) ∧ w = w' := by
  by_cases hx : x = 0
  · have bx : (x != 0) = false := by simp [hx]
    rw [if_neg (by simp [hx])]
    by_cases hy : y = 0
    · have by' : (y != 0) = false := by simp [hy]
      have HX := Lib.hid hx; clear hx
      have HY := Lib.hid hy; clear hy
      go_enter Try.func26, Try.ntmps26
      go_wp2_with fail
      refine wp_loop_rounds 3 ?_
      rw [rounds_succ]
      go_wp2_with fail
      rw [rounds_succ]
      go_wp2_with fail
      rw [rounds_succ]
      go_wp2
      go_ret
      exact ⟨congrArg (fun x => Ending.returned (Value.int .i64 x)) HY.out.symm, rfl⟩
    · have by' : (y != 0) = true := by simp [hy]
      have HX := Lib.hid hx; clear hx
      go_enter Try.func26, Try.ntmps26
      go_wp2_with fail
      refine wp_loop_rounds 2 ?_
      rw [rounds_succ]
      go_wp2_with fail
      rw [rounds_succ]
      go_wp2
      go_ret
      exact ⟨rfl, rfl⟩
  · have bx : (x != 0) = true := by simp [hx]
    rw [if_pos hx]
    go_enter Try.func26, Try.ntmps26
    go_wp2_with fail
    refine wp_loop_rounds 1 ?_
    rw [rounds_succ]
    go_wp2
    go_ret
    exact ⟨rfl, rfl⟩

theorem three_grown (w : World) (A B C : Obj) : ((w.alloc A).alloc B).drew.alloc C = grow (w.drewN 1) #[A, B, C] := by
  rw [alloc_eq_grow, alloc_eq_grow, alloc_eq_grow, drew_grow, drew_grow, grow_grow, grow_grow]
  rfl

set_option maxHeartbeats 2000000 in
theorem cmpE_is (x y : Ent) (w : World) : Calls Try.prog 25 #[.agg (encE x).toArray, .agg (encE y).toArray] w fun e w' => e = .returned (.int .i64 (cfE x y)) ∧ ∃ q os, w' = grow (w.drewN q) os := by
  obtain ⟨k1, i1, m1, s1, u1, l1⟩ := x
  obtain ⟨k2, i2, m2, s2, u2, l2⟩ := y
  unfold encE cfE
  obtain ⟨cs, hcs⟩ : ∃ c, cmpS k1 k2 = c := ⟨_, rfl⟩
  obtain ⟨ci, hci⟩ : ∃ c, cmpI i2 i1 = c := ⟨_, rfl⟩
  have c1 : ∀ W : World, Calls Try.prog 27 #[.string k1, .string k2] W fun e w' => e = .returned (.int .i64 cs) ∧ W = w' := fun W => by rw [← hcs]; exact cmpS_is k1 k2 W
  have c2 : ∀ W : World, Calls Try.prog 28 #[.int .i64 i2, .int .i64 i1] W fun e w' => e = .returned (.int .i64 ci) ∧ W = w' := fun W => by rw [← hci]; exact cmpI_is i2 i1 W
  simp only [hcs, hci]
  have C1 := Lib.hid c1; clear c1
  have C2 := Lib.hid c2; clear c2
  clear hcs hci
  obtain ⟨r, hr⟩ : ∃ r, (if cs ≠ 0 then cs else ci) = r := ⟨_, rfl⟩
  have CO : Hid (∀ W2 : World, Calls Try.prog 26 #[.slice (some ⟨W2.heap.size, 0, none⟩) 2 2] (W2.alloc (.cells #[.int .i64 cs, .int .i64 ci] 3)) fun e w' => e = .returned (.int .i64 r) ∧ W2.alloc (.cells #[.int .i64 cs, .int .i64 ci] 3) = w') := by
    intro W2
    rw [← hr]
    exact or_is _ 2 cs ci _ (by simp) (by simp)
  rw [hr]
  clear hr
  go_enter Try.func25, Try.ntmps25
  go_wp2_with fail
  refine wp_region_still_tail 12 (by kernel_rfl) (by kernel_rfl) ?_
  change wpStill _ _ (World.drew _) (fun a' => wpList _ _ _ _ a' (World.drew _)) _ _
  generalize hW : World.drew _ = W2
  have c00 : W2.cell? ⟨w.heap.size, 0, none⟩ = some (.string k1) := by rw [← hW]; simp
  have c01 : W2.cell? ⟨w.heap.size, 1, none⟩ = some (.int .i64 i1) := by rw [← hW]; simp
  have c10 : W2.cell? ⟨w.heap.size + 1, 0, none⟩ = some (.string k2) := by rw [← hW]; simp
  have c11 : W2.cell? ⟨w.heap.size + 1, 1, none⟩ = some (.int .i64 i2) := by rw [← hW]; simp
  have HW := Lib.hid hW; clear hW
  simp only [List.take_succ_cons, List.take_zero, List.drop_succ_cons, List.drop_zero]
  iterate 4 still_step
  still_call ((C1.out _).mono (fun e w' ⟨h1, h2⟩ => ⟨h1, h2.symm⟩))
  iterate 6 still_step
  still_call ((C2.out _).mono (fun e w' ⟨h1, h2⟩ => ⟨h1, h2.symm⟩))
  refine wpStill_nil ?_
  go_wp2_with (go_at_call 26; refine (CO.out _).mono ?_; rintro e w' ⟨rfl, rfl⟩)
  go_ret
  obtain ⟨A, B, hA⟩ : ∃ A B, W2 = ((w.alloc A).alloc B).drew := ⟨_, _, HW.out.symm⟩
  have e := three_grown w A B (.cells #[.int .i64 cs, .int .i64 ci] 3)
  rw [← hA] at e
  exact ⟨rfl, 1, _, e⟩

/-- .. so page.Sort's comparing function does what the sort asks of it. -/
theorem cmpE_lays (blk off size : Nat) (w : World) : CmpLays Try.prog 25 #[] encE 6 cfE blk off size w := fun _ _ _ _ x y => cmpE_is x y _

/-! ### the order -/
theorem cmpS_neg (a b : ByteArray) : cmpS a b < 0 ↔ Op.bytesLess a.toList b.toList = true := by
  unfold cmpS
  cases Op.bytesLess a.toList b.toList <;> cases Op.bytesLess b.toList a.toList <;> simp
theorem cmpS_zero (a b : ByteArray) : cmpS a b = 0 ↔ a = b := by
  unfold cmpS
  constructor
  · intro h
    cases h1 : Op.bytesLess a.toList b.toList
    · cases h2 : Op.bytesLess b.toList a.toList
      · have := Nam.less_total _ _ h1 h2
        apply ByteArray.ext
        apply Array.toList_inj.1
        rw [← ByteArray.toList_eq, ← ByteArray.toList_eq, this]
      · rw [h1, h2] at h; simp at h
    · rw [h1] at h; simp at h
  · rintro rfl
    rw [Nam.less_irrefl]; rfl

theorem ltE_iff (x y : Ent) : ltOf cfE x y = true ↔ Op.bytesLess x.key.toList y.key.toList = true ∨ (x.key = y.key ∧ y.id < x.id) := by
  unfold ltOf cfE
  rw [decide_eq_true_eq]
  by_cases h : cmpS x.key y.key = 0
  · have e := (cmpS_zero _ _).1 h
    rw [if_neg (by simpa using h), e, Nam.less_irrefl]
    unfold cmpI
    constructor
    · intro h1
      refine .inr ⟨rfl, ?_⟩
      by_cases c : y.id < x.id
      · exact c
      · rw [if_neg c] at h1
        split at h1 <;> simp at h1
    · rintro (h1 | ⟨_, h1⟩)
      · cases h1
      · rw [if_pos h1]; decide
  · rw [if_pos h, cmpS_neg]
    constructor
    · exact .inl
    · rintro (h1 | ⟨h1, _⟩)
      · exact h1
      · exact absurd ((cmpS_zero _ _).2 h1) h
theorem ltE_not (x y : Ent) : ltOf cfE x y = false ↔ Op.bytesLess y.key.toList x.key.toList = true ∨ (x.key = y.key ∧ x.id ≤ y.id) := by
  rw [← Bool.not_eq_true, ltE_iff]
  constructor
  · intro h
    cases h2 : Op.bytesLess y.key.toList x.key.toList
    · right
      cases h1 : Op.bytesLess x.key.toList y.key.toList
      · have e : x.key = y.key := (cmpS_zero _ _).1 (by unfold cmpS; rw [h1, h2]; rfl)
        exact ⟨e, Int.not_lt.1 (fun c => h (.inr ⟨e, c⟩))⟩
      · exact absurd (.inl h1) h
    · exact .inl rfl
  · rintro (h | ⟨h1, h2⟩) (h3 | ⟨h3, h4⟩)
    · rw [Nam.less_asymm _ _ h] at h3; cases h3
    · rw [h3, Nam.less_irrefl] at h; cases h
    · rw [h1, Nam.less_irrefl] at h3; cases h3
    · omega

theorem swoE : SWO (ltOf cfE) where
  irrefl x := (ltE_not x x).2 (.inr ⟨rfl, Int.le_refl _⟩)
  trans x y z h1 h2 := by
    rw [ltE_iff] at h1 h2 ⊢
    rcases h1 with h1 | ⟨e1, h1⟩ <;> rcases h2 with h2 | ⟨e2, h2⟩
    · exact .inl (Nam.less_trans _ _ _ h1 h2)
    · exact .inl (by rw [← e2]; exact h1)
    · exact .inl (by rw [e1]; exact h2)
    · exact .inr ⟨e1.trans e2, by omega⟩
  ntrans x y z h1 h2 := by
    rw [ltE_not] at h1 h2 ⊢
    rcases h1 with h1 | ⟨e1, h1⟩ <;> rcases h2 with h2 | ⟨e2, h2⟩
    · exact .inl (Nam.less_trans _ _ _ h2 h1)
    · exact .inl (by rw [← e2]; exact h1)
    · exact .inl (by rw [e1]; exact h2)
    · exact .inr ⟨e1.trans e2, by omega⟩
end Go.Proofs.Ytgaejaadjmcckaa
