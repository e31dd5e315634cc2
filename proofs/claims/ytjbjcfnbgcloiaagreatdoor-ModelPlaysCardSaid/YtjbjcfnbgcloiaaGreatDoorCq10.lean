/- Call of the statements of layer 22: make, remove. -/
import Derived.Test.YtjbjcfnbgcloiaaGreatDoorCq9
import Derived.Deep.RegionLaw
import Derived.Deep.RegionHeldLaw
import Derived.Deep.RegionHeld3
import Derived.Deep.QuietTactic
import Derived.BigQuiet
set_option linter.unusedSimpArgs false
set_option linter.unusedVariables false

set_option linter.unusedSimpArgs false
set_option linter.unusedVariables false
namespace Go.Proofs.YtjbjcfnbgcloiaaGreatDoor
open Go.RowKit Nam YtjbjcfnbgcloiaaGreatDoorW.PrintWords

def AnsQ (P : Kp → Value → World → Prop) (S' : St) (n : Nat) (Q F : Nat → Prop) (g : Nat) (err : Int) (w : World) (e : Ending) (w' : World) : Prop :=
  (∃ y dv, e = .returned (.agg (ansL err y dv).toArray) ∧ P y dv w') ∧ (∃ Q' F', HasM w' g S' (n + 1) Q' F' ∧ (∀ j, Q' j → Q j ∨ w.heap.size ≤ j) ∧ ∀ j, F' j → F j ∨ w.heap.size ≤ j) ∧ Moved Q w w'
theorem ans_finQ {w W3 w4 V : World} {g n n' : Nat} {S S' : St} {Q F : Nat → Prop} {cs : Array Value} (hm : HasM w g S n' Q F) (hbx : Boxed w W3 cs) (hf : ∃ Q' F', HasM w4 g S' (n + 1) Q' F' ∧ (∀ j, Q' j → Q j ∨ W3.heap.size ≤ j) ∧ ∀ j, F' j → F j ∨ W3.heap.size ≤ j) (hmv : Moved Q W3 w4) (ho : Only w.heap.size (w.heap.size + 3) w4 V) :
    (∃ Q' F', HasM V g S' (n + 1) Q' F' ∧ (∀ j, Q' j → Q j ∨ w.heap.size ≤ j) ∧ ∀ j, F' j → F j ∨ w.heap.size ≤ j) ∧ Moved Q w V := by
  obtain ⟨Q', F', h1, h2, h3⟩ := hf
  have hs := hbx.s
  refine ⟨⟨Q', F', h1.kept (fun k hk => ho.block k (isC_lt (h1.f k hk)) ?_) (fun k hk => ho.block k (isM_lt (h1.q k hk)) ?_), fun j hj => (h2 j hj).imp_right fun e => by omega, fun j hj => (h3 j hj).imp_right fun e => by omega⟩, ?_⟩
  · rcases h3 k hk with h | h
    · exact .inl (isC_lt (hm.f k h))
    · exact .inr (by omega)
  · rcases h2 k hk with h | h
    · exact .inl (isM_lt (hm.q k h))
    · exact .inr (by omega)
  · refine ⟨ho.os.trans (hmv.os.trans hbx.b.os), ho.tape.trans (hmv.tape.trans hbx.b.tape), ho.output.trans (hmv.output.trans hbx.b.output), Nat.le_trans hbx.b.size (Nat.le_trans hmv.size ho.size), fun k hk hn => ?_⟩
    rw [ho.block k (by have := hmv.size; omega) (.inl hk), hmv.block k (by omega) hn, hbx.b.block k hk]
set_option maxHeartbeats 2000000 in
set_option maxRecDepth 100000 in
theorem call_make (w : World) (g : Nat) (S : St) (n : Nat) (Q F : Nat → Prop) (b k pf fr : List UInt8) (dv : Value) (id nn a fi mo : Int) (hb : b.length ≤ 100000) (hn : n ≤ 100000) (hm : HasM w g S n Q F) :
    Calls Tryz.prog 13 #[.pointer (some ⟨g, 0, none⟩), .agg #[.int .i64 1, .string (mkS b), .string (mkS k), dv, .int .i64 nn, .int .i64 a, .string (mkS pf), .string (mkS fr), .int .i64 fi, .int .i64 mo], .int .i64 id] w
      (AnsQ (fun y dv _ => y = kp0 ∧ dv = .slice none 0 0) (S.make b).1 n Q F g (S.make b).2 w) := by
  obtain ⟨W3, hW3⟩ : ∃ W3, ((w.alloc (.cells #[.int .i64 1, .string (mkS b), .string (mkS k), dv, .int .i64 nn, .int .i64 a, .string (mkS pf), .string (mkS fr), .int .i64 fi, .int .i64 mo] 34)).alloc (.cells ans0 44)).alloc (.cells ans0 44) = W3 := ⟨_, rfl⟩
  have hbx := boxed_mk w #[.int .i64 1, .string (mkS b), .string (mkS k), dv, .int .i64 nn, .int .i64 a, .string (mkS pf), .string (mkS fr), .int .i64 fi, .int .i64 mo]
  rw [hW3] at hbx
  have HC : Hid (Calls Tryz.prog 16 #[.pointer (some ⟨g, 0, none⟩), .string (mkS b)] W3 fun e w' => e = .returned (.int .i64 ((S.make b).2)) ∧ Hid ((∃ Q' F', HasM w' g (S.make b).1 (n + 1) Q' F' ∧ (∀ j, Q' j → Q j ∨ W3.heap.size ≤ j) ∧ ∀ j, F' j → F j ∨ W3.heap.size ≤ j) ∧ Moved Q W3 w') ∧ Hid (w'.heap[w.heap.size + 1]? = some (.cells ans0 44 (0, 0)) ∧ w'.heap[w.heap.size + 1 + 1]? = some (.cells ans0 44 (0, 0)) ∧ w.heap.size + 3 ≤ w'.heap.size)) :=
    (make_is W3 g S n Q F b hb hn (hm.below hbx.b)).mono fun e w' ⟨Q', h1, h2, h3, h4⟩ => ⟨h1, ⟨⟨Q', F, h2, h4, fun j hj => .inl hj⟩, h3⟩, boxed_after hbx hm.q h3⟩
  have HBX := Lib.hid hbx
  have HM := Lib.hid hm
  have HW3 := Lib.hid hW3
  obtain ⟨c0, c1, c2, c3, c4, c5, c6, c7, c8, c9⟩ := chAt_of hbx.k4
  clear c2 c3 c4 c5 c6 c7 c8 c9
  obtain ⟨er, her⟩ : ∃ er, (S.make b).2 = er := ⟨_, rfl⟩
  rw [her] at HC ⊢
  clear hm hbx hW3 her
  go_enter Tryz.func13, Tryz.ntmps13
  go_upto_region 2 with (fail)
  rw [HW3.out]
  clear HW3
  go_wp2_with fail
  refine HC.out.mono ?_
  rintro e w4 ⟨rfl, HF, HB⟩
  obtain ⟨z0, z1, z2, z3, z4, z5, z6, z7, z8, z9, z10⟩ := zeros_of HB.out.2.1
  have f0 := blk_frozen HB.out.2.1 0
  have HB6 : Hid (∀ u, (w4.setCell ⟨w.heap.size + 1 + 1, 0, none⟩ u).heap[w.heap.size + 1]? = some (.cells ans0 44 (0, 0))) := fun u => blk_far HB.out.1 (by simp) u
  go_wp2_with (refine wpList_store_row rfl 44 (.tmp 6) (.tmp 159) rfl (w.heap.size + 1) (ansL er kp0 (.slice none 0 0)).toArray rfl rfl 44 _ (HB6.out _) (by kernel_rfl) rfl (by simp [ansL, Value.oneCell']) ?_)
  refine bodyPost_ret (results_single rfl (.cell (w.heap.size + 1) 44 (ansL er kp0 (.slice none 0 0)).toArray (0, 0) _ rfl (setRow_heap _ _ _ _ _ _ (HB6.out _)) Tryz.underlying44 rfl (by kernel_rfl) .nil)) rfl ?_
  exact ⟨⟨kp0, .slice none 0 0, rfl, rfl, rfl⟩, ans_finQ HM.out HBX.out HF.out.1 HF.out.2 (((Only.refl _ _ _).put 0 _ (by omega) (by omega)).row _ (by omega) (by omega))⟩
set_option maxHeartbeats 2000000 in
set_option maxRecDepth 100000 in
theorem call_rem (w : World) (g : Nat) (S : St) (n : Nat) (Q F : Nat → Prop) (b k pf fr : List UInt8) (dv : Value) (id nn a fi mo : Int) (hb : b.length ≤ 100000) (hn : n ≤ 100000) (hm : HasM w g S n Q F) :
    Calls Tryz.prog 13 #[.pointer (some ⟨g, 0, none⟩), .agg #[.int .i64 2, .string (mkS b), .string (mkS k), dv, .int .i64 nn, .int .i64 a, .string (mkS pf), .string (mkS fr), .int .i64 fi, .int .i64 mo], .int .i64 id] w
      (AnsIs (fun y dv _ => y = kp0 ∧ dv = .slice none 0 0) (S.remove b).1 n Q F g (S.remove b).2 w) := by
  obtain ⟨W3, hW3⟩ : ∃ W3, ((w.alloc (.cells #[.int .i64 2, .string (mkS b), .string (mkS k), dv, .int .i64 nn, .int .i64 a, .string (mkS pf), .string (mkS fr), .int .i64 fi, .int .i64 mo] 34)).alloc (.cells ans0 44)).alloc (.cells ans0 44) = W3 := ⟨_, rfl⟩
  have hbx := boxed_mk w #[.int .i64 2, .string (mkS b), .string (mkS k), dv, .int .i64 nn, .int .i64 a, .string (mkS pf), .string (mkS fr), .int .i64 fi, .int .i64 mo]
  rw [hW3] at hbx
  have HC : Hid (Calls Tryz.prog 31 #[.pointer (some ⟨g, 0, none⟩), .string (mkS b)] W3 fun e w' => e = .returned (.int .i64 ((S.remove b).2)) ∧ Hid ((∃ F', HasM w' g (S.remove b).1 (n + 1) Q F' ∧ ∀ j, F' j → F j ∨ W3.heap.size ≤ j) ∧ Moved Q W3 w') ∧ Hid (w'.heap[w.heap.size + 1]? = some (.cells ans0 44 (0, 0)) ∧ w'.heap[w.heap.size + 1 + 1]? = some (.cells ans0 44 (0, 0)) ∧ w.heap.size + 3 ≤ w'.heap.size)) :=
    (remove_is W3 g S n Q F b hb (hm.below hbx.b)).mono fun e w' ⟨h1, h2, h3⟩ => ⟨h1, ⟨⟨F, h2.mono (by omega), fun j hj => .inl hj⟩, h3⟩, boxed_after hbx hm.q h3⟩
  have HBX := Lib.hid hbx
  have HM := Lib.hid hm
  have HW3 := Lib.hid hW3
  obtain ⟨c0, c1, c2, c3, c4, c5, c6, c7, c8, c9⟩ := chAt_of hbx.k4
  clear c2 c3 c4 c5 c6 c7 c8 c9
  obtain ⟨er, her⟩ : ∃ er, (S.remove b).2 = er := ⟨_, rfl⟩
  rw [her] at HC ⊢
  clear hm hbx hW3 her
  go_enter Tryz.func13, Tryz.ntmps13
  go_upto_region 2 with (fail)
  rw [HW3.out]
  clear HW3
  go_wp2_with fail
  refine HC.out.mono ?_
  rintro e w4 ⟨rfl, HF, HB⟩
  obtain ⟨z0, z1, z2, z3, z4, z5, z6, z7, z8, z9, z10⟩ := zeros_of HB.out.2.1
  have f0 := blk_frozen HB.out.2.1 0
  have HB6 : Hid (∀ u, (w4.setCell ⟨w.heap.size + 1 + 1, 0, none⟩ u).heap[w.heap.size + 1]? = some (.cells ans0 44 (0, 0))) := fun u => blk_far HB.out.1 (by simp) u
  go_wp2_with (refine wpList_store_row rfl 44 (.tmp 6) (.tmp 159) rfl (w.heap.size + 1) (ansL er kp0 (.slice none 0 0)).toArray rfl rfl 44 _ (HB6.out _) (by kernel_rfl) rfl (by simp [ansL, Value.oneCell']) ?_)
  refine bodyPost_ret (results_single rfl (.cell (w.heap.size + 1) 44 (ansL er kp0 (.slice none 0 0)).toArray (0, 0) _ rfl (setRow_heap _ _ _ _ _ _ (HB6.out _)) Tryz.underlying44 rfl (by kernel_rfl) .nil)) rfl ?_
  exact ⟨⟨kp0, .slice none 0 0, rfl, rfl, rfl⟩, ans_fin HM.out HBX.out HF.out.1 HF.out.2 (((Only.refl _ _ _).put 0 _ (by omega) (by omega)).row _ (by omega) (by omega))⟩
end Go.Proofs.YtjbjcfnbgcloiaaGreatDoor

/- Call of the statements of layer 22: buckets. -/
set_option linter.unusedSimpArgs false
set_option linter.unusedVariables false
namespace Go.Proofs.YtjbjcfnbgcloiaaGreatDoor
open Go.RowKit Nam YtjbjcfnbgcloiaaGreatDoorW.PrintWords

abbrev ansN (v : Value) : Array Value := #[.int .i64 0, .int .i64 0, .bool false, .int .i64 0, .int .u32 0, .slice none 0 0, .slice none 0 0, .bool false, .string ⟨#[]⟩, .int .i64 0, v]
def NamesIs (S : St) (w : World) (e : Ending) (w' : World) : Prop :=
  (∃ (v : Value) (ss : List (List UInt8)), e = .returned (.agg (ansN v)) ∧ ss.Perm S.B ∧ w'.ownsRow w.heap.size 9 1 v ss.length ((ss.mergeSort (fun x y => decide (x ≤ y))).map encStr)) ∧ Below w.heap.size w w'
theorem below_only {w W V : World} {C : Nat} (h : Below w.heap.size w W) (ho : Only w.heap.size C W V) : Below w.heap.size w V :=
  ⟨ho.os.trans h.os, ho.tape.trans h.tape, ho.output.trans h.output, Nat.le_trans h.size ho.size, fun k hk => (ho.block k (Nat.lt_of_lt_of_le hk h.size) (.inl hk)).trans (h.block k hk)⟩
set_option maxHeartbeats 2000000 in
set_option maxRecDepth 100000 in
theorem call_buckets (w : World) (g : Nat) (S : St) (n : Nat) (Q F : Nat → Prop) (b k pf fr : List UInt8) (dv : Value) (id nn a fi mo : Int) (hl : S.B.length ≤ 1000) (hm : HasM w g S n Q F) :
    Calls Tryz.prog 13 #[.pointer (some ⟨g, 0, none⟩), .agg #[.int .i64 3, .string (mkS b), .string (mkS k), dv, .int .i64 nn, .int .i64 a, .string (mkS pf), .string (mkS fr), .int .i64 fi, .int .i64 mo], .int .i64 id] w (NamesIs S w) := by
  obtain ⟨W3, hW3⟩ : ∃ W3, ((w.alloc (.cells #[.int .i64 3, .string (mkS b), .string (mkS k), dv, .int .i64 nn, .int .i64 a, .string (mkS pf), .string (mkS fr), .int .i64 fi, .int .i64 mo] 34)).alloc (.cells ans0 44)).alloc (.cells ans0 44) = W3 := ⟨_, rfl⟩
  have hbx := boxed_mk w #[.int .i64 3, .string (mkS b), .string (mkS k), dv, .int .i64 nn, .int .i64 a, .string (mkS pf), .string (mkS fr), .int .i64 fi, .int .i64 mo]
  rw [hW3] at hbx
  have HC := Lib.hid (buckets_is W3 g S n Q F hl (hm.below hbx.b))
  have HBX := Lib.hid hbx
  have HM := Lib.hid hm
  have HW3 := Lib.hid hW3
  obtain ⟨c0, c1, c2, c3, c4, c5, c6, c7, c8, c9⟩ := chAt_of hbx.k4
  clear c1 c2 c3 c4 c5 c6 c7 c8 c9
  clear hm hbx hW3
  go_enter Tryz.func13, Tryz.ntmps13
  go_upto_region 2 with (fail)
  rw [HW3.out]
  clear HW3
  go_wp2_with fail
  refine HC.out.mono ?_
  intro e w4 hbk
  obtain ⟨⟨v, ss, rfl, hp, ho⟩, hb4⟩ := hbk
  have hbA := boxed_after HBX.out HM.out.q (Moved.of_below hb4)
  have HB := Lib.hid hbA
  obtain ⟨p, nv, cv, rfl⟩ : ∃ p nv cv, v = .slice p nv cv := by
    rcases ho.2 with ⟨h1, _⟩ | ⟨g1, c1, cur, h1, _⟩
    · exact ⟨none, 0, 0, h1⟩
    · exact ⟨_, _, _, h1⟩
  have HO := Lib.hid ho
  have HB4 := Lib.hid hb4
  clear hbA ho hb4
  obtain ⟨z0, z1, z2, z3, z4, z5, z6, z7, z8, z9, z10⟩ := zeros_of HB.out.2.1
  have f0 := blk_frozen HB.out.2.1 10
  have HB6 : Hid (∀ u, (w4.setCell ⟨w.heap.size + 1 + 1, 10, none⟩ u).heap[w.heap.size + 1]? = some (.cells ans0 44 (0, 0))) := fun u => blk_far HB.out.1 (by simp) u
  go_wp2_with (refine wpList_store_row rfl 44 (.tmp 6) (.tmp 159) rfl (w.heap.size + 1) (ansN (.slice p nv cv)) rfl rfl 44 _ (HB6.out _) (by kernel_rfl) rfl (by simp [Value.oneCell']) ?_)
  refine bodyPost_ret (results_single rfl (.cell (w.heap.size + 1) 44 (ansN (.slice p nv cv)) (0, 0) _ rfl (setRow_heap _ _ _ _ _ _ (HB6.out _)) Tryz.underlying44 rfl (by kernel_rfl) .nil)) rfl ?_
  have hon : Only w.heap.size (w.heap.size + 3) w4 ((w4.setCell ⟨w.heap.size + 1 + 1, 10, none⟩ (.slice p nv cv)).setRow (w.heap.size + 1) (ansN (.slice p nv cv))) := ((Only.refl _ _ _).put 10 _ (by omega) (by omega)).row _ (by omega) (by omega)
  have hs := HBX.out.s
  refine ⟨⟨_, ss, rfl, hp, ?_⟩, below_only (HBX.out.b.trans (HB4.out.mono HBX.out.b.size)) hon⟩
  refine own_weaken (own_at HO.out fun g1 hg1 => hon.block g1 (own_lt HO.out g1 hg1) (.inr ?_)) HBX.out.b.size
  have := own_ge HO.out g1 hg1
  omega
end Go.Proofs.YtjbjcfnbgcloiaaGreatDoor

/- Layer 8: Ask, Answer: merged (pgm.py). -/
namespace Go.Proofs.YtjbjcfnbgcloiaaGreatDoor
open Go.Shelf Go.RowKit Go.Lib Nam

theorem own_form {w : World} {base n : Nat} {e : TypeId} {size : Nat} {v : Value} {xs : List Value} (h : w.ownsRow base e size v n xs) : ∃ p c, v = .slice p n c := by
  rcases h.2 with ⟨h1, h2⟩ | ⟨g, cap, cur, h1, _⟩
  · exact ⟨none, 0, by rw [h1, h2]⟩
  · exact ⟨_, _, h1⟩
theorem results_cell1 {fn : Func} {p : Tmp} {ty : TypeId} (h : fn.results = #[.cell p ty]) (tmps : Array Value) (P : Program) (w : World) :
    (results fn tmps).run P w = ((asAddr (tmps.getD p undef)).run P w).andThen fun a w₁ => (loadVar ty a).run P w₁ := by
  simp only [results, h]
  simp [Sem.run_bind, Result.andThen]
theorem ret_agg {P : Program} {fn : Func} {p : Tmp} {ty : TypeId} (h : fn.results = #[.cell p ty]) (tmps : Array Value) (w : World) (g : Nat) (t : TypeId) (cs : Array Value) (fr : Nat × Nat) (d : TypeDesc)
    (hp : tmps.getD p undef = .pointer (some ⟨g, 0, none⟩)) (hg : w.heap[g]? = some (.cells cs t fr))
    (hu : P.underlying ty = some d) (hd : (match d with | .struct _ | .array _ _ => true | _ => false) = true) (hi : (P.info? ty).map (·.size) = some cs.size) :
    (results fn tmps).run P w = .ok (.agg cs) w := by
  rw [results_cell1 h, hp]
  simp [asAddr, run_loadVar_row w g t ty cs fr d hg hu hd hi]
set_option maxHeartbeats 1000000 in
theorem ask_is (a b : ByteArray) (c d : Int) (w : World) :
    Calls Tryz.prog 37 #[.agg #[.string a, .string b, .int .i64 c, .int .i64 d]] w fun e w' => e = .returned (.agg #[.string a, .string b, .int .i64 c, .int .i64 d]) ∧ Below w.heap.size w w' := by
  have h31 : ∀ o, ((w.alloc o).alloc (.cells #[.string a, .string b, .int .i64 c, .int .i64 d] 88)).heap[w.heap.size + 1]? = some (.cells #[.string a, .string b, .int .i64 c, .int .i64 d] 88 (0, 0)) := fun o => by
    have := heap_alloc_new (w.alloc o) (.cells #[.string a, .string b, .int .i64 c, .int .i64 d] 88)
    simpa using this
  have H31 := Lib.hid h31; clear h31
  go_enter Tryz.func37, Tryz.ntmps37
  go_wp2
  refine bodyPost_ret (ret_agg rfl _ _ (w.heap.size + 1) _ _ _ _ rfl (H31.out _) Tryz.underlying88 rfl (by kernel_rfl)) rfl ?_
  exact ⟨rfl, ((Below.refl _ _).alloc (Nat.le_refl _) _).alloc (by simp) _⟩
set_option maxHeartbeats 1000000 in
theorem answer_is (sv : Value) (L : List Ent) (mo : Bool) (ke : ByteArray) (ci : Int) (hL : L.length ≤ 1000000) (w : World) (h : RowE w sv L) :
    Calls Tryz.prog 38 #[.agg #[sv, .bool mo, .string ke, .int .i64 ci]] w fun e w' => ∃ sv', e = .returned (.agg #[sv', .bool mo, .string ke, .int .i64 ci]) ∧ RowE w' sv' L ∧ (∀ b o n c, sv' = .slice (some ⟨b, o, none⟩) n c → w.heap.size ≤ b) ∧ Below w.heap.size w w' := by
  obtain ⟨p, c, rfl, -⟩ := len_of_row h
  have HR := Lib.hid h; clear h
  go_enter Tryz.func38, Tryz.ntmps38
  go_wp2_with fail
  obtain ⟨W2, hW2⟩ : ∃ W2, (w.alloc (.cells #[.slice p L.length c, .bool mo, .string ke, .int .i64 ci] 85)).alloc (.cells #[.slice none 0 0, .bool false, .string ⟨#[]⟩, .int .i64 0] 41) = W2 := ⟨_, rfl⟩
  rw [hW2]
  have s2 : W2.heap.size = w.heap.size + 2 := by rw [← hW2]; simp
  have hb2 : Below w.heap.size w W2 := by rw [← hW2]; exact ((Below.refl _ _).alloc (Nat.le_refl _) _).alloc (by simp) _
  have h20 : W2.heap[w.heap.size]? = some (.cells #[.slice p L.length c, .bool mo, .string ke, .int .i64 ci] 85 (0, 0)) := by rw [← hW2, heap_alloc_old _ _ (by simp), heap_alloc_new]
  have h21 : W2.heap[w.heap.size + 1]? = some (.cells #[.slice none 0 0, .bool false, .string ⟨#[]⟩, .int .i64 0] 41 (0, 0)) := by
    rw [← hW2]
    have := heap_alloc_new (w.alloc (.cells #[.slice p L.length c, .bool mo, .string ke, .int .i64 ci] 85)) (.cells #[.slice none 0 0, .bool false, .string ⟨#[]⟩, .int .i64 0] 41)
    simpa using this
  have k0 : W2.cell? ⟨w.heap.size, 0, none⟩ = some (.slice p L.length c) := (cells_of_heap h20).1 0 _ rfl
  have k1 : W2.cell? ⟨w.heap.size, 1, none⟩ = some (.bool mo) := (cells_of_heap h20).1 1 _ rfl
  have k2 : W2.cell? ⟨w.heap.size, 2, none⟩ = some (.string ke) := (cells_of_heap h20).1 2 _ rfl
  have k3 : W2.cell? ⟨w.heap.size, 3, none⟩ = some (.int .i64 ci) := (cells_of_heap h20).1 3 _ rfl
  have H21 := Lib.hid h21; clear h21
  have H20 := Lib.hid h20; clear h20
  have HS := Lib.hid s2
  have HB2 := Lib.hid hb2; clear hb2
  have HR2 := Lib.hid (show RowE W2.drew (.slice p L.length c) L from HR.out.below (HB2.out.drewN 1))
  clear hW2 s2
  go_region_held_law (fun w' => w'.cell? ⟨w.heap.size, 0, none⟩ = some (.slice p L.length c) ∧ w'.cell? ⟨w.heap.size, 1, none⟩ = some (.bool mo) ∧ w'.cell? ⟨w.heap.size, 2, none⟩ = some (.string ke) ∧ w'.cell? ⟨w.heap.size, 3, none⟩ = some (.int .i64 ci))
    (first | exact ⟨k0, k1, k2, k3⟩ | exact ⟨K0, K1, K2, K3⟩ | go_keep)
    ((refine step_append_rowE (xs := []) (base := W2.heap.size) (by rfl) (.const (.slice none 0 0)) (.tmp 4) (by rfl) (by rfl) ⟨rfl, .inl ⟨rfl, rfl⟩⟩ (by rfl) HR2.out (by simp; omega) (Nat.le_refl _) ?_; intro v1 wa hown1 hgr1 _; rw [List.nil_append] at hown1; obtain ⟨pv, cv, hv⟩ := own_form hown1; rw [hv] at hown1; rw [hv]; clear hv; have HB3 := Lib.hid (show Below W2.heap.size W2 wa from ((Below.refl _ _).drewN 1).grown hgr1 (Nat.le_refl _) (fun k hk => by cases hk)); have s2 := HS.out; have h2a : wa.heap[w.heap.size]? = some (.cells #[.slice p L.length c, .bool mo, .string ke, .int .i64 ci] 85 (0, 0)) := (HB3.out.block _ (by omega)).trans H20.out; have h3a : wa.heap[w.heap.size + 1]? = some (.cells #[.slice none 0 0, .bool false, .string ⟨#[]⟩, .int .i64 0] 41 (0, 0)) := (HB3.out.block _ (by omega)).trans H21.out; have K0 := (cells_of_heap h2a).1 0 _ rfl; have K1 := (cells_of_heap h2a).1 1 _ rfl; have K2 := (cells_of_heap h2a).1 2 _ rfl; have K3 := (cells_of_heap h2a).1 3 _ rfl; have r0 := (cells_of_heap h3a).1 0 _ rfl; have r1 := (cells_of_heap h3a).1 1 _ rfl; have r2 := (cells_of_heap h3a).1 2 _ rfl; have r3 := (cells_of_heap h3a).1 3 _ rfl; have z0 := (cells_of_heap h3a).2 0; have z1 := (cells_of_heap h3a).2 1; have z2 := (cells_of_heap h3a).2 2; have z3 := (cells_of_heap h3a).2 3; have HO := Lib.hid hown1; have H3A := Lib.hid h3a; clear hown1 hgr1 h2a h3a s2))
  all_goals
    go_wp2
    (try simp only [Exit.inBlock, Exit.then])
    have h61 := heap_set (heap_set (heap_set (heap_set H3A.out 0 (.slice pv L.length cv)) 1 (.bool mo)) 2 (.string ke)) 3 (.int .i64 ci)
    refine bodyPost_ret (ret_agg rfl _ _ (w.heap.size + 1) _ _ _ _ rfl h61 Tryz.underlying41 rfl (by kernel_rfl)) rfl ?_
    have hs := HS.out
    have hrow := rowE_own HO.out
    have hne : ∀ b o n c, Value.slice pv L.length cv = .slice (some ⟨b, o, none⟩) n c → b ≠ w.heap.size + 1 := fun b o n c h => by
      have h1 := hrow.2 b o n c h
      omega
    refine ⟨_, rfl, rowE_set (rowE_set (rowE_set (rowE_set hrow.1 hne _ _) hne _ _) hne _ _) hne _ _, fun b o n c h => (by have h1 := hrow.2 b o n c h; omega), ?_⟩
    exact ((((HB2.out.trans (HB3.out.mono (by omega))).setCell (p := ⟨w.heap.size + 1, 0, none⟩) (Nat.le_succ _) _).setCell (p := ⟨w.heap.size + 1, 1, none⟩) (Nat.le_succ _) _).setCell (p := ⟨w.heap.size + 1, 2, none⟩) (Nat.le_succ _) _).setCell (p := ⟨w.heap.size + 1, 3, none⟩) (Nat.le_succ _) _
end Go.Proofs.YtjbjcfnbgcloiaaGreatDoor

/- Call of the statements of layer 22: objects, versions. -/
set_option linter.unusedSimpArgs false
set_option linter.unusedVariables false
namespace Go.Proofs.YtjbjcfnbgcloiaaGreatDoor
open Go.RowKit Nam YtjbjcfnbgcloiaaGreatDoorW.PrintWords Go.Lib

abbrev askV (pf fr : List UInt8) (fi mo : Int) : AskV := ⟨mkS pf, mkS fr, fi, mo⟩
abbrev ansPg (er : Int) (v : Value) (m : Bool) (k : ByteArray) (i : Int) : Array Value := #[.int .i64 er, .int .i64 0, .bool false, .int .i64 0, .int .u32 0, .slice none 0 0, v, .bool m, .string k, .int .i64 i, .slice none 0 0]
def Tells (S : St) (s : List UInt8) (q : AskV) (Res : List Ent → List Ent → Bool → ByteArray → Int → Prop) (er : Int) (L : List Ent) (m : Bool) (k : ByteArray) (i : Int) : Prop :=
  if bucketB s = false then er = 12 ∧ L = [] ∧ m = false ∧ k = ⟨#[]⟩ ∧ i = 0
  else if okA q = false then er = 1 ∧ L = [] ∧ m = false ∧ k = ⟨#[]⟩ ∧ i = 0
  else if s ∉ S.B then er = 13 ∧ L = [] ∧ m = false ∧ k = ⟨#[]⟩ ∧ i = 0
  else er = 0 ∧ ∃ ks, AllOf (S.V s) ks ∧ Res (entsOf (S.V s) ks) L m k i
theorem part_tells {S : St} {s : List UInt8} {q : AskV} {Res : List Ent → List Ent → Bool → ByteArray → Int → Prop} {w2 : World} {e : Ending} {w3 : World} (h : PartIs S s q Res w2 e w3) :
    ∃ (p : Option Addr) (nn cc : Nat) (m : Bool) (k : ByteArray) (i er : Int) (L : List Ent), e = ansP (.slice p nn cc) m k i er ∧ Below w2.heap.size w2 w3 ∧ RowE w3 (.slice p nn cc) L ∧ (∀ b f n c, Value.slice p nn cc = .slice (some ⟨b, f, none⟩) n c → w2.heap.size ≤ b) ∧ Tells S s q Res er L m k i := by
  obtain ⟨hb, h⟩ := h
  have hnil : ∀ (b f n c : Nat), Value.slice none 0 0 = .slice (some ⟨b, f, none⟩) n c → w2.heap.size ≤ b := fun b f n c e => by cases e
  unfold Tells
  by_cases h1 : bucketB s = false
  · rw [if_pos h1] at h
    exact ⟨none, 0, 0, _, _, _, _, [], h, hb, .inl ⟨rfl, rfl⟩, hnil, by rw [if_pos h1]; exact ⟨rfl, rfl, rfl, rfl, rfl⟩⟩
  · rw [if_neg h1] at h
    by_cases h2 : okA q = false
    · rw [if_pos h2] at h
      exact ⟨none, 0, 0, _, _, _, _, [], h, hb, .inl ⟨rfl, rfl⟩, hnil, by rw [if_neg h1, if_pos h2]; exact ⟨rfl, rfl, rfl, rfl, rfl⟩⟩
    · rw [if_neg h2] at h
      by_cases h3 : s ∈ S.B
      · rw [if_neg (fun e => e h3)] at h
        obtain ⟨ks, sv, o, m, k, i, ha, rfl, hr, hf, hR⟩ := h
        obtain ⟨p, cc, rfl, _⟩ := len_of_row hr
        exact ⟨p, _, cc, m, k, i, 0, o, rfl, hb, hr, hf, by rw [if_neg h1, if_neg h2, if_neg (fun e => e h3)]; exact ⟨rfl, ks, ha, hR⟩⟩
      · rw [if_pos h3] at h
        exact ⟨none, 0, 0, _, _, _, _, [], h, hb, .inl ⟨rfl, rfl⟩, hnil, by rw [if_neg h1, if_neg h2, if_pos h3]; exact ⟨rfl, rfl, rfl, rfl, rfl⟩⟩
theorem tells_len {S : St} {s : List UInt8} {q : AskV} {Res : List Ent → List Ent → Bool → ByteArray → Int → Prop} (hR : ∀ l o m k i, Res l o m k i → o.length ≤ q.most.toNat) {er : Int} {L : List Ent} {m : Bool} {k : ByteArray} {i : Int} (h : Tells S s q Res er L m k i) : L.length ≤ 1000 := by
  unfold Tells at h
  by_cases h1 : bucketB s = false
  · rw [if_pos h1] at h; rw [h.2.1]; simp
  · rw [if_neg h1] at h
    by_cases h2 : okA q = false
    · rw [if_pos h2] at h; rw [h.2.1]; simp
    · rw [if_neg h2] at h
      by_cases h3 : s ∈ S.B
      · rw [if_neg (fun e => e h3)] at h
        obtain ⟨_, ks, _, hr⟩ := h
        have h4 := hR _ _ _ _ _ hr
        have h5 : okA q = true := by simpa using h2
        unfold okA at h5
        have := of_decide_eq_true h5
        omega
      · rw [if_pos h3] at h; rw [h.2.1]; simp
theorem verR_len {q : AskV} (l o : List Ent) (m : Bool) (k : ByteArray) (i : Int) (h : VerR q l o m k i) : o.length ≤ q.most.toNat := by
  obtain ⟨l', _, _, rfl, _⟩ := h
  rw [List.length_take]
  omega
theorem objR_len {q : AskV} (l o : List Ent) (m : Bool) (k : ByteArray) (i : Int) (h : ObjR q l o m k i) : o.length ≤ q.most.toNat := by
  obtain ⟨l', _, _, rfl, _⟩ := h
  rw [List.length_take]
  omega
abbrev pgA (v : Value) (m : Bool) (k : ByteArray) (i : Int) : Array Value := #[v, .bool m, .string k, .int .i64 i]
structure PgAt (w : World) (g : Nat) (v : Value) (m : Bool) (k : ByteArray) (i : Int) : Prop where
  z0 : w.cell? ⟨g, 0, none⟩ = some (.int .i64 0)
  z1 : w.cell? ⟨g, 1, none⟩ = some (.int .i64 0)
  z2 : w.cell? ⟨g, 2, none⟩ = some (.bool false)
  z3 : w.cell? ⟨g, 3, none⟩ = some (.int .i64 0)
  z4 : w.cell? ⟨g, 4, none⟩ = some (.int .u32 0)
  z5 : w.cell? ⟨g, 5, none⟩ = some (.slice none 0 0)
  z6 : w.cell? ⟨g, 6, none⟩ = some v
  z7 : w.cell? ⟨g, 7, none⟩ = some (.bool m)
  z8 : w.cell? ⟨g, 8, none⟩ = some (.string k)
  z9 : w.cell? ⟨g, 9, none⟩ = some (.int .i64 i)
  z10 : w.cell? ⟨g, 10, none⟩ = some (.slice none 0 0)
theorem box_pg (w w4 : World) (v : Value) (m : Bool) (k : ByteArray) (i : Int) (k6 : w4.heap[w.heap.size + 1]? = some (.cells ans0 44 (0, 0))) (k7 : w4.heap[w.heap.size + 1 + 1]? = some (.cells ans0 44 (0, 0))) (hs : w.heap.size + 3 ≤ w4.heap.size) :
    ∃ W6, w4.there (w.heap.size + 1 + 1) 6 4 ∧ w4.setCells (w.heap.size + 1 + 1) 6 (pgA v m k i).toList = W6 ∧ PgAt W6 (w.heap.size + 1 + 1) v m k i ∧
      W6.heap[w.heap.size + 1 + 1]? = some (.cells (ansPg 0 v m k i) 44 (0, 0)) ∧ W6.heap[w.heap.size + 1]? = some (.cells ans0 44 (0, 0)) ∧ Only w.heap.size (w.heap.size + 3) w4 W6 := by
  obtain ⟨cur, h1, h2, h3⟩ := setCells_row (pgA v m k i).toList 6 w4 ans0 k7 (by show 6 + 4 ≤ 11; omega)
  have h4 : cur = ansPg 0 v m k i := Array.toList_inj.1 h3
  subst h4
  refine ⟨_, fun j hj => ⟨?_, blk_frozen k7 _⟩, rfl,
    ⟨(blk_cell h1 0).trans rfl, (blk_cell h1 1).trans rfl, (blk_cell h1 2).trans rfl, (blk_cell h1 3).trans rfl, (blk_cell h1 4).trans rfl, (blk_cell h1 5).trans rfl, (blk_cell h1 6).trans rfl, (blk_cell h1 7).trans rfl, (blk_cell h1 8).trans rfl, (blk_cell h1 9).trans rfl, (blk_cell h1 10).trans rfl⟩, h1, ?_, ?_⟩
  · rw [blk_cell k7]
    have : j = 0 ∨ j = 1 ∨ j = 2 ∨ j = 3 := by omega
    rcases this with rfl | rfl | rfl | rfl <;> rfl
  · rw [setCells_far _ _ _ (by omega)]
    exact k6
  · have hh := setCells_same (w.heap.size + 1 + 1) (pgA v m k i).toList 6 w4
    refine ⟨hh.1, hh.2.1, hh.2.2.1, by rw [hh.2.2.2]; exact Nat.le_refl _, fun j hk hc => ?_⟩
    rw [setCells_far _ _ _ (by omega)]
theorem rowE_keep {w w' : World} {sv : Value} {o : List Ent} (h : RowE w sv o) (hk : ∀ b f n c, sv = .slice (some ⟨b, f, none⟩) n c → b < w.heap.size → w'.heap[b]? = w.heap[b]?) (hs : w.heap.size ≤ w'.heap.size) : RowE w' sv o := by
  rcases h with h | ⟨b, f, cap, hv, hlt, hc⟩
  · exact .inl h
  · refine .inr ⟨b, f, cap, hv, Nat.lt_of_lt_of_le hlt hs, fun j u hj => ?_⟩
    exact (World.cell?_of_block (hk b f _ cap hv hlt)).trans (hc j u hj)
end Go.Proofs.YtjbjcfnbgcloiaaGreatDoor

/- Call of the statements of layer 22: objects. -/
set_option linter.unusedSimpArgs false
set_option linter.unusedVariables false

/- Call of the statements of layer 22: a choice that is none of its own; any choice. -/
set_option linter.unusedSimpArgs false
set_option linter.unusedVariables false
namespace Go.Proofs.YtjbjcfnbgcloiaaGreatDoor
open Go.RowKit Nam YtjbjcfnbgcloiaaGreatDoorW.PrintWords Go.Lib

set_option maxHeartbeats 2000000 in
set_option maxRecDepth 100000 in
theorem call_none (w : World) (g : Nat) (S : St) (n : Nat) (Q F : Nat → Prop) (b k pf fr : List UInt8) (dv : Value) (d id nn a fi mo : Int) (h1 : ¬ d = 1) (h2 : ¬ d = 2) (h3 : ¬ d = 3) (h4 : ¬ d = 4) (h5 : ¬ d = 5) (h6 : ¬ d = 6) (h7 : ¬ d = 7) (h8 : ¬ d = 8) (h9 : ¬ d = 9) (h10 : ¬ d = 10) (hm : HasM w g S n Q F) :
    Calls Tryz.prog 13 #[.pointer (some ⟨g, 0, none⟩), .agg #[.int .i64 d, .string (mkS b), .string (mkS k), dv, .int .i64 nn, .int .i64 a, .string (mkS pf), .string (mkS fr), .int .i64 fi, .int .i64 mo], .int .i64 id] w
      (AnsIs (fun y dv _ => y = kp0 ∧ dv = .slice none 0 0) S n Q F g 0 w) := by
  obtain ⟨W3, hW3⟩ : ∃ W3, ((w.alloc (.cells #[.int .i64 d, .string (mkS b), .string (mkS k), dv, .int .i64 nn, .int .i64 a, .string (mkS pf), .string (mkS fr), .int .i64 fi, .int .i64 mo] 34)).alloc (.cells ans0 44)).alloc (.cells ans0 44) = W3 := ⟨_, rfl⟩
  have hbx := boxed_mk w #[.int .i64 d, .string (mkS b), .string (mkS k), dv, .int .i64 nn, .int .i64 a, .string (mkS pf), .string (mkS fr), .int .i64 fi, .int .i64 mo]
  rw [hW3] at hbx
  have HBX := Lib.hid hbx
  have HM := Lib.hid hm
  have HW3 := Lib.hid hW3
  have HB := Lib.hid (boxed_after hbx hm.q (Moved.of_below (Q := Q) (Below.refl _ _)))
  obtain ⟨c0, c1, c2, c3, c4, c5, c6, c7, c8, c9⟩ := chAt_of hbx.k4
  clear c1 c2 c3 c4 c5 c6 c7 c8 c9
  have e1 : (d == 1) = false := by simp; omega
  have e2 : (d == 2) = false := by simp; omega
  have e3 : (d == 3) = false := by simp; omega
  have e4 : (d == 4) = false := by simp; omega
  have e5 : (d == 5) = false := by simp; omega
  have e6 : (d == 6) = false := by simp; omega
  have e7 : (d == 7) = false := by simp; omega
  have e8 : (d == 8) = false := by simp; omega
  have e9 : (d == 9) = false := by simp; omega
  have e10 : (d == 10) = false := by simp; omega
  clear hm hbx hW3 h1 h2 h3 h4 h5 h6 h7 h8 h9 h10
  go_enter Tryz.func13, Tryz.ntmps13
  go_upto_region 2 with (fail)
  rw [HW3.out]
  clear HW3
  obtain ⟨z0, z1, z2, z3, z4, z5, z6, z7, z8, z9, z10⟩ := zeros_of HB.out.2.1
  go_wp2_with (refine wpList_store_row rfl 44 (.tmp 6) (.tmp 159) rfl (w.heap.size + 1) (ansL 0 kp0 (.slice none 0 0)).toArray rfl rfl 44 _ HB.out.1 (by kernel_rfl) rfl (by simp [ansL, Value.oneCell']) ?_)
  refine bodyPost_ret (results_single rfl (.cell (w.heap.size + 1) 44 (ansL 0 kp0 (.slice none 0 0)).toArray (0, 0) _ rfl (setRow_heap _ _ _ _ _ _ HB.out.1) Tryz.underlying44 rfl (by kernel_rfl) .nil)) rfl ?_
  have hx := HBX.out
  exact ⟨⟨kp0, .slice none 0 0, rfl, rfl, rfl⟩, ans_fin HM.out hx ⟨F, (HM.out.below hx.b).mono (by omega), fun j hj => .inl hj⟩ (Moved.of_below (Below.refl _ _)) ((Only.refl _ _ _).row _ (by omega) (by omega))⟩

noncomputable def St.allS (S : St) (x : Ch) (id : Int) : St := if x.d = 1 then (S.make x.bk).1 else if x.d = 2 then (S.remove x.bk).1 else S.callS x id
structure St.Few (S : St) : Prop where
  fine : S.Fine
  few : S.B.length ≤ 64
theorem few_new : St.Few St.new := ⟨fine_new, Nat.zero_le _⟩
theorem fine_make {S : St} (h : S.Fine) (s : List UInt8) : (S.make s).1.Fine := by
  unfold St.make
  split
  · exact h
  · split
    · exact h
    · split
      · exact h
      · exact ⟨h.len, h.dt⟩
theorem B_make {S : St} (h : S.B.length ≤ 64) (s : List UInt8) : (S.make s).1.B.length ≤ 64 := by
  unfold St.make
  split
  · exact h
  · split
    · exact h
    · split
      · exact h
      · rename_i hh
        show (S.B ++ [s]).length ≤ 64
        rw [List.length_append]
        show S.B.length + 1 ≤ 64
        omega
theorem B_remove {S : St} (h : S.B.length ≤ 64) (s : List UInt8) : (S.remove s).1.B.length ≤ 64 := by
  unfold St.remove
  split
  · exact h
  · split
    · exact h
    · split
      · exact h
      · exact Nat.le_trans (List.length_filter_le _ _) h
theorem B_callS (S : St) (x : Ch) (id : Int) : (S.callS x id).B = S.B := by
  unfold St.callS St.doPut St.doDel St.doEra
  split
  · split <;> rfl
  · split
    · split <;> rfl
    · split
      · split <;> rfl
      · rfl
theorem few_allS {S : St} (h : S.Few) (x : Ch) (id : Int) : (S.allS x id).Few := by
  unfold St.allS
  split
  · exact ⟨fine_make h.fine _, B_make h.few _⟩
  · split
    · exact ⟨fine_remove h.fine _, B_remove h.few _⟩
    · exact ⟨fine_callS h.fine _ _, by rw [B_callS]; exact h.few⟩
end Go.Proofs.YtjbjcfnbgcloiaaGreatDoor

/- The document's own model (strongboxref22) in memory: buckets in order, objects with their versions and bytes. -/
set_option linter.unusedSimpArgs false
set_option linter.unusedVariables false
namespace Go.Proofs.YtjbjcfnbgcloiaaGreatDoor
open Go.RowKit Nam YtjbjcfnbgcloiaaGreatDoorW.PrintWords

def RowG {α : Type} (P : World → (Nat → Prop) → α → List Value → Prop) (sz : Nat) (w : World) (F : Nat → Prop) (v : Value) (xs : List α) : Prop := ∃ news, NewsAt w F v news xs.length ∧ Reps (P w F) sz xs news
structure Stays {α : Type} (P : World → (Nat → Prop) → α → List Value → Prop) : Prop where
  kept : ∀ {w w' : World} {F : Nat → Prop} {x : α} {cs : List Value}, P w F x cs → FKept F w w' → P w' F x cs
  mono : ∀ {w : World} {F F' : Nat → Prop} {x : α} {cs : List Value}, P w F x cs → (∀ k, F k → F' k) → P w F' x cs
theorem RowG.kept {α : Type} {P : World → (Nat → Prop) → α → List Value → Prop} (hP : Stays P) {sz : Nat} {w w' : World} {F : Nat → Prop} {v : Value} {xs : List α} (h : RowG P sz w F v xs) (hk : FKept F w w') : RowG P sz w' F v xs := by
  obtain ⟨news, h1, h2⟩ := h
  exact ⟨news, h1.kept hk, h2.imp_ fun _ _ hp => hP.kept hp hk⟩
theorem RowG.mono {α : Type} {P : World → (Nat → Prop) → α → List Value → Prop} (hP : Stays P) {sz : Nat} {w : World} {F F' : Nat → Prop} {v : Value} {xs : List α} (h : RowG P sz w F v xs) (hf : ∀ k, F k → F' k) : RowG P sz w F' v xs := by
  obtain ⟨news, h1, h2⟩ := h
  exact ⟨news, h1.mono hf, h2.imp_ fun _ _ hp => hP.mono hp hf⟩
theorem rowG_nil {α : Type} (P : World → (Nat → Prop) → α → List Value → Prop) (sz : Nat) (w : World) (F : Nat → Prop) : RowG P sz w F (.slice none 0 0) [] := ⟨[], .inl ⟨rfl, rfl, rfl⟩, Reps.none _ _⟩
theorem RowG.slice {α : Type} {P : World → (Nat → Prop) → α → List Value → Prop} {sz : Nat} {w : World} {F : Nat → Prop} {v : Value} {xs : List α} (h : RowG P sz w F v xs) : ∃ A c, v = .slice A xs.length c ∧ xs.length ≤ c := by
  obtain ⟨news, h1, _⟩ := h
  exact h1.slice
theorem RowG.at_ {α : Type} {P : World → (Nat → Prop) → α → List Value → Prop} {sz : Nat} {w : World} {F : Nat → Prop} {v : Value} {xs : List α} (h : RowG P sz w F v xs) (j : Nat) {x : α} (hx : xs[j]? = some x) :
    ∃ g c cs, v = .slice (some ⟨g, 0, none⟩) xs.length c ∧ F g ∧ P w F x cs ∧ ∀ i u, i < sz → cs[i]? = some u → w.cell? ⟨g, j * sz + i, none⟩ = some u := by
  obtain ⟨news, h1, h2⟩ := h
  rcases h1 with ⟨rfl, e, _⟩ | ⟨g, c, rfl, _, hg, h4⟩
  · rw [List.length_eq_zero_iff] at e
    subst e
    cases hx
  · refine ⟨g, c, _, rfl, hg, h2.2 j x hx, fun i u hi hu => h4 (j * sz + i) u ?_⟩
    rw [List.getElem?_take, List.getElem?_drop] at hu
    rw [if_pos hi] at hu
    exact hu

def StrE (_ : World) (_ : Nat → Prop) (s : List UInt8) (cs : List Value) : Prop := cs = [.string (mkS s)]
def VerE (_ : World) (_ : Nat → Prop) (y : Kp) (cs : List Value) : Prop := cs = [.int .i64 y.id, .bool y.mark, .int .i64 y.sz, .int .u32 y.sum]
def DatE (w : World) (F : Nat → Prop) (y : Kp) (cs : List Value) : Prop := ∃ A c, cs = [.slice A y.dt.length c] ∧ y.dt.length ≤ c ∧ DatF w F A y.dt
theorem str_stays : Stays StrE := ⟨fun h _ => h, fun h _ => h⟩
theorem ver_stays : Stays VerE := ⟨fun h _ => h, fun h _ => h⟩
theorem dat_stays : Stays DatE := ⟨fun ⟨A, c, h1, h2, h3⟩ hk => ⟨A, c, h1, h2, h3.kept hk⟩, fun ⟨A, c, h1, h2, h3⟩ hf => ⟨A, c, h1, h2, h3.mono hf⟩⟩
structure Ob where
  bk : List UInt8
  ky : List UInt8
  rs : List Kp
def ObE (w : World) (F : Nat → Prop) (o : Ob) (cs : List Value) : Prop := ∃ vs ds, cs = [.string (mkS o.bk), .string (mkS o.ky), vs, ds] ∧ RowG VerE 4 w F vs o.rs ∧ RowG DatE 1 w F ds o.rs
theorem ob_stays : Stays ObE := ⟨fun ⟨a, b, h1, h2, h3⟩ hk => ⟨a, b, h1, h2.kept ver_stays hk, h3.kept dat_stays hk⟩, fun ⟨a, b, h1, h2, h3⟩ hf => ⟨a, b, h1, h2.mono ver_stays hf, h3.mono dat_stays hf⟩⟩
structure RefM (w : World) (g : Nat) (B : List (List UInt8)) (L : List Ob) (b0 : Nat) (Q F : Nat → Prop) : Prop where
  ic : ∀ k, Q k ∨ F k → IsC w k
  qb : ∀ k, Q k → b0 ≤ k
  ap : ∀ k, Q k → ¬ F k
  qg : Q g
  ex : ∃ vb vl news, w.heap[g]? = some (.cells #[vb, vl] 62 (0, 0)) ∧ RowG StrE 1 w F vb B ∧ w.ownsRow b0 71 4 vl L.length news ∧ Reps (ObE w F) 4 L news ∧ ∀ k, vl.ownBlock = some k → Q k
theorem RefM.kept {w w' : World} {g b0 : Nat} {B : List (List UInt8)} {L : List Ob} {Q F : Nat → Prop} (h : RefM w g B L b0 Q F) (hk : ∀ k, Q k ∨ F k → w'.heap[k]? = w.heap[k]?) (hs : w.heap.size ≤ w'.heap.size) : RefM w' g B L b0 Q F := by
  obtain ⟨vb, vl, news, h1, h2, h3, h4, h5⟩ := h.ex
  have hF : FKept F w w' := fun k hF => hk k (.inr hF)
  refine ⟨fun k hq => ?_, h.qb, h.ap, h.qg, vb, vl, news, (hk g (.inl h.qg)).trans h1, h2.kept str_stays hF, ?_, h4.imp_ fun _ _ hp => ob_stays.kept hp hF, h5⟩
  · obtain ⟨a, b, c, e⟩ := h.ic k hq
    exact ⟨a, b, c, (hk k hq).trans e⟩
  · rcases h3.2 with ⟨e1, e2⟩ | ⟨g2, cap, cur, e1, e2, e3, e4⟩
    · exact ⟨h3.1, .inl ⟨e1, e2⟩⟩
    · exact ⟨h3.1, .inr ⟨g2, cap, cur, e1, e2, (hk g2 (.inl (h5 g2 (by rw [e1]; rfl)))).trans e3, e4⟩⟩
theorem RefM.below {w w' : World} {g b0 : Nat} {B : List (List UInt8)} {L : List Ob} {Q F : Nat → Prop} (h : RefM w g B L b0 Q F) (hb : Below w.heap.size w w') : RefM w' g B L b0 Q F :=
  h.kept (fun k hk => hb.block k (isC_lt (h.ic k hk))) hb.size
theorem RefM.maps {w w' : World} {g b0 : Nat} {B : List (List UInt8)} {L : List Ob} {Q F Q2 : Nat → Prop} (h : RefM w g B L b0 Q F) (hm : Moved Q2 w w') (hq : ∀ k, Q2 k → IsM w k) : RefM w' g B L b0 Q F :=
  h.kept (fun k hk => hm.block k (isC_lt (h.ic k hk)) (fun q => isC_not (h.ic k hk) (hq k q))) hm.size
theorem RefM.cells {w : World} {g b0 : Nat} {B : List (List UInt8)} {L : List Ob} {Q F : Nat → Prop} (h : RefM w g B L b0 Q F) :
    ∃ A c A2 c2, w.cell? ⟨g, 0, none⟩ = some (.slice A B.length c) ∧ B.length ≤ c ∧ w.cell? ⟨g, 1, none⟩ = some (.slice A2 L.length c2) ∧ L.length ≤ c2 ∧ g < w.heap.size ∧
      (∀ (j : Nat) (s : List UInt8), B[j]? = some s → ∃ gb, A = some ⟨gb, 0, none⟩ ∧ w.cell? ⟨gb, j, none⟩ = some (.string (mkS s))) ∧
      ∀ (j : Nat) (o : Ob), L[j]? = some o → ∃ gl vs ds, A2 = some ⟨gl, 0, none⟩ ∧ w.cell? ⟨gl, j * 4, none⟩ = some (.string (mkS o.bk)) ∧ w.cell? ⟨gl, j * 4 + 1, none⟩ = some (.string (mkS o.ky)) ∧ w.cell? ⟨gl, j * 4 + 2, none⟩ = some vs ∧ w.cell? ⟨gl, j * 4 + 3, none⟩ = some ds ∧ RowG VerE 4 w F vs o.rs ∧ RowG DatE 1 w F ds o.rs := by
  obtain ⟨vb, vl, news, h1, h2, h3, h4, h5⟩ := h.ex
  obtain ⟨A, c, rfl, hc⟩ := h2.slice
  obtain ⟨A2, c2, hv, hc2⟩ : ∃ A2 c2, vl = .slice A2 L.length c2 ∧ L.length ≤ c2 := by
    rcases h3.2 with ⟨e1, e2⟩ | ⟨g2, cap, cur, e1, e2, e3, e4, e5⟩
    · exact ⟨none, 0, by rw [e1, e2], by omega⟩
    · exact ⟨_, cap, e1, by omega⟩
  subst hv
  refine ⟨A, c, A2, c2, blk_cell h1 0, hc, blk_cell h1 1, hc2, blk_lt h1, fun j s hs => ?_, fun j o ho => ?_⟩
  · obtain ⟨gb, c', cs, e, _, e3, e4⟩ := h2.at_ j hs
    injection e with e _ _
    refine ⟨gb, e, ?_⟩
    have := e4 0 (.string (mkS s)) (by omega) (by rw [e3]; rfl)
    simpa using this
  · have hjl : j < L.length := (List.getElem?_eq_some_iff.1 ho).1
    obtain ⟨gl, cap, e, _⟩ := h3.form (by omega)
    injection e with e _ _
    subst e
    obtain ⟨vs, ds, e1, e2, e3⟩ := h4.2 j o ho
    have hcell : ∀ i u, i < 4 → [Value.string (mkS o.bk), .string (mkS o.ky), vs, ds][i]? = some u → w.cell? ⟨gl, j * 4 + i, none⟩ = some u := fun i u hi hu => by
      have := h3.cells rfl (j * 4 + i) u
      rw [add_plain] at this
      refine this ?_
      rw [← e1, List.getElem?_take, if_pos hi, List.getElem?_drop] at hu
      exact hu
    exact ⟨gl, vs, ds, rfl, hcell 0 _ (by omega) rfl, hcell 1 _ (by omega) rfl, hcell 2 _ (by omega) rfl, hcell 3 _ (by omega) rfl, e2, e3⟩

theorem RefM.frz {w : World} {g b0 : Nat} {B : List (List UInt8)} {L : List Ob} {Q F : Nat → Prop} (h : RefM w g B L b0 Q F) : ∀ V, Below w.heap.size w V → ∀ i, V.frozen? ⟨g, i, none⟩ = false := fun V hV i => by
  obtain ⟨vb, vl, news, h1, _⟩ := h.ex
  exact blk_frozen (blk_below h1 hV) i
theorem RefM.rowB {w : World} {g b0 : Nat} {B : List (List UInt8)} {L : List Ob} {Q F : Nat → Prop} (h : RefM w g B L b0 Q F) {v : Value} (hc : w.cell? ⟨g, 0, none⟩ = some v) : RowG StrE 1 w F v B := by
  obtain ⟨vb, vl, news, h1, h2, _⟩ := h.ex
  have e := blk_cell h1 0
  rw [hc] at e
  have e' : v = vb := by
    have e2 : some v = some vb := e
    injection e2
  rw [e']
  exact h2
theorem RefM.lay {w : World} {g b0 : Nat} {B : List (List UInt8)} {L : List Ob} {Q F : Nat → Prop} (h : RefM w g B L b0 Q F) :
    ∃ A c A2 c2, B.length ≤ c ∧ L.length ≤ c2 ∧ Hid (∀ V, Below w.heap.size w V → V.cell? ⟨g, 0, none⟩ = some (.slice A B.length c) ∧ V.cell? ⟨g, 1, none⟩ = some (.slice A2 L.length c2)) ∧
      Hid (∀ (j : Nat) (s : List UInt8), B[j]? = some s → ∃ gb, A = some ⟨gb, 0, none⟩ ∧ ∀ V, Below w.heap.size w V → V.cell? ⟨gb, j, none⟩ = some (.string (mkS s))) ∧
      Hid (∀ (j : Nat) (o : Ob), L[j]? = some o → ∃ gl vs ds, A2 = some ⟨gl, 0, none⟩ ∧ RowG VerE 4 w F vs o.rs ∧ RowG DatE 1 w F ds o.rs ∧ ∀ V, Below w.heap.size w V → V.cell? ⟨gl, j * 4, none⟩ = some (.string (mkS o.bk)) ∧ V.cell? ⟨gl, j * 4 + 1, none⟩ = some (.string (mkS o.ky)) ∧ V.cell? ⟨gl, j * 4 + 2, none⟩ = some vs ∧ V.cell? ⟨gl, j * 4 + 3, none⟩ = some ds) := by
  obtain ⟨A, c, A2, c2, h1, h2, h3, h4, h5, h6, h7⟩ := h.cells
  refine ⟨A, c, A2, c2, h2, h4, fun V hV => ⟨pw_cell_below hV h1, pw_cell_below hV h3⟩, fun j s hs => ?_, fun j o ho => ?_⟩
  · obtain ⟨gb, e, hc⟩ := h6 j s hs
    exact ⟨gb, e, fun V hV => pw_cell_below hV hc⟩
  · obtain ⟨gl, vs, ds, e, c0, c1, c2', c3, r1, r2⟩ := h7 j o ho
    exact ⟨gl, vs, ds, e, r1, r2, fun V hV => ⟨pw_cell_below hV c0, pw_cell_below hV c1, pw_cell_below hV c2', pw_cell_below hV c3⟩⟩

set_option maxHeartbeats 1000000 in
theorem rnew_is (w : World) : Calls Tryz.prog 8 #[] w fun e w' => ∃ g, e = .returned (.pointer (some ⟨g, 0, none⟩)) ∧ w.heap.size ≤ g ∧ Below w.heap.size w w' ∧ RefM w' g [] [] w.heap.size (fun k => k = g) (fun _ => False) := by
  go_enter Tryz.func8, Tryz.ntmps8
  go_wp2_with fail
  go_ret
  refine ⟨_, rfl, Nat.le_refl _, (Below.refl _ _).alloc (Nat.le_refl _) _, fun k hk => ?_, fun k hk => ?_, fun _ _ h => h, rfl, .slice none 0 0, .slice none 0 0, [], blk_new w _, rowG_nil _ _ _ _, own_nil _ _ _ _, Reps.none _ _, fun k hk => ?_⟩
  · rcases hk with rfl | hk
    · exact ⟨_, _, _, blk_new w _⟩
    · exact hk.elim
  · subst hk
    exact Nat.le_refl _
  · simp [Value.ownBlock] at hk
end Go.Proofs.YtjbjcfnbgcloiaaGreatDoor

/- What the document's own answer for names computes: the same contracts (without paths). -/
namespace Go.Proofs.YtjbjcfnbgcloiaaGreatDoor
open Go.RowKit Nam

set_option maxHeartbeats 400000 in
theorem rprefix_is (a b : ByteArray) (w : World) (ha : a.size ≤ maxLen) (hb : b.size ≤ maxLen) : Calls Tryz.prog 100 #[.string a, .string b] w fun e w' => e = .returned (.bool (prefixB a.data.toList b.data.toList)) ∧ w = w' := by
  unfold maxLen at ha hb
  by_cases h : b.size ≤ a.size
  · have hz : (b.size : Int) ≤ (a.size : Int) := by omega
    go_enter Tryz.func100, Tryz.ntmps100
    go_wp2
    go_ret
    refine ⟨congrArg (fun x => Ending.returned (Value.bool x)) ?_, rfl⟩
    unfold prefixB
    rw [ByteArray.toList_eq, ByteArray.toList_eq, Lib.extract_data, size_list, size_list]
    simp [h]
  · have hz : (a.size : Int) < (b.size : Int) := by omega
    go_enter Tryz.func100, Tryz.ntmps100
    go_wp2
    go_ret
    refine ⟨congrArg (fun x => Ending.returned (Value.bool x)) ?_, rfl⟩
    unfold prefixB
    rw [size_list, size_list, decide_eq_false h]
    rfl

set_option maxHeartbeats 1000000 in
theorem rless_is (a b : ByteArray) (w : World) (ha : a.size ≤ maxLen) (hb : b.size ≤ maxLen) : Calls Tryz.prog 66 #[.string a, .string b] w fun e w' => e = .returned (.bool (Op.bytesLess a.toList b.toList)) ∧ ∃ n, w' = w.drewN n := by
  unfold maxLen at ha hb
  obtain ⟨L, hL⟩ : ∃ L, Op.bytesLess a.toList b.toList = L := ⟨_, rfl⟩
  rw [hL]
  rw [ByteArray.toList_eq, ByteArray.toList_eq] at hL
  go_enter Tryz.func66, Tryz.ntmps66
  go_wp2_with fail
  go_loopw [5] (fun v wr => ∃ k q : Nat, v = .int .i64 k ∧ k ≤ a.size ∧ k ≤ b.size ∧ wr = w.drewN q ∧ Hid (Op.bytesLess (a.data.toList.drop k) (b.data.toList.drop k) = L)) (fun v _ => a.size - (intOf v).toNat)
  case atStart => exact ⟨0, 0, rfl, Nat.zero_le _, Nat.zero_le _, rfl, hL⟩
  case round =>
    obtain ⟨k, q, rfl, hka, hkb, rfl, HL⟩ := hrel
    clear hL
    by_cases pa : k < a.size
    · by_cases pb : k < b.size
      · have pza : (k : Int) < (a.size : Int) := by omega
        have pzb : (k : Int) < (b.size : Int) := by omega
        have hl := HL.out
        rw [drop_at a k pa, drop_at b k pb, less_cons] at hl
        by_cases hne : a[k] = b[k]
        · have hl2 : Hid (Op.bytesLess (a.data.toList.drop (k + 1)) (b.data.toList.drop (k + 1)) = L) := by
            show _ = _
            rw [hne] at hl
            simpa using hl
          have hbb : ((a[k].toNat : Int) == (b[k].toNat : Int)) = true := by rw [beq_iff_eq, hne]
          clear hl HL hne
          go_wp2_with fail
          go_quiet (fail)
          go_wp2
          go_roundw
          case rel => exact ⟨k + 1, q + nq, by go_num, by omega, by omega, by first | rfl | rw [World.drewN_drewN], hl2⟩
          case measure => simp [intOf]; omega
        · have hbb : ((a[k].toNat : Int) == (b[k].toNat : Int)) = false := by
            rw [beq_eq_false_iff_ne]
            intro h
            exact hne (UInt8.toNat_inj.1 (by omega))
          have hr : Hid (decide ((a[k].toNat : Int) < (b[k].toNat : Int)) = L) := by
            show _ = _
            have e : (a[k] == b[k]) = false := by simpa using hne
            rw [e, Bool.false_and, Bool.or_false] at hl
            rw [← hl, Bool.eq_iff_iff, decide_eq_true_eq, decide_eq_true_eq, UInt8.lt_iff_toNat_lt]
            omega
          clear hl HL hne
          go_wp2_with fail
          go_quiet (fail)
          go_wp2_with fail
          go_quiet (fail)
          go_wp2
          go_ret
          exact ⟨congrArg (fun x => Ending.returned (Value.bool x)) (by have h0 := hr.out; simpa using h0), _, by rw [World.drewN_drewN, World.drewN_drewN]⟩
      · have pzb : (b.size : Int) ≤ (k : Int) := by omega
        have hl : L = false := by
          have e0 : b.data.toList.drop k = [] := List.drop_eq_nil_of_le (by rw [size_list]; omega)
          rw [← HL.out, e0, less_nil]
        subst hl
        clear HL
        go_wp2
        go_ret
        exact ⟨congrArg (fun x => Ending.returned (Value.bool x)) (by rw [decide_eq_false_iff_not]; omega), q, rfl⟩
    · have pza : (a.size : Int) ≤ (k : Int) := by omega
      have hl : Hid (L = decide ((a.size : Int) < (b.size : Int))) := by
        show _ = _
        have e0 : a.data.toList.drop k = [] := List.drop_eq_nil_of_le (by rw [size_list]; omega)
        rw [← HL.out, e0]
        by_cases pb : k < b.size
        · rw [drop_at b k pb, decide_eq_true (by omega)]
          rfl
        · rw [List.drop_eq_nil_of_le (by rw [size_list]; omega), decide_eq_false (by omega)]
          rfl
      clear HL
      go_wp2
      go_ret
      exact ⟨congrArg (fun x => Ending.returned (Value.bool x)) (by have h0 := hl.out.symm; simpa using h0), q, rfl⟩

theorem bw_cons (was : Bool) (c : UInt8) (t : List UInt8) : bw was (c :: t) = if plainB (c.toNat : Int) then bw false t else if jointB (c.toNat : Int) = true ∧ was = false then bw true t else none := by
  conv => lhs; unfold bw

set_option maxHeartbeats 2000000 in
theorem rbucket_is (s : ByteArray) (w : World) (hs : s.size ≤ maxLen) : Calls Tryz.prog 18 #[.string s] w fun e w' => e = .returned (.bool (bucketB s.data.toList)) ∧ w = w' := by
  unfold maxLen at hs
  obtain ⟨R, hR⟩ : ∃ R, bw true s.data.toList = R := ⟨_, rfl⟩
  have hB : bucketB s.data.toList = (decide (3 ≤ s.size) && decide (s.size ≤ 63) && (R == some false)) := by rw [← hR]; unfold bucketB; rw [size_list]
  rw [hB]
  clear hB
  by_cases h3 : 3 ≤ s.size ∧ s.size ≤ 63
  · rw [decide_eq_true h3.1, decide_eq_true h3.2, Bool.true_and, Bool.true_and]
    have z1 : (3 : Int) ≤ (s.size : Int) := by omega
    have z2 : (s.size : Int) ≤ 63 := by omega
    have HR := Lib.hid hR; clear hR
    go_enter Tryz.func18, Tryz.ntmps18
    go_wp2_with fail
    go_loop [3, 4] (fun m v => ∃ (k : Nat) (was : Bool), k ≤ s.size ∧ v = .int .i64 k ∧ m = .bool was ∧ Hid (bw was (s.data.toList.drop k) = R)) (fun _ v => s.size - (intOf v).toNat)
    case atStart => exact ⟨0, true, Nat.zero_le _, rfl, rfl, by exact HR⟩
    case round =>
      obtain ⟨k, was, hk, rfl, rfl, HW⟩ := hrel
      by_cases hp : k < s.size
      · have hpz : (k : Int) < (s.size : Int) := by omega
        have hw := HW.out
        rw [drop_at s k hp, bw_cons] at hw
        obtain ⟨n, hn⟩ : ∃ n, (s[k]).toNat = n := ⟨_, rfl⟩
        rw [hn] at hw
        by_cases hpl : plainB (n : Int) = true
        · rw [if_pos hpl] at hw
          have HW2 := Lib.hid hw; clear hw
          unfold plainB at hpl
          simp only [Bool.or_eq_true, Bool.and_eq_true, decide_eq_true_eq] at hpl
          have b1 : ((n : Int) == 45) = false := by rw [beq_eq_false_iff_ne]; omega
          have b2 : ((n : Int) == 46) = false := by rw [beq_eq_false_iff_ne]; omega
          rcases hpl with ⟨p1, p2⟩ | ⟨p1, p2⟩
          · go_wp2
            go_round
            case rel => exact ⟨k + 1, false, by omega, by go_num, rfl, HW2⟩
            case measure => simp [intOf]; omega
          · have p3 : (n : Int) < 97 := by omega
            go_wp2
            go_round
            case rel => exact ⟨k + 1, false, by omega, by go_num, rfl, HW2⟩
            case measure => simp [intOf]; omega
        · rw [if_neg hpl] at hw
          unfold plainB at hpl
          simp only [Bool.or_eq_true, Bool.and_eq_true, decide_eq_true_eq] at hpl
          by_cases hj : jointB (n : Int) = true
          · unfold jointB at hj
            simp only [Bool.or_eq_true, beq_iff_eq] at hj
            cases was
            · rw [if_pos ⟨by unfold jointB; simpa using hj, rfl⟩] at hw
              have HW2 := Lib.hid hw; clear hw
              rcases hj with hj | hj
              all_goals
                obtain rfl : n = _ := by exact_mod_cast hj
                go_wp2
                go_round
                case rel => exact ⟨k + 1, true, by omega, by go_num, rfl, HW2⟩
                case measure => simp [intOf]; omega
            · rw [if_neg (by simp)] at hw
              have hf : (R == some false) = false := by rw [← hw]; rfl
              have HF := Lib.hid hf; clear hf
              clear hw HW
              rcases hj with hj | hj
              all_goals
                obtain rfl : n = _ := by exact_mod_cast hj
                go_wp2
                go_ret
                exact ⟨congrArg (fun x => Ending.returned (Value.bool x)) HF.out.symm, rfl⟩
          · rw [if_neg (by simp [hj])] at hw
            have hf : (R == some false) = false := by rw [← hw]; rfl
            have HF := Lib.hid hf; clear hf
            clear hw HW
            unfold jointB at hj
            simp only [Bool.or_eq_true, beq_iff_eq] at hj
            have b1 : ((n : Int) == 45) = false := by rw [beq_eq_false_iff_ne]; omega
            have b2 : ((n : Int) == 46) = false := by rw [beq_eq_false_iff_ne]; omega
            go_wp2
            all_goals
              first
              | (exfalso; omega)
              | (go_ret; exact ⟨congrArg (fun x => Ending.returned (Value.bool x)) HF.out.symm, rfl⟩)
      · have hpz : (s.size : Int) ≤ (k : Int) := by omega
        have hw := HW.out
        rw [List.drop_eq_nil_of_le (by rw [size_list]; omega)] at hw
        have hr : (R == some false) = !was := by rw [← hw]; cases was <;> rfl
        have HF := Lib.hid hr; clear hr
        clear hw HW HR
        go_wp2
        go_ret
        exact ⟨congrArg (fun x => Ending.returned (Value.bool x)) HF.out.symm, rfl⟩
  · have hf : (decide (3 ≤ s.size) && decide (s.size ≤ 63) && (R == some false)) = false := by
      by_cases h1 : 3 ≤ s.size
      · rw [decide_eq_false (by omega : ¬ s.size ≤ 63)]; simp
      · rw [decide_eq_false h1]; simp
    rw [hf]
    clear hR hf
    go_enter Tryz.func18, Tryz.ntmps18
    go_wp2_with fail
    all_goals
      first
      | (exfalso; omega)
      | (go_ret; exact ⟨rfl, rfl⟩)

set_option maxHeartbeats 2000000 in
theorem rkey_is (s : ByteArray) (w : World) (hs : s.size ≤ maxLen) (hT : Tabs w) : Calls Tryz.prog 19 #[.string s] w fun e w' => e = .returned (.bool (keyB s.data.toList)) ∧ Below w.heap.size w w' := by
  have hV := valid_is s w hs hT
  unfold maxLen at hs
  have HV := Lib.hid hV; clear hV
  have HT := Lib.hid hT; clear hT
  have hlist : s.toList = s.data.toList := ByteArray.toList_eq s
  by_cases h0 : s.toList = []
  · have hk : keyB s.data.toList = false := by unfold keyB; rw [← hlist, h0]; rfl
    rw [hk]; clear hk
    clear hlist
    go_enter Tryz.func19, Tryz.ntmps19
    go_wp2
    go_ret
    exact ⟨rfl, Below.refl _ _⟩
  · have h0e : s.toList.isEmpty = false := by simpa using h0
    by_cases h2 : s.size ≤ 200
    · have h2z : (s.size : Int) ≤ 200 := by omega
      by_cases hv : Lib.validD s.data.toList = true
      · obtain ⟨R, hR⟩ : ∃ R, s.data.toList.all keyByte = R := ⟨_, rfl⟩
        have hk : keyB s.data.toList = R := by
          unfold keyB
          rw [hR, hv, size_list, decide_eq_true h2, decide_eq_true (by rw [← hlist]; exact h0)]
          simp
        rw [hk]; clear hk hlist
        rw [hv] at HV
        have H0 := Lib.hid h0; clear h0
        have HR : Hid (Lib.validD (s.data.toList.drop 0) = true ∧ (s.data.toList.drop 0).all keyByte = R) := ⟨hv, hR⟩
        clear hv hR
        go_enter Tryz.func19, Tryz.ntmps19
        go_wp2_with fail
        refine HV.out.mono ?_
        rintro e w1 ⟨rfl, hb1⟩
        go_wp2_with fail
        go_loopw [] (fun w' => ∃ (k : Nat), w' = w1.iter s k ∧ k ≤ s.size ∧ Hid (Lib.validD (s.data.toList.drop k) = true ∧ (s.data.toList.drop k).all keyByte = R)) (fun w' => s.size - w'.iterPos w1.heap.size)
        case atStart => exact ⟨0, rfl, Nat.zero_le _, HR⟩
        case round =>
          obtain ⟨k, rfl, hk, HK⟩ := hrel
          have hb2 : Below w.heap.size w (w1.iter s k) := hb1.alloc hb1.size _
          by_cases hp : k < s.size
          · have hnx : ∀ ty, (Instr.next (.pointer (some ⟨w1.heap.size, 0, none⟩)) true ty).run Tryz.prog (w1.iter s k) = _ := fun ty => run_next_any w1 s k ty hp
            have hne : s.data.toList.drop k ≠ [] := by
              intro e
              have := congrArg List.length e
              rw [List.length_drop, size_list] at this
              simp at this; omega
            have hw1 := width_pos s k hp
            have hle := decode_le s k
            have hdl := Lib.decodeL_drop s k
            have hd := drop_at s k hp
            obtain ⟨n, p2, hnp⟩ : ∃ n p2, Utf8.decode s k = (n, p2) := ⟨_, _, rfl⟩
            have STEP : Hid ((n < 128 → p2 = 1 ∧ Lib.validD (s.data.toList.drop (k + 1)) = true ∧ R = (decide (32 ≤ n) && decide (n ≠ 127) && (s.data.toList.drop (k + 1)).all keyByte)) ∧
                (128 ≤ n → k + p2 ≤ s.size ∧ Lib.validD (s.data.toList.drop (k + p2)) = true ∧ (s.data.toList.drop (k + p2)).all keyByte = R)) := by
              show _ ∧ _
              obtain ⟨kv, ka⟩ := HK.out
              by_cases ha : (s[k]).toNat < 128
              · have h1 := decode_ascii s k hp ha
                rw [hnp] at h1
                obtain ⟨e1, e2⟩ := Prod.mk.inj h1
                refine ⟨fun _ => ⟨e2, ?_, ?_⟩, fun h => by omega⟩
                · rw [hd, Lib.validD_cons _ _ ha] at kv
                  exact kv
                · rw [hd, List.all_cons] at ka
                  rw [← ka, e1]
                  rfl
              · have h1 := decode_high s k hp (by omega)
                rw [hnp] at h1
                have h128 : 128 ≤ (((s.data.toList.drop k).getD 0 0)).toNat := by
                  rw [hd]; simp; omega
                have hh := high_key _ hne h128 kv
                have hl := Lib.decodeL_le _ hne
                rw [hdl, hnp] at hh hl
                rw [List.drop_drop] at hh
                simp only [] at hh hl
                rw [List.length_drop, size_list] at hl
                exact ⟨fun h => by have := h1.1; simp at this; omega, fun _ => ⟨by omega, hh.1, by rw [← hh.2]; exact ka⟩⟩
            rw [hnp] at hle hnx hw1
            simp only [] at hle hnx hw1
            clear hnp hne hdl hd
            have h32 : IntKind.i32.wrap (n : Int) = (n : Int) := IntWalk.i32_in _ (by omega)
            by_cases hn : n < 128
            · obtain ⟨rfl, sv, sr⟩ := STEP.out.1 hn
              have SR := Lib.hid sr; clear sr
              by_cases hn32 : n < 32
              · have hz : (n : Int) < 32 := by omega
                have hrf : R = false := by rw [SR.out, decide_eq_false (by omega : ¬ 32 ≤ n)]; rfl
                have HRF := Lib.hid hrf; clear hrf
                go_wp2
                go_ret
                exact ⟨congrArg (fun x => Ending.returned (Value.bool x)) HRF.out.symm, hb1.alloc hb1.size _⟩
              · have hz : (32 : Int) ≤ (n : Int) := by omega
                by_cases hn7 : n = 127
                · have hrf : R = false := by rw [SR.out, hn7]; rfl
                  have HRF := Lib.hid hrf; clear hrf
                  have hz7 : ((n : Int) == 127) = true := by rw [beq_iff_eq]; omega
                  have HN7 := Lib.hid hn7; clear hn7
                  go_wp2
                  go_ret
                  exact ⟨congrArg (fun x => Ending.returned (Value.bool x)) HRF.out.symm, hb1.alloc hb1.size _⟩
                · have hz7 : ((n : Int) == 127) = false := by rw [beq_eq_false_iff_ne]; omega
                  have hg : (s.data.toList.drop (k + 1)).all keyByte = R := by rw [SR.out, decide_eq_true (by omega : 32 ≤ n), decide_eq_true hn7]; simp
                  have HG := Lib.hid hg; clear hg
                  go_wp2
                  go_roundw
                  case rel => exact ⟨k + 1, rfl, by omega, ⟨sv, HG.out⟩⟩
                  case measure => simp; omega
            · obtain ⟨s1, s2, s3⟩ := STEP.out.2 (by omega)
              have S3 := Lib.hid s3; clear s3
              have hz : (32 : Int) ≤ (n : Int) := by omega
              have hz7 : ((n : Int) == 127) = false := by rw [beq_eq_false_iff_ne]; omega
              go_wp2
              go_roundw
              case rel => exact ⟨k + p2, rfl, by omega, ⟨s2, S3.out⟩⟩
              case measure => simp; omega
          · have hnx : ∀ ty, (Instr.next (.pointer (some ⟨w1.heap.size, 0, none⟩)) true ty).run Tryz.prog (w1.iter s k) = _ := fun ty => run_next_end w1 s k ty hp
            have hr : R = true := by
              have e2 := HK.out.2
              rw [List.drop_eq_nil_of_le (by rw [size_list]; omega)] at e2
              exact e2.symm
            have HRT := Lib.hid hr; clear hr
            go_wp2
            go_ret
            exact ⟨congrArg (fun x => Ending.returned (Value.bool x)) HRT.out.symm, hb2⟩
      · have hk : keyB s.data.toList = false := by unfold keyB; simp [hv]
        rw [hk]; clear hk hlist
        have hv' : Lib.validD s.data.toList = false := by simpa using hv
        rw [hv'] at HV
        clear hv hv'
        go_enter Tryz.func19, Tryz.ntmps19
        go_wp2_with fail
        refine HV.out.mono ?_
        rintro e w1 ⟨rfl, hb1⟩
        go_wp2
        go_ret
        exact ⟨rfl, hb1⟩
    · have h2z : (200 : Int) < (s.size : Int) := by omega
      have hk : keyB s.data.toList = false := by unfold keyB; rw [size_list, decide_eq_false h2]; simp
      rw [hk]; clear hk
      clear hlist
      go_enter Tryz.func19, Tryz.ntmps19
      go_wp2
      go_ret
      exact ⟨rfl, Below.refl _ _⟩
end Go.Proofs.YtjbjcfnbgcloiaaGreatDoor

/- The document's own model: is a bucket there, an object's place, the names' errors. -/
set_option linter.unusedSimpArgs false
set_option linter.unusedVariables false
namespace Go.Proofs.YtjbjcfnbgcloiaaGreatDoor
open Go.RowKit Nam YtjbjcfnbgcloiaaGreatDoorW.PrintWords

theorem streq_no {a b : List UInt8} (h : a ≠ b) : ((mkS a).toList == (mkS b).toList) = false := by
  have e : ∀ l, (mkS l).toList = l := fun l => by rw [ByteArray.toList_eq]; rfl
  rw [e, e]
  simp [h]
theorem streq_yes (a : List UInt8) : ((mkS a).toList == (mkS a).toList) = true := by simp

set_option maxHeartbeats 1000000 in
set_option maxRecDepth 100000 in
theorem rthere_is (w : World) (g : Nat) (B : List (List UInt8)) (L : List Ob) (b0 : Nat) (Q F : Nat → Prop) (s : List UInt8) (hB : B.length ≤ 100000) (hm : RefM w g B L b0 Q F) :
    Calls Tryz.prog 65 #[.pointer (some ⟨g, 0, none⟩), .string (mkS s)] w fun e w' => e = .returned (.bool (decide (s ∈ B))) ∧ Below w.heap.size w w' := by
  obtain ⟨A, c, A2, c2, hc, _, HG, HB, _⟩ := hm.lay
  clear hm
  obtain ⟨n, hn⟩ : ∃ n, B.length = n := ⟨_, rfl⟩
  rw [hn] at HG hc hB
  go_enter Tryz.func65, Tryz.ntmps65
  go_wp2_with fail
  go_loopw [5] (fun vi wr => ∃ (j : Nat), vi = .int .i64 j ∧ j ≤ n ∧ Hid (s ∉ B.take j) ∧ Hid (Below w.heap.size w wr)) (fun vi _ => n - (intOf vi).toNat)
  case atStart => exact ⟨0, rfl, Nat.zero_le _, by show s ∉ B.take 0; simp, Below.refl _ _⟩
  case round =>
    obtain ⟨j, rfl, hj, HN, HW⟩ := hrel
    obtain ⟨g0, g1⟩ := HG.out _ HW.out
    by_cases hlt : j < n
    · have hltz : (j : Int) < (n : Int) := by omega
      have hjB : j < B.length := by omega
      obtain ⟨t, ht⟩ : ∃ t, B[j]? = some t := ⟨_, List.getElem?_eq_getElem hjB⟩
      obtain ⟨gb, rfl, hcell⟩ := HB.out j t ht
      have a0 := hcell _ HW.out
      clear hcell
      by_cases he : t = s
      · subst he
        have q := streq_yes t
        go_wp2_with fail
        go_ret
        exact ⟨by rw [decide_eq_true (List.mem_of_getElem? ht)]; rfl, HW.out⟩
      · have q := streq_no he
        have HN2 : Hid (s ∉ B.take (j + 1)) := by
          show ¬ _
          rw [List.take_add_one, ht]
          intro h
          rcases List.mem_append.1 h with h | h
          · exact HN.out h
          · simp at h
            exact he h.symm
        go_wp2_with fail
        go_roundw
        case rel => exact ⟨j + 1, by go_num, by omega, HN2, HW⟩
        case measure => simp [intOf]; omega
    · have hltz : ¬ (j : Int) < (n : Int) := by omega
      have hN : s ∉ B := by
        have h := HN.out
        rwa [List.take_of_length_le (by omega)] at h
      clear HN
      go_wp2_with fail
      go_ret
      exact ⟨by first | rfl | (rw [decide_eq_false hN]; rfl), HW.out⟩

def atP (b k : List UInt8) (o : Ob) : Bool := decide (o.bk = b) && decide (o.ky = k)
def atI (L : List Ob) (b k : List UInt8) : Int := match L.findIdx? (atP b k) with
  | some j => (j : Int)
  | none => -1
theorem at_hit {L : List Ob} {b k : List UInt8} {j : Nat} {o : Ob} (h : L[j]? = some o) (hp : atP b k o = true) (hn : ∀ o' ∈ L.take j, atP b k o' = false) : atI L b k = (j : Int) := by
  obtain ⟨hj, e⟩ := List.getElem?_eq_some_iff.1 h
  have : L.findIdx? (atP b k) = some j := by
    rw [List.findIdx?_eq_some_iff_getElem]
    refine ⟨hj, by rw [e]; exact hp, fun i hi => ?_⟩
    rw [hn L[i] (List.mem_iff_getElem.2 ⟨i, by rw [List.length_take]; omega, by rw [List.getElem_take]⟩)]
    simp
  unfold atI
  rw [this]
theorem at_miss {L : List Ob} {b k : List UInt8} (hn : ∀ o ∈ L, atP b k o = false) : atI L b k = -1 := by
  have : L.findIdx? (atP b k) = none := by
    rw [List.findIdx?_eq_none_iff]
    exact hn
  unfold atI
  rw [this]
theorem at_spec (L : List Ob) (b k : List UInt8) : (atI L b k = -1 ∧ ∀ o ∈ L, atP b k o = false) ∨ ∃ (j : Nat) (o : Ob), atI L b k = (j : Int) ∧ L[j]? = some o ∧ atP b k o = true := by
  cases h : L.findIdx? (atP b k) with
  | none =>
    rw [List.findIdx?_eq_none_iff] at h
    exact .inl ⟨at_miss h, h⟩
  | some j =>
    have h' := h
    rw [List.findIdx?_eq_some_iff_getElem] at h
    obtain ⟨hj, hp, _⟩ := h
    refine .inr ⟨j, L[j], ?_, List.getElem?_eq_getElem hj, hp⟩
    unfold atI
    rw [h']
set_option maxHeartbeats 1000000 in
set_option maxRecDepth 100000 in
theorem rat_is (w : World) (g : Nat) (B : List (List UInt8)) (L : List Ob) (b0 : Nat) (Q F : Nat → Prop) (b k : List UInt8) (hL : L.length ≤ 100000) (hm : RefM w g B L b0 Q F) :
    Calls Tryz.prog 71 #[.pointer (some ⟨g, 0, none⟩), .string (mkS b), .string (mkS k)] w fun e w' => e = .returned (.int .i64 (atI L b k)) ∧ Below w.heap.size w w' := by
  obtain ⟨A, c, A2, c2, _, hc, HG, _, HB⟩ := hm.lay
  clear hm
  obtain ⟨n, hn⟩ : ∃ n, L.length = n := ⟨_, rfl⟩
  rw [hn] at HG hc hL
  go_enter Tryz.func71, Tryz.ntmps71
  go_wp2_with fail
  go_loopw [7] (fun vi wr => ∃ (j : Nat), vi = .int .i64 j ∧ j ≤ n ∧ Hid (∀ o ∈ L.take j, atP b k o = false) ∧ Hid (Below w.heap.size w wr)) (fun vi _ => n - (intOf vi).toNat)
  case atStart => exact ⟨0, rfl, Nat.zero_le _, by show ∀ o ∈ L.take 0, _; simp, Below.refl _ _⟩
  case round =>
    obtain ⟨j, rfl, hj, HN, HW⟩ := hrel
    obtain ⟨g0, g1⟩ := HG.out _ HW.out
    by_cases hlt : j < n
    · have hltz : (j : Int) < (n : Int) := by omega
      obtain ⟨o, ho⟩ : ∃ o, L[j]? = some o := ⟨_, List.getElem?_eq_getElem (by omega)⟩
      obtain ⟨gl, vs, ds, rfl, _, _, hcell⟩ := HB.out j o ho
      obtain ⟨a0, a1, a2, a3⟩ := hcell _ HW.out
      clear hcell a2 a3
      have HNo : Hid (atP b k o = false → ∀ o ∈ L.take (j + 1), atP b k o = false) := fun hf o' ho' => by
        rw [List.take_add_one, ho] at ho'
        rcases List.mem_append.1 ho' with h | h
        · exact HN.out o' h
        · simp at h
          rw [h]
          exact hf
      by_cases e1 : o.bk = b
      · have q1 := streq_yes b
        by_cases e2 : o.ky = k
        · have q2 := streq_yes k
          have hat := at_hit ho (show atP b k o = true by unfold atP; rw [e1, e2]; simp) HN.out
          rw [e1] at a0
          rw [e2] at a1
          clear HNo HN
          go_wp2_with fail
          go_ret
          exact ⟨by first | rfl | (rw [hat]; rfl), HW.out⟩
        · have q2 := streq_no e2
          have hf := HNo.out (by unfold atP; simp [e2])
          have HF := Lib.hid hf
          clear hf HNo
          rw [e1] at a0
          go_wp2_with fail
          go_roundw
          case rel => exact ⟨j + 1, by go_num, by omega, HF, HW⟩
          case measure => simp [intOf]; omega
      · have q1 := streq_no e1
        have hf := HNo.out (by unfold atP; simp [e1])
        have HF := Lib.hid hf
        clear hf HNo
        go_wp2_with fail
        go_roundw
        case rel => exact ⟨j + 1, by go_num, by omega, HF, HW⟩
        case measure => simp [intOf]; omega
    · have hltz : ¬ (j : Int) < (n : Int) := by omega
      have hat : atI L b k = -1 := at_miss (by
        have h := HN.out
        rwa [List.take_of_length_le (by omega)] at h)
      clear HN
      go_wp2_with fail
      go_ret
      exact ⟨by first | rfl | (rw [hat]; rfl), HW.out⟩

def askE (B : List (List UInt8)) (b k : List UInt8) : Int := if namedB b k = false then 12 else if b ∉ B then 13 else 0
set_option maxHeartbeats 1000000 in
set_option maxRecDepth 100000 in
theorem rask_is (w : World) (g : Nat) (B : List (List UInt8)) (L : List Ob) (b0 : Nat) (Q F : Nat → Prop) (b k : List UInt8) (hb : b.length ≤ 100000) (hk : k.length ≤ 100000) (hB : B.length ≤ 100000) (hm : RefM w g B L b0 Q F) (hT : Tabs w) :
    Calls Tryz.prog 67 #[.pointer (some ⟨g, 0, none⟩), .string (mkS b), .string (mkS k)] w fun e w' => e = .returned (.int .i64 (askE B b k)) ∧ Below w.heap.size w w' := by
  have hsb : (mkS b).size ≤ maxLen := by rw [mkS_size]; unfold maxLen; omega
  have hsk : (mkS k).size ≤ maxLen := by rw [mkS_size]; unfold maxLen; omega
  obtain ⟨ok, hok⟩ : ∃ ok, bucketB b = ok := ⟨_, rfl⟩
  obtain ⟨kk, hkk⟩ : ∃ kk, keyB k = kk := ⟨_, rfl⟩
  obtain ⟨th, hth⟩ : ∃ th, decide (b ∈ B) = th := ⟨_, rfl⟩
  have HBk : Hid (Calls Tryz.prog 18 #[.string (mkS b)] w fun e w' => e = .returned (.bool ok) ∧ w = w') := by
    have := rbucket_is (mkS b) w hsb
    rw [mkS_list, hok] at this
    exact this
  have HKy : Hid (Calls Tryz.prog 19 #[.string (mkS k)] w fun e w' => e = .returned (.bool kk) ∧ Below w.heap.size w w') := by
    have := rkey_is (mkS k) w hsk hT
    rw [mkS_list, hkk] at this
    exact this
  have HTh : Hid (∀ V, Below w.heap.size w V → Calls Tryz.prog 65 #[.pointer (some ⟨g, 0, none⟩), .string (mkS b)] V fun e w' => e = .returned (.bool th) ∧ Below w.heap.size w w') := fun V hV => by
    have := rthere_is V g B L b0 Q F b hB (hm.below hV)
    rw [hth] at this
    exact this.mono fun e w' ⟨he, h2⟩ => ⟨he, hV.trans (h2.mono hV.size)⟩
  have hE : askE B b k = if ok = false then 12 else if kk = false then 12 else if th = false then 13 else 0 := by
    unfold askE namedB
    rw [hok, hkk]
    cases ok <;> cases kk <;> cases th <;> simp_all
  rw [hE]
  have HT := Lib.hid hT
  clear hm hok hkk hth hE hsb hsk hT
  cases ok with
  | false =>
    go_enter Tryz.func67, Tryz.ntmps67
    go_wp2_with fail
    refine HBk.out.mono ?_
    rintro e w1 ⟨rfl, rfl⟩
    go_wp2_with fail
    go_ret
    exact ⟨rfl, Below.refl _ _⟩
  | true =>
    cases kk with
    | false =>
      go_enter Tryz.func67, Tryz.ntmps67
      go_wp2_with fail
      refine HBk.out.mono ?_
      rintro e w1 ⟨rfl, rfl⟩
      go_wp2_with fail
      refine HKy.out.mono ?_
      rintro e w2 ⟨rfl, hb2⟩
      go_wp2_with fail
      go_ret
      exact ⟨rfl, hb2⟩
    | true =>
      cases th with
      | false =>
        go_enter Tryz.func67, Tryz.ntmps67
        go_wp2_with fail
        refine HBk.out.mono ?_
        rintro e w1 ⟨rfl, rfl⟩
        go_wp2_with fail
        refine HKy.out.mono ?_
        rintro e w2 ⟨rfl, hb2⟩
        go_wp2_with fail
        refine (HTh.out _ hb2).mono ?_
        rintro e w3 ⟨rfl, hb3⟩
        go_wp2_with fail
        go_ret
        exact ⟨rfl, hb3⟩
      | true =>
        go_enter Tryz.func67, Tryz.ntmps67
        go_wp2_with fail
        refine HBk.out.mono ?_
        rintro e w1 ⟨rfl, rfl⟩
        go_wp2_with fail
        refine HKy.out.mono ?_
        rintro e w2 ⟨rfl, hb2⟩
        go_wp2_with fail
        refine (HTh.out _ hb2).mono ?_
        rintro e w3 ⟨rfl, hb3⟩
        go_wp2_with fail
        go_ret
        exact ⟨rfl, hb3⟩
end Go.Proofs.YtjbjcfnbgcloiaaGreatDoor

/- Rows that are appended to, whatever their elements; a part of a row. -/
set_option linter.unusedSimpArgs false
set_option linter.unusedVariables false
namespace Go.Proofs.YtjbjcfnbgcloiaaGreatDoor
open Go.RowKit Nam YtjbjcfnbgcloiaaGreatDoorW.PrintWords Go.Shelf

theorem rg_app {α : Type} {R : α → List Value → Prop} {sz : Nat} {ps qs : List α} {cs ds : List Value} (h : Reps R sz ps cs) (k : Reps R sz qs ds) : Reps R sz (ps ++ qs) (cs ++ ds) := by
  refine ⟨by rw [List.length_append, List.length_append, h.1, k.1, Nat.add_mul], fun j p hp => ?_⟩
  by_cases hj : j < ps.length
  · rw [List.getElem?_append_left hj] at hp
    have h2 := h.2 j p hp
    have hle : (j + 1) * sz ≤ ps.length * sz := Nat.mul_le_mul_right _ hj
    rw [Nat.add_mul, Nat.one_mul] at hle
    have h1 := h.1
    rw [List.drop_append_of_le_length (by omega), List.take_append_of_le_length (by rw [List.length_drop]; omega)]
    exact h2
  · rw [List.getElem?_append_right (by omega)] at hp
    have h2 := k.2 (j - ps.length) p hp
    have h1 := h.1
    have e : j * sz = cs.length + (j - ps.length) * sz := by
      rw [h1, ← Nat.add_mul]
      congr 1
      omega
    rw [e, ← List.drop_drop, List.drop_left]
    exact h2
theorem rg_take {α : Type} {R : α → List Value → Prop} {sz : Nat} {ps : List α} {cs : List Value} (h : Reps R sz ps cs) (k : Nat) : Reps R sz (ps.take k) (cs.take (k * sz)) := by
  refine ⟨?_, fun j p hp => ?_⟩
  · rw [List.length_take, List.length_take, h.1]
    rcases Nat.le_total k ps.length with hk | hk
    · have := Nat.mul_le_mul_right sz hk
      rw [Nat.min_eq_left hk, Nat.min_eq_left this]
    · have := Nat.mul_le_mul_right sz hk
      rw [Nat.min_eq_right hk, Nat.min_eq_right this]
  · rw [List.getElem?_take] at hp
    split at hp
    · rename_i hj
      have h2 := h.2 j p hp
      have hle : (j + 1) * sz ≤ k * sz := Nat.mul_le_mul_right _ hj
      rw [Nat.add_mul, Nat.one_mul] at hle
      rw [List.drop_take, List.take_take, Nat.min_eq_left (by omega)]
      exact h2
    · cases hp
theorem rg_drop {α : Type} {R : α → List Value → Prop} {sz : Nat} {ps : List α} {cs : List Value} (h : Reps R sz ps cs) (k : Nat) : Reps R sz (ps.drop k) (cs.drop (k * sz)) := by
  refine ⟨?_, fun j p hp => ?_⟩
  · rw [List.length_drop, List.length_drop, h.1, ← Nat.sub_mul]
  · rw [List.getElem?_drop] at hp
    have h2 := h.2 (k + j) p hp
    rw [List.drop_drop, ← Nat.add_mul]
    exact h2
theorem reps_sing {α : Type} {R : α → List Value → Prop} {sz : Nat} {p : α} {c : List Value} (h : R p c) (hc : c.length = sz) : Reps R sz [p] c := by
  have := (Reps.none R sz).snoc h hc
  simpa using this
theorem rg_ones {α : Type} {R : α → List Value → Prop} {sz : Nat} {ps : List α} {cs : List Value} (h : Reps R sz ps cs) (hs : 0 < sz) (h1 : ∀ p c, R p c → ∀ u ∈ c, u.oneCell' = true) : ∀ u ∈ cs, u.oneCell' = true := Kd.reps_one h hs h1

def LiesAt (w : World) (x : Value) (n : Nat) (cells : List Value) : Prop := (x = .slice none 0 0 ∧ n = 0 ∧ cells = []) ∨ ∃ b o c, x = .slice (some ⟨b, o, none⟩) n c ∧ n ≤ c ∧ ∀ j u, cells[j]? = some u → w.cell? ⟨b, o + j, none⟩ = some u
theorem LiesAt.below {w V : World} {x : Value} {n : Nat} {cells : List Value} (h : LiesAt w x n cells) (hb : Below w.heap.size w V) : LiesAt V x n cells := by
  rcases h with h | ⟨b, o, c, h1, h2, h3⟩
  · exact .inl h
  · exact .inr ⟨b, o, c, h1, h2, fun j u hu => pw_cell_below hb (h3 j u hu)⟩
theorem NewsAt.lies {w : World} {F : Nat → Prop} {v : Value} {news : List Value} {n : Nat} (h : NewsAt w F v news n) : LiesAt w v n news := by
  rcases h with h | ⟨g, c, h1, h2, _, h4⟩
  · exact .inl h
  · exact .inr ⟨g, 0, c, h1, h2, fun j u hu => by rw [Nat.zero_add]; exact h4 j u hu⟩
theorem LiesAt.to_ {w : World} {A : Option Addr} {n c : Nat} {cells : List Value} (h : LiesAt w (.slice A n c) n cells) (k sz : Nat) (hk : k ≤ n) : LiesAt w (.slice A k c) k (cells.take (k * sz)) := by
  rcases h with ⟨e, e2, e3⟩ | ⟨b, o, c', e, h2, h3⟩
  · injection e with e1 e4 e5
    subst e1
    subst e5
    obtain rfl : k = 0 := by omega
    exact .inl ⟨rfl, rfl, by simp⟩
  · injection e with e1 e4 e5
    subst e1
    subst e5
    exact .inr ⟨b, o, c, rfl, by omega, fun j u hu => h3 j u (by
      rw [List.getElem?_take] at hu
      split at hu
      · exact hu
      · cases hu)⟩
theorem LiesAt.from_ {w : World} {A : Option Addr} {n c : Nat} {cells : List Value} (h : LiesAt w (.slice A n c) n cells) (k sz : Nat) (hk : k ≤ n) (hl : cells.length = n * sz) : LiesAt w (.slice (if c = k then A else A.map (·.add (k * sz))) (n - k) (c - k)) (n - k) (cells.drop (k * sz)) := by
  rcases h with ⟨e, e2, e3⟩ | ⟨b, o, c', e, h2, h3⟩
  · injection e with e1 e4 e5
    subst e1
    subst e5
    obtain rfl : k = 0 := by omega
    subst e3
    exact .inl ⟨by simp [e2], by omega, by simp⟩
  · injection e with e1 e4 e5
    subst e1
    subst e5
    by_cases hck : c = k
    · have hnk : n = k := by omega
      rw [if_pos hck]
      refine .inr ⟨b, o, c - k, rfl, by omega, fun j u hu => ?_⟩
      rw [List.getElem?_drop] at hu
      have := (List.getElem?_eq_some_iff.1 hu).1
      rw [hl, hnk] at this
      omega
    · rw [if_neg hck]
      refine .inr ⟨b, o + k * sz, c - k, by simp [Addr.add_mid], by omega, fun j u hu => ?_⟩
      rw [List.getElem?_drop] at hu
      rw [Nat.add_assoc]
      exact h3 _ u hu
theorem LiesAt.grown {w V : World} {x : Value} {n : Nat} {cells : List Value} {row : Option Nat} (h : LiesAt w x n cells) (hg : w.grownBy V row) (hne : ∀ b o c, x = .slice (some ⟨b, o, none⟩) n c → some b ≠ row) : LiesAt V x n cells := by
  rcases h with h | ⟨b, o, c, h1, h2, h3⟩
  · exact .inl h
  · refine .inr ⟨b, o, c, h1, h2, fun j u hu => ?_⟩
    have h4 := h3 j u hu
    exact (World.cell?_of_block (hg.block b (World.block_lt_of_cell? w _ h4) (hne b o c h1))).trans h4
theorem lies_new (W : World) (cs : Array Value) (t : TypeId) (fr : Nat × Nat) : LiesAt (W.alloc (.cells cs t fr)) (.slice (some ⟨W.heap.size, 0, none⟩) cs.size cs.size) cs.size cs.toList := by
  refine .inr ⟨_, 0, _, rfl, Nat.le_refl _, fun j u hu => ?_⟩
  have h := blk_new W (.cells cs t fr)
  obtain ⟨V, hV⟩ : ∃ V, W.alloc (.cells cs t fr) = V := ⟨_, rfl⟩
  rw [hV] at h ⊢
  rw [Nat.zero_add, ← hu]
  simp [World.cell?, h]
structure ApT (T E : TypeId) (z : Value) (sz bytes : Nat) : Prop where
  u : Tryz.prog.underlying T = some (.slice E)
  i : (Tryz.prog.info? E).map (fun i => (i.zero, i.size, i.bytes)) = some (some z, sz, bytes)
  zs : z.cells.size = sz
  s0 : 0 < sz
  b0 : bytes ≤ 1000
theorem ap_lies {T E : TypeId} {z : Value} {sz bytes : Nat} (ht : ApT T E z sz bytes) {w : World} {base n m : Nat} {v x : Value} {xs cs : List Value} (hown : w.ownsRow base E sz v n xs) (hx : LiesAt w x m cs) (hl : cs.length = m * sz) (h1 : ∀ u ∈ cs, u.oneCell' = true)
    (hn : n + m ≤ 1000000000) (hbase : base ≤ w.heap.size) (ty : TypeId) :
    ∃ v' w', (Builtin.append_ #[T, T] ty #[v, x]).run Tryz.prog w = .ok v' w' ∧ w'.ownsRow base E sz v' (n + m) (xs ++ cs) ∧ w.grownBy w' v.ownBlock ∧ (v'.ownBlock = v.ownBlock ∨ v'.ownBlock = some w.heap.size) := by
  obtain ⟨i0, hi, hz0, hz1, hz2⟩ := info_parts ht.i
  rcases hx with ⟨rfl, rfl, rfl⟩ | ⟨b, o, cap, rfl, hb, hc⟩
  · exact ⟨v, w, run_append_owned_none (P := Tryz.prog) (w := w) base _ ty _ i0 sz ht.u hi v _ _ hown, by simpa using hown, ⟨rfl, rfl, rfl, Nat.le_refl _, fun _ _ _ => rfl⟩, .inl rfl⟩
  · obtain ⟨v', w', h1', h2, h3, _, h5⟩ := run_append_own_at (P := Tryz.prog) (w := w) base _ ty _ i0 _ sz bytes ht.u hi hz0 hz1 hz2 ht.zs ht.s0 v _ _ hown ⟨b, o, none⟩ m cap cs hl
      (fun j u hj => by rw [Go.WideShapes.add_plain]; exact hc j u hj) h1 (by unfold maxLen; omega) (by
        have := Nat.mul_le_mul hn ht.b0
        omega) hbase
    exact ⟨v', w', h1', h2, h3, h5⟩
theorem wp_ap_lies {T E : TypeId} {z : Value} {sz bytes : Nat} (ht : ApT T E z sz bytes) {w : World} {o : Oper} {a : Act} {K : Act → World → Prop} {Q : Exit → Act → World → Prop} (s u : Operand)
    (ho : o.op = .call { callee := .builtin .append, args := #[s, u], argTypes := #[T, T] })
    {base n m : Nat} {v x : Value} {xs cs : List Value} (hs : a.eval s = v) (hown : w.ownsRow base E sz v n xs) (hu : a.eval u = x) (hx : LiesAt w x m cs) (hl : cs.length = m * sz) (h1 : ∀ u ∈ cs, u.oneCell' = true)
    (hn : n + m ≤ 1000000000) (hbase : base ≤ w.heap.size)
    (h : ∀ v' w', w'.ownsRow base E sz v' (n + m) (xs ++ cs) → w.grownBy w' v.ownBlock → (v'.ownBlock = v.ownBlock ∨ v'.ownBlock = some w.heap.size) → K (a.put o.dst v') w') : o.wp Tryz.prog a w K Q := by
  obtain ⟨v', w', hr, h2, h3, h4⟩ := ap_lies ht hown hx hl h1 hn hbase o.type
  unfold Oper.wp execOp
  simp only [ho, resolve, invoke, builtin, Sem.run_bind, Sem.run_pure, Result.andThen_ok, List.map_toArray, List.map_cons, List.map_nil, hs, hu, hr]
  exact h v' w' h2 h3 h4
theorem wpList_ap_lies {T E : TypeId} {z : Value} {sz bytes : Nat} (ht : ApT T E z sz bytes) {w : World} {ops : Array Oper} {rest : List Oper} {o : Oper} {a : Act} {Q : Exit → Act → World → Prop} (hgd : o.guard = none) (s u : Operand)
    (ho : o.op = .call { callee := .builtin .append, args := #[s, u], argTypes := #[T, T] })
    {base n m : Nat} {v x : Value} {xs cs : List Value} (hs : a.eval s = v) (hown : w.ownsRow base E sz v n xs) (hu : a.eval u = x) (hx : LiesAt w x m cs) (hl : cs.length = m * sz) (h1 : ∀ u ∈ cs, u.oneCell' = true)
    (hn : n + m ≤ 1000000000) (hbase : base ≤ w.heap.size)
    (h : ∀ v' w', w'.ownsRow base E sz v' (n + m) (xs ++ cs) → w.grownBy w' v.ownBlock → (v'.ownBlock = v.ownBlock ∨ v'.ownBlock = some w.heap.size) → wpList Tryz.prog ops Q rest (a.put o.dst v') w') : wpList Tryz.prog ops Q (o :: rest) a w :=
  wpList_plain hgd fun _ hK => wp_ap_lies ht s u ho hs hown hu hx hl h1 hn hbase fun v' w' h2 h3 h4 => hK _ _ (h v' w' h2 h3 h4)
theorem step_ap_lies {T E : TypeId} {z : Value} {sz bytes : Nat} (ht : ApT T E z sz bytes) {w : World} {ops : Array Oper} {o : Oper} {a : Act} {K : Act → World → Prop} {Q : Exit → Act → World → Prop} {X : Prop} (hgd : o.guard = none) (s u : Operand)
    (ho : o.op = .call { callee := .builtin .append, args := #[s, u], argTypes := #[T, T] })
    {base n m : Nat} {v x : Value} {xs cs : List Value} (hs : a.eval s = v) (hown : w.ownsRow base E sz v n xs) (hu : a.eval u = x) (hx : LiesAt w x m cs) (hl : cs.length = m * sz) (h1 : ∀ u ∈ cs, u.oneCell' = true)
    (hn : n + m ≤ 1000000000) (hbase : base ≤ w.heap.size)
    (h : ∀ v' w', w'.ownsRow base E sz v' (n + m) (xs ++ cs) → w.grownBy w' v.ownBlock → (v'.ownBlock = v.ownBlock ∨ v'.ownBlock = some w.heap.size) → K (a.put o.dst v') w') :
    if Region.wanted o (yielded ops a.tmps) = true then Oper.wp Tryz.prog o a w K Q else X := by
  have hw : Region.wanted o (yielded ops a.tmps) = true := by simp [Region.wanted, hgd]
  rw [if_pos hw]
  exact wp_ap_lies ht s u ho hs hown hu hx hl h1 hn hbase h
theorem rowG_own {α : Type} {P : World → (Nat → Prop) → α → List Value → Prop} {E : TypeId} {sz base : Nat} {w : World} {F : Nat → Prop} {v : Value} {xs : List α} {news : List Value} (hown : w.ownsRow base E sz v xs.length news) (hr : Reps (P w F) sz xs news) (hf : ∀ k, v.ownBlock = some k → F k) : RowG P sz w F v xs := by
  refine ⟨news, ?_, hr⟩
  rcases hown.2 with ⟨e1, e2⟩ | ⟨g, cap, cur, e1, e2, e3, e4, e5⟩
  · refine .inl ⟨e1, e2, ?_⟩
    have := hown.1
    rw [e2, Nat.zero_mul] at this
    exact List.length_eq_zero_iff.1 this
  · refine .inr ⟨g, cap, e1, by omega, hf g (by rw [e1]; rfl), fun j u hu => ?_⟩
    have := hown.cells (g := g) (by rw [e1]; rfl) j u hu
    rwa [add_plain] at this
theorem apS : ApT 42 9 (.string ⟨#[]⟩) 1 16 := ⟨Tryz.underlying42, by kernel_rfl, rfl, by decide, by decide⟩
theorem apV : ApT 68 38 (.agg #[.int .i64 0, .bool false, .int .i64 0, .int .u32 0]) 4 32 := ⟨Tryz.underlying68, by kernel_rfl, rfl, by decide, by decide⟩
theorem apD : ApT 69 30 (.slice none 0 0) 1 24 := ⟨Tryz.underlying69, by kernel_rfl, rfl, by decide, by decide⟩
theorem apB : ApT 30 5 (.int .u8 0) 1 1 := ⟨Tryz.underlying30, by kernel_rfl, rfl, by decide, by decide⟩
theorem apO : ApT 60 71 (.agg #[.string ⟨#[]⟩, .string ⟨#[]⟩, .slice none 0 0, .slice none 0 0]) 4 80 := ⟨Tryz.underlying60, by kernel_rfl, rfl, by decide, by decide⟩
end Go.Proofs.YtjbjcfnbgcloiaaGreatDoor
