/- ModelLists: what lists tell is what Heads tell. -/
import Derived.Test.YtjbjcfnbgcloiaaDoorCb6
import Derived.Deep.QuietTactic
import Derived.BigQuiet
import Derived.Test.YtjbjcfnbgcloiaaDoorLaysN
import Derived.Test.YtjbjcfnbgcloiaaDoorCards
import Derived.Test.YtjbjcfnbgcloiaaDoorTie
import Derived.Deep.DeepHandedRow
import Derived.Lib.LaidIn
import Derived.Lib.LaidU8T
set_option linter.unusedSimpArgs false
set_option linter.unusedVariables false

set_option linter.unusedSimpArgs false
set_option linter.unusedVariables false
namespace Go.Proofs.YtjbjcfnbgcloiaaDoor
open Go.RowKit Nam YtjbjcfnbgcloiaaDoorW.PrintWords Go.Lib

set_option maxHeartbeats 2000000 in
set_option maxRecDepth 100000 in
theorem call_none (w : World) (g : Nat) (S : St) (n : Nat) (Q F : Nat → Prop) (b k pf fr : List UInt8) (dv : Value) (d id nn a fi mo : Int) (h1 : ¬ d = 1) (h2 : ¬ d = 2) (h3 : ¬ d = 3) (h4 : ¬ d = 4) (h5 : ¬ d = 5) (h6 : ¬ d = 6) (h7 : ¬ d = 7) (h8 : ¬ d = 8) (h9 : ¬ d = 9) (h10 : ¬ d = 10) (hm : HasM w g S n Q F) :
    Calls Tryd.prog 10 #[.pointer (some ⟨g, 0, none⟩), .agg #[.int .i64 d, .string (mkS b), .string (mkS k), dv, .int .i64 nn, .int .i64 a, .string (mkS pf), .string (mkS fr), .int .i64 fi, .int .i64 mo], .int .i64 id] w
      (AnsIs (fun y dv _ => y = kp0 ∧ dv = .slice none 0 0) S n Q F g 0 w) := by
  obtain ⟨W3, hW3⟩ : ∃ W3, ((w.alloc (.cells #[.int .i64 d, .string (mkS b), .string (mkS k), dv, .int .i64 nn, .int .i64 a, .string (mkS pf), .string (mkS fr), .int .i64 fi, .int .i64 mo] 33)).alloc (.cells ans0 42)).alloc (.cells ans0 42) = W3 := ⟨_, rfl⟩
  have hbx := boxed_mk w #[.int .i64 d, .string (mkS b), .string (mkS k), dv, .int .i64 nn, .int .i64 a, .string (mkS pf), .string (mkS fr), .int .i64 fi, .int .i64 mo]
  rw [hW3] at hbx
  have HBX := Lib.hid hbx
  have HM := Lib.hid hm
  have HW3 := Lib.hid hW3
  have HB := Lib.hid (boxed_after hbx hm.q (Moved.of_below (Q := Q) (Below.refl _ _)))
  obtain ⟨c0, c1, c2, c3, c4, c5, c6, c7, c8, c9⟩ := chAt_of hbx.k4
  clear c1 c2 c3 c4 c5 c6 c7 c8 c9
  have e1 : (d == 1) = false := by simp; omega
  have e2 : (d == 2) = false := by simp; omega
  have e3 : (d == 3) = false := by simp; omega
  have e4 : (d == 4) = false := by simp; omega
  have e5 : (d == 5) = false := by simp; omega
  have e6 : (d == 6) = false := by simp; omega
  have e7 : (d == 7) = false := by simp; omega
  have e8 : (d == 8) = false := by simp; omega
  have e9 : (d == 9) = false := by simp; omega
  have e10 : (d == 10) = false := by simp; omega
  clear hm hbx hW3 h1 h2 h3 h4 h5 h6 h7 h8 h9 h10
  go_enter Tryd.func10, Tryd.ntmps10
  go_upto_region 2 with (fail)
  rw [HW3.out]
  clear HW3
  obtain ⟨z0, z1, z2, z3, z4, z5, z6, z7, z8, z9, z10⟩ := zeros_of HB.out.2.1
  go_wp2_with (refine wpList_store_row rfl 42 (.tmp 6) (.tmp 159) rfl (w.heap.size + 1) (ansL 0 kp0 (.slice none 0 0)).toArray rfl rfl 42 _ HB.out.1 (by kernel_rfl) rfl (by simp [ansL, Value.oneCell']) ?_)
  refine bodyPost_ret (results_single rfl (.cell (w.heap.size + 1) 42 (ansL 0 kp0 (.slice none 0 0)).toArray (0, 0) _ rfl (setRow_heap _ _ _ _ _ _ HB.out.1) Tryd.underlying42 rfl (by kernel_rfl) .nil)) rfl ?_
  have hx := HBX.out
  exact ⟨⟨kp0, .slice none 0 0, rfl, rfl, rfl⟩, ans_fin HM.out hx ⟨F, (HM.out.below hx.b).mono (by omega), fun j hj => .inl hj⟩ (Moved.of_below (Below.refl _ _)) ((Only.refl _ _ _).row _ (by omega) (by omega))⟩

/-! ### any choice -/
noncomputable def St.allS (S : St) (x : Ch) (id : Int) : St := if x.d = 1 then (S.make x.bk).1 else if x.d = 2 then (S.remove x.bk).1 else S.callS x id
/-- States stay small: buckets too. -/
structure St.Few (S : St) : Prop where
  fine : S.Fine
  few : S.B.length ≤ 64
theorem few_new : St.Few St.new := ⟨fine_new, Nat.zero_le _⟩
theorem fine_make {S : St} (h : S.Fine) (s : List UInt8) : (S.make s).1.Fine := by
  unfold St.make
  split
  · exact h
  · split
    · exact h
    · split
      · exact h
      · exact ⟨h.len, h.dt⟩
theorem B_make {S : St} (h : S.B.length ≤ 64) (s : List UInt8) : (S.make s).1.B.length ≤ 64 := by
  unfold St.make
  split
  · exact h
  · split
    · exact h
    · split
      · exact h
      · rename_i hh
        show (S.B ++ [s]).length ≤ 64
        rw [List.length_append]
        show S.B.length + 1 ≤ 64
        omega
theorem B_remove {S : St} (h : S.B.length ≤ 64) (s : List UInt8) : (S.remove s).1.B.length ≤ 64 := by
  unfold St.remove
  split
  · exact h
  · split
    · exact h
    · split
      · exact h
      · exact Nat.le_trans (List.length_filter_le _ _) h
theorem B_callS (S : St) (x : Ch) (id : Int) : (S.callS x id).B = S.B := by
  unfold St.callS St.doPut St.doDel St.doEra
  split
  · split <;> rfl
  · split
    · split <;> rfl
    · split
      · split <;> rfl
      · rfl
theorem few_allS {S : St} (h : S.Few) (x : Ch) (id : Int) : (S.allS x id).Few := by
  unfold St.allS
  split
  · exact ⟨fine_make h.fine _, B_make h.few _⟩
  · split
    · exact ⟨fine_remove h.fine _, B_remove h.few _⟩
    · exact ⟨fine_callS h.fine _ _, by rw [B_callS]; exact h.few⟩
/-- Some answer; the model may have new maps. -/
def AnyIs (S' : St) (n : Nat) (Q : Nat → Prop) (g : Nat) (w : World) (e : Ending) (w' : World) : Prop :=
  (∃ v, e = .returned v) ∧ (∃ Q' F', HasM w' g S' (n + 1) Q' F' ∧ ∀ j, Q' j → Q j ∨ w.heap.size ≤ j) ∧ Moved Q w w'
theorem any_below {w w' : World} {g n : Nat} {S : St} {Q F : Nat → Prop} {e : Ending} (hm : HasM w g S n Q F) (he : ∃ v, e = .returned v) (hb : Below w.heap.size w w') : AnyIs S n Q g w e w' :=
  ⟨he, ⟨Q, F, (hm.below hb).mono (by omega), fun j hj => .inl hj⟩, Moved.of_below hb⟩
theorem any_ans {w w' : World} {g n : Nat} {S' : St} {Q F : Nat → Prop} {P : Kp → Value → World → Prop} {er : Int} {e : Ending} (h : AnsIs P S' n Q F g er w e w') : AnyIs S' n Q g w e w' := by
  obtain ⟨⟨y, dv, he, _⟩, ⟨F', h1, _⟩, h2⟩ := h
  exact ⟨⟨_, he⟩, ⟨Q, F', h1, fun j hj => .inl hj⟩, h2⟩
theorem callA_is (w : World) (g : Nat) (S : St) (n : Nat) (Q F : Nat → Prop) (x : Ch) (A : Option Addr) (c : Nat) (id : Int) (hx : x.Short) (hn : n ≤ 10000) (hS : S.Few) (hm : HasM w g S n Q F)
    (hD : HasD w (.slice A (byN x.dt).length c) x.dt) (hT : Tabs w) :
    Calls Tryd.prog 10 #[.pointer (some ⟨g, 0, none⟩), .agg (chCells x (.slice A (byN x.dt).length c)).toArray, .int .i64 id] w (AnyIs (S.allS x id) n Q g w) := by
  by_cases hN : Named x
  · have ha : S.allS x id = S.callS x id := by
      unfold St.allS
      unfold Named at hN
      rw [if_neg (by omega), if_neg (by omega)]
    rw [ha]
    refine (call5_is w g S n Q F x A c id hN (by have := hx.bk; omega) (by have := hx.ky; omega) (by have := hx.dt; omega) (by omega) hS.fine hm (fun V hV => ?_) hT).mono fun e w' ⟨⟨y, dv, he⟩, ⟨F', h1⟩, h2⟩ => ⟨⟨_, he⟩, ⟨Q, F', h1, fun j hj => .inl hj⟩, h2⟩
    obtain ⟨A', c', e, _, hF⟩ := (hD.below hV).now
    injection e with e _ _
    subst e
    exact hF V (fun _ _ _ => rfl)
  · have hb := hx.bk
    have hpf := hx.pf
    obtain ⟨d, bk, ky, dt, nn, a, pf, fr, fi, mo⟩ := x
    unfold Named at hN
    simp only at hN hb hpf
    by_cases d1 : d = 1
    · subst d1
      have ha : S.allS ⟨1, bk, ky, dt, nn, a, pf, fr, fi, mo⟩ id = (S.make bk).1 := if_pos rfl
      rw [ha]
      exact (call_make w g S n Q F bk ky pf fr _ id nn a fi mo (by omega) (by omega) hm).mono fun e w' ⟨⟨y, dv, he, _⟩, ⟨Q', F', h1, h2, _⟩, h3⟩ => ⟨⟨_, he⟩, ⟨Q', F', h1, h2⟩, h3⟩
    by_cases d2 : d = 2
    · subst d2
      have ha : S.allS ⟨2, bk, ky, dt, nn, a, pf, fr, fi, mo⟩ id = (S.remove bk).1 := (if_neg (by show ¬ (2 : Int) = 1; decide)).trans (if_pos rfl)
      rw [ha]
      exact (call_rem w g S n Q F bk ky pf fr _ id nn a fi mo (by omega) (by omega) hm).mono fun e w' h => any_ans h
    have ha : S.allS ⟨d, bk, ky, dt, nn, a, pf, fr, fi, mo⟩ id = S := by
      unfold St.allS St.callS
      simp only
      rw [if_neg d1, if_neg d2, if_neg (by omega), if_neg (by omega), if_neg (by omega)]
    rw [ha]
    by_cases d3 : d = 3
    · subst d3
      exact (call_buckets w g S n Q F bk ky pf fr _ id nn a fi mo (by have := hS.few; omega) hm).mono fun e w' ⟨⟨v, ss, he, _⟩, hb⟩ => any_below hm ⟨_, he⟩ hb
    by_cases d9 : d = 9
    · subst d9
      exact (call_objs w g S n Q F bk ky pf fr _ id nn a fi mo (by omega) (by omega) hn hS.fine hm).mono fun e w' ⟨⟨er, sv, m, k, i, L, he, _⟩, hb⟩ => any_below hm ⟨_, he⟩ hb
    by_cases d10 : d = 10
    · subst d10
      exact (call_vers w g S n Q F bk ky pf fr _ id nn a fi mo (by omega) (by omega) hn hS.fine hm).mono fun e w' ⟨⟨er, sv, m, k, i, L, he, _⟩, hb⟩ => any_below hm ⟨_, he⟩ hb
    · exact (call_none w g S n Q F bk ky pf fr _ d id nn a fi mo d1 d2 d3 (by omega) (by omega) (by omega) (by omega) (by omega) d9 d10 hm).mono fun e w' h => any_ans h
end Go.Proofs.YtjbjcfnbgcloiaaDoor

/- ModelCopies: a copy goes its own way: what is done to the one is not seen in the other, whichever way. -/
set_option linter.unusedSimpArgs false
set_option linter.unusedVariables false
namespace Go.Proofs.YtjbjcfnbgcloiaaDoor
open Go.RowKit Nam YtjbjcfnbgcloiaaDoorW.PrintWords

/-! ### three models -/
def Three (w0 W : World) (g : Nat) (S : St) (n : Nat) (g2 : Nat) (S2 : St) (n2 : Nat) (g3 : Nat) (S3 : St) (n3 : Nat) : Prop :=
  Below w0.heap.size w0 W ∧ ∃ Q F Q2 F2 Q3 F3, HasM W g S n Q F ∧ HasM W g2 S2 n2 Q2 F2 ∧ HasM W g3 S3 n3 Q3 F3 ∧ (∀ k, Q k → w0.heap.size ≤ k) ∧ (∀ k, Q2 k → w0.heap.size ≤ k) ∧ (∀ k, Q3 k → w0.heap.size ≤ k) ∧ (∀ k, Q k → ¬ Q2 k) ∧ (∀ k, Q k → ¬ Q3 k) ∧ ∀ k, Q2 k → ¬ Q3 k
theorem Three.two12 {w0 W : World} {g n g2 n2 g3 n3 : Nat} {S S2 S3 : St} (h : Three w0 W g S n g2 S2 n2 g3 S3 n3) : Two w0 W g S n g2 S2 n2 := by
  obtain ⟨h0, Q, F, Q2, F2, Q3, F3, h1, h2, h3, k1, k2, k3, d12, d13, d23⟩ := h
  exact ⟨h0, Q, F, Q2, F2, h1, h2, k1, k2, d12⟩
theorem Three.two23 {w0 W : World} {g n g2 n2 g3 n3 : Nat} {S S2 S3 : St} (h : Three w0 W g S n g2 S2 n2 g3 S3 n3) : Two w0 W g2 S2 n2 g3 S3 n3 := by
  obtain ⟨h0, Q, F, Q2, F2, Q3, F3, h1, h2, h3, k1, k2, k3, d12, d13, d23⟩ := h
  exact ⟨h0, Q2, F2, Q3, F3, h2, h3, k2, k3, d23⟩
theorem Three.below {w0 W V : World} {g n g2 n2 g3 n3 : Nat} {S S2 S3 : St} (h : Three w0 W g S n g2 S2 n2 g3 S3 n3) (hb : Below W.heap.size W V) : Three w0 V g S n g2 S2 n2 g3 S3 n3 := by
  obtain ⟨h0, Q, F, Q2, F2, Q3, F3, h1, h2, h3, k⟩ := h
  exact ⟨h0.trans (hb.mono h0.size), Q, F, Q2, F2, Q3, F3, h1.below hb, h2.below hb, h3.below hb, k⟩
theorem one_callA {w0 W : World} {g n : Nat} {S : St} (h : One w0 W g S n) (x : Ch) (A : Option Addr) (c : Nat) (id : Int) (hx : x.Short) (hn : n ≤ 10000) (hS : S.Few) (hD : HasD W (.slice A (byN x.dt).length c) x.dt) (hT : Tabs W) :
    Calls Tryd.prog 10 #[.pointer (some ⟨g, 0, none⟩), .agg (chCells x (.slice A (byN x.dt).length c)).toArray, .int .i64 id] W fun e w' =>
      (∃ v, e = .returned v) ∧ One w0 w' g (S.allS x id) (n + 1) := by
  obtain ⟨h1, Q, F, h2, h3⟩ := h
  refine (callA_is W g S n Q F x A c id hx hn hS h2 hD hT).mono fun e w' ⟨he, ⟨Q', F', k1, k3⟩, k2⟩ => ⟨he, k2.below h1 h1.size h3, Q', F', k1, fun k hk => ?_⟩
  rcases k3 k hk with h | h
  · exact h3 k h
  · exact Nat.le_trans h1.size h
theorem two_callA {w0 W : World} {g n g' n' : Nat} {S S' : St} (h : Two w0 W g S n g' S' n') (x : Ch) (A : Option Addr) (c : Nat) (id : Int) (hx : x.Short) (hn : n ≤ 10000) (hS : S.Few) (hD : HasD W (.slice A (byN x.dt).length c) x.dt) (hT : Tabs W) :
    Calls Tryd.prog 10 #[.pointer (some ⟨g, 0, none⟩), .agg (chCells x (.slice A (byN x.dt).length c)).toArray, .int .i64 id] W fun e w' =>
      (∃ v, e = .returned v) ∧ Two w0 w' g (S.allS x id) (n + 1) g' S' n' := by
  obtain ⟨h1, Q, F, Q', F', h2, h3, h4, h5, h6⟩ := h
  exact (callA_is W g S n Q F x A c id hx hn hS h2 hD hT).mono fun e w' ⟨he, ⟨Q2, F2, k1, k3⟩, k2⟩ => ⟨he, Two.turn h1 h2 h3 h4 h5 h6 k1 k2 k3⟩
theorem three_callA {w0 W : World} {g n g2 n2 g3 n3 : Nat} {S S2 S3 : St} (h : Three w0 W g S n g2 S2 n2 g3 S3 n3) (x : Ch) (A : Option Addr) (c : Nat) (id : Int) (hx : x.Short) (hn : n ≤ 10000) (hS : S.Few) (hD : HasD W (.slice A (byN x.dt).length c) x.dt) (hT : Tabs W) :
    Calls Tryd.prog 10 #[.pointer (some ⟨g, 0, none⟩), .agg (chCells x (.slice A (byN x.dt).length c)).toArray, .int .i64 id] W fun e w' =>
      (∃ v, e = .returned v) ∧ Three w0 w' g (S.allS x id) (n + 1) g2 S2 n2 g3 S3 n3 := by
  obtain ⟨h0, Q, F, Q2, F2, Q3, F3, h1, h2, h3, k1, k2, k3, d12, d13, d23⟩ := h
  refine (callA_is W g S n Q F x A c id hx hn hS h1 hD hT).mono fun e w' ⟨he, ⟨Q', F', m1, m3⟩, m2⟩ => ⟨he, m2.below h0 h0.size k1, Q', F', Q2, F2, Q3, F3, m1, h2.apart m2 h1.q (fun k hk hk2 => d12 k hk2 hk), h3.apart m2 h1.q (fun k hk hk2 => d13 k hk2 hk), fun k hk => ?_, k2, k3, fun k hk hk2 => ?_, fun k hk hk2 => ?_, d23⟩
  · rcases m3 k hk with h | h
    · exact k1 k h
    · exact Nat.le_trans h0.size h
  · rcases m3 k hk with h | h
    · exact d12 k h hk2
    · have := isM_lt (h2.q k hk2)
      omega
  · rcases m3 k hk with h | h
    · exact d13 k h hk2
    · have := isM_lt (h3.q k hk2)
      omega
/-- A third model: a copy of the second of two. -/
theorem three_copy {w0 W : World} {g n g' n' : Nat} {S S' : St} (h : Two w0 W g' S' n' g S n) (hS : S.Fine) (hn : n ≤ 300) :
    Calls Tryd.prog 16 #[.pointer (some ⟨g, 0, none⟩)] W fun e w' => ∃ g3, e = .returned (.pointer (some ⟨g3, 0, none⟩)) ∧ Three w0 w' g' S' n' g S n g3 S (n * (n + 2)) := by
  obtain ⟨h1, Q', F', Q, F, h2, h3, h4, h5, h6⟩ := h
  refine (copy_is W g S n Q F hn (fun b k => by have := hS.len b k; omega) h3).mono fun e w' ⟨⟨g3, Q3, F3, he, k1, k2, _⟩, hb⟩ => ⟨g3, he, h1.trans (hb.mono h1.size), Q', F', Q, F, Q3, F3, h2.below hb, h3.below hb, k1, h4, h5, fun k hk => Nat.le_trans h1.size (k2 k hk), h6, fun k hk hk2 => ?_, fun k hk hk2 => ?_⟩
  · have := isM_lt (h2.q k hk)
    have := k2 k hk2
    omega
  · have := isM_lt (h3.q k hk)
    have := k2 k hk2
    omega
/-- The second and the third are compared. -/
theorem three_same {w0 W : World} {g n g2 n2 g3 n3 : Nat} {S S2 S3 : St} (h : Three w0 W g S n g2 S2 n2 g3 S3 n3) (hS2 : S2.Fine) (hS3 : S3.Fine) :
    Calls Tryd.prog 15 #[.pointer (some ⟨g2, 0, none⟩), .pointer (some ⟨g3, 0, none⟩)] W fun e w' => e = .returned (.bool (sameB S2 S3)) ∧ Three w0 w' g S n g2 S2 n2 g3 S3 n3 := by
  obtain ⟨h0, Q, F, Q2, F2, Q3, F3, h1, h2, h3, k⟩ := id h
  exact (same_is W g2 g3 n2 n3 S2 S3 Q2 Q3 F2 F3 h2 h3 (fun b k => by have := hS2.len b k; omega) (fun b k => by have := hS3.len b k; omega)).mono fun e w' ⟨he, hb⟩ => ⟨he, h.below hb⟩
theorem three_same' {w0 W : World} {g n g2 n2 g3 n3 : Nat} {S S2 S3 : St} (h : Three w0 W g S n g2 S2 n2 g3 S3 n3) (hS2 : S2.Fine) (hS3 : S3.Fine) :
    Calls Tryd.prog 15 #[.pointer (some ⟨g3, 0, none⟩), .pointer (some ⟨g2, 0, none⟩)] W fun e w' => e = .returned (.bool (sameB S3 S2)) ∧ Three w0 w' g S n g2 S2 n2 g3 S3 n3 := by
  obtain ⟨h0, Q, F, Q2, F2, Q3, F3, h1, h2, h3, k⟩ := id h
  exact (same_is W g3 g2 n3 n2 S3 S2 Q3 Q2 F3 F2 h3 h2 (fun b k => by have := hS3.len b k; omega) (fun b k => by have := hS2.len b k; omega)).mono fun e w' ⟨he, hb⟩ => ⟨he, h.below hb⟩

/-! ### a row of choices, one behind the other -/
noncomputable def runS (S : St) (l : List Ch) (b : Int) : Nat → St
  | 0 => S
  | i + 1 => match l[i]? with
    | some x => (runS S l b i).allS x (b + (i : Int))
    | none => runS S l b i
theorem runS_at {S : St} {l : List Ch} {b : Int} {i : Nat} (h : i < l.length) : runS S l b (i + 1) = (runS S l b i).allS l[i] (b + (i : Int)) := by
  show (match l[i]? with | some x => (runS S l b i).allS x (b + (i : Int)) | none => runS S l b i) = _
  rw [List.getElem?_eq_getElem h]
theorem few_run {S : St} (h : S.Few) (l : List Ch) (b : Int) (i : Nat) : (runS S l b i).Few := by
  induction i with
  | zero => exact h
  | succ i ih =>
    show St.Few (match l[i]? with | some x => (runS S l b i).allS x (b + (i : Int)) | none => runS S l b i)
    split
    · exact few_allS ih _ _
    · exact ih
/-- What a round of a loop of calls needs of its choice. -/
theorem choice_of {w W : World} {A : Option Addr} {l : List Ch} (h : HasC w A l) (hb : Below w.heap.size w W) (j : Nat) (hj : j < l.length) :
    ∃ ad A3 c3, A = some ad ∧ HasD W (.slice A3 (byN l[j].dt).length c3) l[j].dt ∧ W.cell? (ad.add (j * 10)) = some (.int .i64 l[j].d) ∧ W.cell? ⟨(ad.add (j * 10)).block, (ad.add (j * 10)).off + 1, none⟩ = some (.string (mkS l[j].bk)) ∧ W.cell? ⟨(ad.add (j * 10)).block, (ad.add (j * 10)).off + 2, none⟩ = some (.string (mkS l[j].ky)) ∧ W.cell? ⟨(ad.add (j * 10)).block, (ad.add (j * 10)).off + 3, none⟩ = some (.slice A3 (byN l[j].dt).length c3) ∧ W.cell? ⟨(ad.add (j * 10)).block, (ad.add (j * 10)).off + 4, none⟩ = some (.int .i64 l[j].n) ∧ W.cell? ⟨(ad.add (j * 10)).block, (ad.add (j * 10)).off + 5, none⟩ = some (.int .i64 l[j].a) ∧ W.cell? ⟨(ad.add (j * 10)).block, (ad.add (j * 10)).off + 6, none⟩ = some (.string (mkS l[j].pf)) ∧ W.cell? ⟨(ad.add (j * 10)).block, (ad.add (j * 10)).off + 7, none⟩ = some (.string (mkS l[j].fr)) ∧ W.cell? ⟨(ad.add (j * 10)).block, (ad.add (j * 10)).off + 8, none⟩ = some (.int .i64 l[j].fi) ∧ W.cell? ⟨(ad.add (j * 10)).block, (ad.add (j * 10)).off + 9, none⟩ = some (.int .i64 l[j].mo) := by
  obtain ⟨ad, A3, c3, e, h1, h2⟩ := at_Ch (h W hb) j hj
  have cf : ∀ i u, (chCells l[j] (.slice A3 (byN l[j].dt).length c3))[i + 1]? = some u → W.cell? ⟨(ad.add (j * 10)).block, (ad.add (j * 10)).off + (i + 1), none⟩ = some u := fun i u hu => by
    rw [← add_field _ _ (i + 1) (by omega)]; exact h2 (i + 1) u hu
  exact ⟨ad, A3, c3, e, HasD.of h1, h2 0 _ rfl, cf 0 _ rfl, cf 1 _ rfl, cf 2 _ rfl, cf 3 _ rfl, cf 4 _ rfl, cf 5 _ rfl, cf 6 _ rfl, cf 7 _ rfl, cf 8 _ rfl⟩
end Go.Proofs.YtjbjcfnbgcloiaaDoor

namespace Go.Proofs.YtjbjcfnbgcloiaaDoor.modelCopies
open Go.RowKit Nam YtjbjcfnbgcloiaaDoorW.PrintWords Go.Proofs.YtjbjcfnbgcloiaaDoor
set_option maxHeartbeats 4000000 in
set_option maxRecDepth 100000 in
theorem walk0 (l m : List Ch) (A B : Option Addr) (c d : Nat) (w : World) (hc : l.length ≤ c) (hd : m.length ≤ d) (hC : Kd.C kCh w A l.length l) (hD : Kd.C kCh w B m.length m) (hT : Tabs w) :
    Calls Tryd.prog 5 #[.slice A l.length c, .slice B m.length d] w fun e w' => e = .returned (.bool true) ∧ Below w.heap.size w w' := by
  have HT := Lib.hid hT
  have HC : Hid (HasC w A l) := HasC.of hC
  have HD : Hid (HasC w B m) := HasC.of hD
  have HAw : Hid (Calls Tryd.prog 6 #[] w fun e w' => e = .returned (.bool true) ∧ Below w.heap.size w w') := awake_is w hT
  obtain ⟨R, hR⟩ : ∃ R, roomB l 30 = R := ⟨_, rfl⟩
  obtain ⟨R2, hR2⟩ : ∃ R, roomB m 30 = R := ⟨_, rfl⟩
  have HRm : Hid (∀ V, Below w.heap.size w V → Calls Tryd.prog 7 #[.slice A l.length c, .int .i64 30] V fun e w' => e = .returned (.bool R) ∧ Below w.heap.size w w') := fun V hV => by
    rw [← hR]
    exact (room_is l 30 A c V hc (by decide) (HC.out V hV)).mono fun e w' ⟨he, hb⟩ => ⟨he, hV.trans (hb.mono hV.size)⟩
  have HRn : Hid (∀ V, Below w.heap.size w V → Calls Tryd.prog 7 #[.slice B m.length d, .int .i64 30] V fun e w' => e = .returned (.bool R2) ∧ Below w.heap.size w w') := fun V hV => by
    rw [← hR2]
    exact (room_is m 30 B d V hd (by decide) (HD.out V hV)).mono fun e w' ⟨he, hb⟩ => ⟨he, hV.trans (hb.mono hV.size)⟩
  have HNew : Hid (∀ V, Below w.heap.size w V → Calls Tryd.prog 8 #[] V fun e w' => ∃ g, e = .returned (.pointer (some ⟨g, 0, none⟩)) ∧ Hid (One w w' g St.new 0)) := fun V hV => one_new w V hV
  obtain ⟨n, hn⟩ : ∃ n, l.length = n := ⟨_, rfl⟩
  obtain ⟨k, hk⟩ : ∃ k, m.length = k := ⟨_, rfl⟩
  rw [hn] at HRm hc ⊢
  rw [hk] at HRn hd ⊢
  clear hT hC hD
  cases R with
  | false =>
    clear hn hR hk hR2
    go_enter Tryd.func5, Tryd.ntmps5
    go_wp2_with fail
    refine HAw.out.mono ?_
    rintro e w1 ⟨rfl, hb1⟩
    go_wp2_with fail
    refine (HRm.out _ hb1).mono ?_
    rintro e w2 ⟨rfl, hb2⟩
    go_wp2_with fail
    go_ret
    exact ⟨rfl, hb2⟩
  | true =>
    cases R2 with
    | false =>
      clear hn hR hk hR2
      go_enter Tryd.func5, Tryd.ntmps5
      go_wp2_with fail
      refine HAw.out.mono ?_
      rintro e w1 ⟨rfl, hb1⟩
      go_wp2_with fail
      refine (HRm.out _ hb1).mono ?_
      rintro e w2 ⟨rfl, hb2⟩
      go_wp2_with fail
      refine (HRn.out _ hb2).mono ?_
      rintro e w3 ⟨rfl, hb3⟩
      go_wp2_with fail
      go_ret
      exact ⟨rfl, hb3⟩
    | true =>
      have HSh := Lib.hid (ch_short hR)
      have HSh2 := Lib.hid (ch_short hR2)
      have hl30 : n ≤ 30 := by rw [← hn]; exact (roomB_ok hR).1
      have hm30 : k ≤ 30 := by rw [← hk]; exact (roomB_ok hR2).1
      have HN2 := Lib.hid hn
      have HK2 := Lib.hid hk
      obtain ⟨SA, hSA⟩ : ∃ SA, runS St.new l 10 n = SA := ⟨_, rfl⟩
      have HSA := Lib.hid hSA
      have HFA : Hid (SA.Few) := by show St.Few _; rw [← hSA]; exact few_run few_new _ _ _
      obtain ⟨SC, hSC⟩ : ∃ SC, runS SA m 100 k = SC := ⟨_, rfl⟩
      have HSC := Lib.hid hSC
      have HFC : Hid (SC.Few) := by show St.Few _; rw [← hSC]; exact few_run HFA.out _ _ _
      have HFj := Lib.hid (fun j => few_run few_new l 10 j)
      have HFk := Lib.hid (fun j => few_run HFA.out m 100 j)
      obtain ⟨N, hN⟩ : ∃ N, n * (n + 2) = N := ⟨_, rfl⟩
      have hNN : N ≤ 960 := by rw [← hN]; exact Nat.le_trans (Nat.mul_le_mul hl30 (Nat.add_le_add_right hl30 2)) (by decide)
      have HC1 : Hid (∀ V g, One w V g SA n → Calls Tryd.prog 16 #[.pointer (some ⟨g, 0, none⟩)] V fun e w' => ∃ g', e = .returned (.pointer (some ⟨g', 0, none⟩)) ∧ Hid (Two w w' g' SA N g SA n)) := fun V g h =>
        (one_copy h HFA.out.fine (by omega)).mono fun e w' ⟨g', he, h2⟩ => ⟨g', he, by rw [hN] at h2; exact h2.symm⟩
      have HC2 : Hid (∀ V g g', Two w V g' SA N g SA n → Calls Tryd.prog 16 #[.pointer (some ⟨g, 0, none⟩)] V fun e w' => ∃ g3, e = .returned (.pointer (some ⟨g3, 0, none⟩)) ∧ Hid (Three w w' g' SA N g SA n g3 SA N)) := fun V g g' h =>
        (three_copy h HFA.out.fine (by omega)).mono fun e w' ⟨g3, he, h2⟩ => ⟨g3, he, by rw [hN] at h2; exact h2⟩
      have HS1 : Hid (∀ V g g' g3, Three w V g' SC (N + k) g SA n g3 SA N → Calls Tryd.prog 15 #[.pointer (some ⟨g, 0, none⟩), .pointer (some ⟨g3, 0, none⟩)] V fun e w' => e = .returned (.bool true) ∧ Hid (Three w w' g' SC (N + k) g SA n g3 SA N)) := fun V g g' g3 h => by
        have h2 := three_same h HFA.out.fine HFA.out.fine
        rw [sameB_self] at h2
        exact h2
      have HS2 : Hid (∀ V g g' g3, Three w V g' SC (N + k) g SA n g3 SA N → Calls Tryd.prog 15 #[.pointer (some ⟨g3, 0, none⟩), .pointer (some ⟨g, 0, none⟩)] V fun e w' => e = .returned (.bool true) ∧ Hid (Three w w' g' SC (N + k) g SA n g3 SA N)) := fun V g g' g3 h => by
        have h2 := three_same' h HFA.out.fine HFA.out.fine
        rw [sameB_self] at h2
        exact h2
      have HS3 : Hid (∀ V g g', Two w V g SC (n + k) g' SC (N + k) → Calls Tryd.prog 15 #[.pointer (some ⟨g, 0, none⟩), .pointer (some ⟨g', 0, none⟩)] V fun e w' => e = .returned (.bool true) ∧ Hid (Two w w' g SC (n + k) g' SC (N + k))) := fun V g g' h => by
        have h2 := two_same h HFC.out.fine HFC.out.fine
        rw [sameB_self] at h2
        exact h2
      have HS4 : Hid (∀ V g g', Two w V g SC (n + k) g' SC (N + k) → Calls Tryd.prog 15 #[.pointer (some ⟨g', 0, none⟩), .pointer (some ⟨g, 0, none⟩)] V fun e w' => e = .returned (.bool true) ∧ Hid (Below w.heap.size w w')) := fun V g g' h => by
        have h2 := two_same h.symm HFC.out.fine HFC.out.fine
        rw [sameB_self] at h2
        exact h2.mono fun e w' ⟨he, h3⟩ => ⟨he, h3.1⟩
      clear hn hR hk hR2 hSA hSC hN
      go_enter Tryd.func5, Tryd.ntmps5
      go_wp2_with fail
      refine HAw.out.mono ?_
      rintro e w1 ⟨rfl, hb1⟩
      go_wp2_with fail
      refine (HRm.out _ hb1).mono ?_
      rintro e w2 ⟨rfl, hb2⟩
      go_wp2_with fail
      refine (HRn.out _ hb2).mono ?_
      rintro e w3 ⟨rfl, hb3⟩
      go_wp2_with fail
      refine (HNew.out _ hb3).mono ?_
      rintro e w4 ⟨g, rfl, H4⟩
      clear HRm HRn HNew HAw hb1 hb2 hb3
      have HX0 : Hid (One w w4 g (runS St.new l 10 0) 0) := H4
      clear H4
      go_wp2_with fail
      go_loopw [6] (fun vi wr => ∃ (j : Nat), vi = .int .i64 j ∧ j ≤ n ∧ Hid (One w wr g (runS St.new l 10 j) j)) (fun vi _ => n - (intOf vi).toNat)
      case atStart => exact ⟨0, rfl, Nat.zero_le _, HX0⟩
      case round =>
        clear HX0
        obtain ⟨j, rfl, hj, HX⟩ := hrel
        by_cases hlt : j < n
        · have hltz : (j : Int) < (n : Int) := by omega
          have hlL : j < l.length := by rw [HN2.out]; exact hlt
          obtain ⟨ad, A3, c3, hA, hdt, a0, a1, a2, a3, a4, a5, a6, a7, a8, a9⟩ := choice_of HC.out HX.out.1 j hlL
          subst hA
          have HCa : Hid (Calls Tryd.prog 10 #[.pointer (some ⟨g, 0, none⟩), .agg #[.int .i64 l[j].d, .string (mkS l[j].bk), .string (mkS l[j].ky), .slice A3 (byN l[j].dt).length c3, .int .i64 l[j].n, .int .i64 l[j].a, .string (mkS l[j].pf), .string (mkS l[j].fr), .int .i64 l[j].fi, .int .i64 l[j].mo], .int .i64 (10 + (j : Int))] wr fun e w' => (∃ v, e = .returned v) ∧ Hid (One w w' g (runS St.new l 10 (j + 1)) (j + 1))) :=
            (one_callA HX.out l[j] A3 c3 (10 + (j : Int)) (HSh.out _ (List.getElem_mem hlL)) (by omega) (HFj.out j) hdt (HT.out.below HX.out.1)).mono fun e w' ⟨he, h1⟩ => ⟨he, by show One _ _ _ _ _; rw [runS_at hlL]; exact h1⟩
          clear hdt
          go_wp2_with fail
          refine HCa.out.mono ?_
          rintro e w2 ⟨⟨v, rfl⟩, HX2⟩
          go_wp2_with fail
          go_roundw
          case rel => exact ⟨j + 1, by go_num, by omega, HX2⟩
          case measure => simp [intOf]; omega
        · have hltz : ¬ (j : Int) < (n : Int) := by omega
          have hjn : j = n := by omega
          have HX1 : Hid (One w wr g SA n) := by
            have h := HX.out
            rw [hjn, HSA.out] at h
            exact h
          clear HX hjn HFj
          go_wp2_with fail
          refine (HC1.out _ _ HX1.out).mono ?_
          rintro e w5 ⟨g2, rfl, HX2⟩
          go_wp2_with fail
          refine (HC2.out _ _ _ HX2.out).mono ?_
          rintro e w6 ⟨g3, rfl, HX3⟩
          have HY0 : Hid (Three w w6 g2 (runS SA m 100 0) (N + 0) g SA n g3 SA N) := HX3
          clear HX1 HX2 HX3 HC1 HC2
          go_wp2_with fail
          go_loopw [9] (fun vi wr => ∃ (j : Nat), vi = .int .i64 j ∧ j ≤ k ∧ Hid (Three w wr g2 (runS SA m 100 j) (N + j) g SA n g3 SA N)) (fun vi _ => k - (intOf vi).toNat)
          case atStart => exact ⟨0, rfl, Nat.zero_le _, HY0⟩
          case round =>
            clear HY0
            clear hltz hlt hj
            rename_i j0 _ _ _ _
            obtain ⟨j, rfl, hj, HX⟩ := hrel
            by_cases hlt : j < k
            · have hltz : (j : Int) < (k : Int) := by omega
              have hlL : j < m.length := by rw [HK2.out]; exact hlt
              obtain ⟨ad, A3, c3, hA, hdt, a0, a1, a2, a3, a4, a5, a6, a7, a8, a9⟩ := choice_of HD.out HX.out.1 j hlL
              subst hA
              have HCa : Hid (Calls Tryd.prog 10 #[.pointer (some ⟨g2, 0, none⟩), .agg #[.int .i64 m[j].d, .string (mkS m[j].bk), .string (mkS m[j].ky), .slice A3 (byN m[j].dt).length c3, .int .i64 m[j].n, .int .i64 m[j].a, .string (mkS m[j].pf), .string (mkS m[j].fr), .int .i64 m[j].fi, .int .i64 m[j].mo], .int .i64 (100 + (j : Int))] wr fun e w' => (∃ v, e = .returned v) ∧ Hid (Three w w' g2 (runS SA m 100 (j + 1)) (N + (j + 1)) g SA n g3 SA N)) :=
                (three_callA HX.out m[j] A3 c3 (100 + (j : Int)) (HSh2.out _ (List.getElem_mem hlL)) (by omega) (HFk.out j) hdt (HT.out.below HX.out.1)).mono fun e w' ⟨he, h1⟩ => ⟨he, by show Three _ _ _ _ _ _ _ _ _ _ _; rw [runS_at hlL]; exact h1⟩
              clear hdt
              go_wp2_with fail
              refine HCa.out.mono ?_
              rintro e w2 ⟨⟨v, rfl⟩, HX2⟩
              go_wp2_with fail
              go_roundw
              case rel => exact ⟨j + 1, by go_num, by omega, HX2⟩
              case measure => simp [intOf]; omega
            · have hltz : ¬ (j : Int) < (k : Int) := by omega
              have hjn : j = k := by omega
              have HX1 : Hid (Three w wr g2 SC (N + k) g SA n g3 SA N) := by
                have h := HX.out
                rw [hjn, HSC.out] at h
                exact h
              clear HX hjn
              go_wp2_with fail
              refine (HS1.out _ _ _ _ HX1.out).mono ?_
              rintro e w5 ⟨rfl, HX2⟩
              go_wp2_with fail
              refine (HS2.out _ _ _ _ HX2.out).mono ?_
              rintro e w6 ⟨rfl, HX3⟩
              have HZ0 : Hid (Two w w6 g (runS SA m 100 0) (n + 0) g2 SC (N + k)) := HX3.out.two12.symm
              clear HX1 HX2 HX3 HS1 HS2
              go_wp2_with fail
              go_loopw [10] (fun vi wr => ∃ (j : Nat), vi = .int .i64 j ∧ j ≤ k ∧ Hid (Two w wr g (runS SA m 100 j) (n + j) g2 SC (N + k))) (fun vi _ => k - (intOf vi).toNat)
              case atStart => exact ⟨0, rfl, Nat.zero_le _, HZ0⟩
              case round =>
                clear HZ0
                clear hltz hlt hj
                rename_i j1 _ _ _ _
                obtain ⟨j, rfl, hj, HX⟩ := hrel
                by_cases hlt : j < k
                · have hltz : (j : Int) < (k : Int) := by omega
                  have hlL : j < m.length := by rw [HK2.out]; exact hlt
                  obtain ⟨ad, A3, c3, hA, hdt, a0, a1, a2, a3, a4, a5, a6, a7, a8, a9⟩ := choice_of HD.out HX.out.1 j hlL
                  subst hA
                  have HCa : Hid (Calls Tryd.prog 10 #[.pointer (some ⟨g, 0, none⟩), .agg #[.int .i64 m[j].d, .string (mkS m[j].bk), .string (mkS m[j].ky), .slice A3 (byN m[j].dt).length c3, .int .i64 m[j].n, .int .i64 m[j].a, .string (mkS m[j].pf), .string (mkS m[j].fr), .int .i64 m[j].fi, .int .i64 m[j].mo], .int .i64 (100 + (j : Int))] wr fun e w' => (∃ v, e = .returned v) ∧ Hid (Two w w' g (runS SA m 100 (j + 1)) (n + (j + 1)) g2 SC (N + k))) :=
                    (two_callA HX.out m[j] A3 c3 (100 + (j : Int)) (HSh2.out _ (List.getElem_mem hlL)) (by omega) (HFk.out j) hdt (HT.out.below HX.out.1)).mono fun e w' ⟨he, h1⟩ => ⟨he, by show Two _ _ _ _ _ _ _ _; rw [runS_at hlL]; exact h1⟩
                  clear hdt
                  go_wp2_with fail
                  refine HCa.out.mono ?_
                  rintro e w2 ⟨⟨v, rfl⟩, HX2⟩
                  go_wp2_with fail
                  go_roundw
                  case rel => exact ⟨j + 1, by go_num, by omega, HX2⟩
                  case measure => simp [intOf]; omega
                · have hltz : ¬ (j : Int) < (k : Int) := by omega
                  have hjn : j = k := by omega
                  have HX1 : Hid (Two w wr g SC (n + k) g2 SC (N + k)) := by
                    have h := HX.out
                    rw [hjn, HSC.out] at h
                    exact h
                  clear HX hjn
                  go_wp2_with fail
                  refine (HS3.out _ _ _ HX1.out).mono ?_
                  rintro e w5 ⟨rfl, HX2⟩
                  go_wp2_with fail
                  refine (HS4.out _ _ _ HX2.out).mono ?_
                  rintro e w6 ⟨rfl, HX3⟩
                  go_wp2_with fail
                  go_ret
                  exact ⟨rfl, HX3.out⟩
end Go.Proofs.YtjbjcfnbgcloiaaDoor.modelCopies

/- ModelLists: what lists tell is what Heads tell. -/
set_option linter.unusedSimpArgs false
set_option linter.unusedVariables false
namespace Go.Proofs.YtjbjcfnbgcloiaaDoor.modelLists
open Go.RowKit Nam YtjbjcfnbgcloiaaDoorW.PrintWords Go.Proofs.YtjbjcfnbgcloiaaDoor

/-- A choice that is none of the three changes nothing. -/
theorem callS_off {S : St} {x : Ch} {id : Int} (h : ¬ (x.d = 4 ∨ x.d = 7 ∨ x.d = 8)) : S.callS x id = S := by
  unfold St.callS
  rw [if_neg (by omega), if_neg (by omega), if_neg (by omega)]
noncomputable def runL (l : List Ch) : Nat → St
  | 0 => S1
  | i + 1 => match l[i]? with
    | some x => (runL l i).callS (bendL x) (10 + (i : Int))
    | none => runL l i
theorem runL_at {l : List Ch} {i : Nat} (h : i < l.length) : runL l (i + 1) = (runL l i).callS (bendL l[i]) (10 + (i : Int)) := by
  show (match l[i]? with | some x => (runL l i).callS (bendL x) (10 + (i : Int)) | none => runL l i) = _
  rw [List.getElem?_eq_getElem h]
theorem fine_runL (l : List Ch) (i : Nat) : (runL l i).Fine := by
  induction i with
  | zero => exact fine_S1
  | succ i ih =>
    show St.Fine (match l[i]? with | some x => (runL l i).callS (bendL x) (10 + (i : Int)) | none => runL l i)
    split
    · exact fine_callS ih _ _
    · exact ih
theorem ris_runL (l : List Ch) (i : Nat) : Ris (runL l i) i := by
  induction i with
  | zero => exact ris_1
  | succ i ih =>
    show Ris (match l[i]? with | some x => (runL l i).callS (bendL x) (10 + (i : Int)) | none => runL l i) (i + 1)
    split
    · exact ris_call ih _ _
    · exact ih.more
/-- One call of the first loop. -/
theorem call_bend {w W : World} {g n : Nat} {S : St} (h : One w W g S n) (x : Ch) (A : Option Addr) (c : Nat) (id : Int) (hd : x.d = 4 ∨ x.d = 7 ∨ x.d = 8) (hx : x.Short) (hn : n ≤ 1000) (hS : S.Fine) (hC : HasD W (.slice A (byN x.dt).length c) x.dt) (hT : Tabs W) :
    Calls Tryd.prog 10 #[.pointer (some ⟨g, 0, none⟩), .agg (chCells (bendL x) (.slice A (byN x.dt).length c)).toArray, .int .i64 id] W fun e w' =>
      (∃ v, e = .returned v) ∧ One w w' g (S.callS (bendL x) id) (n + 1) :=
  (one_call h (bendL x) A c id (by unfold Named; show x.d = 4 ∨ x.d = 5 ∨ x.d = 6 ∨ x.d = 7 ∨ x.d = 8; omega) (by show abc.length ≤ _; decide) (by show x.ky.length ≤ _; have := hx.ky; omega) (by show x.dt.length ≤ _; have := hx.dt; omega) (by omega) hS (fun V hV => by
    obtain ⟨A', c', e, _, hF⟩ := (hC.below hV).now
    injection e with e _ _
    subst e
    exact hF V (fun _ _ _ => rfl)) hT).mono fun e w' ⟨⟨y, dv, he⟩, h2⟩ => ⟨⟨_, he⟩, h2⟩

/-- Head has a version. -/
theorem one_head {w0 W : World} {g n : Nat} {S : St} (h : One w0 W g S n) (b k : List UInt8) (id : Int) (y : Kp) (er : Int) (hb : b.length ≤ 100000) (hk : k.length ≤ 100000) (hS : S.Fine) (hT : Tabs W) (h1 : S.findE b k id 0 = 0) (h2 : S.getK b k id = some y) (h3 : S.getE b k id = er) :
    Calls Tryd.prog 13 #[.pointer (some ⟨g, 0, none⟩), .string (mkS b), .string (mkS k), .int .i64 id] W fun e w' => e = .returned (.tuple #[.agg #[.int .i64 y.id, .bool y.mark, .int .i64 y.sz, .int .u32 y.sum], .int .i64 er]) ∧ Below W.heap.size W w' := by
  obtain ⟨_, Q, F, hm, _⟩ := h
  refine (head_is W g S n Q F b k id hb hk (by have := hS.len b k; omega) (fun y hy => by have := hS.dt _ _ y hy; omega) hm hT).mono fun e w' ⟨⟨y', he, hc⟩, hb'⟩ => ⟨?_, hb'⟩
  rw [h3] at he
  rcases hc with ⟨q, _⟩ | ⟨_, q⟩
  · exact absurd h1 q
  · rw [h2] at q
    injection q with q
    subst q
    exact he

set_option maxHeartbeats 4000000 in
set_option maxRecDepth 100000 in
theorem walk0 (l : List Ch) (A : Option Addr) (c : Nat) (w : World) (hc : l.length ≤ c) (hC : Kd.C kCh w A l.length l) (hT : Tabs w) :
    Calls Tryd.prog 3 #[.slice A l.length c] w fun e w' => e = .returned (.bool true) ∧ Below w.heap.size w w' := by
  have HT := Lib.hid hT
  have HC : Hid (HasC w A l) := HasC.of hC
  have HAw : Hid (Calls Tryd.prog 6 #[] w fun e w' => e = .returned (.bool true) ∧ Below w.heap.size w w') := awake_is w hT
  obtain ⟨R, hR⟩ : ∃ R, roomB l 40 = R := ⟨_, rfl⟩
  have HRm : Hid (∀ V, Below w.heap.size w V → Calls Tryd.prog 7 #[.slice A l.length c, .int .i64 40] V fun e w' => e = .returned (.bool R) ∧ Below w.heap.size w w') := fun V hV => by
    rw [← hR]
    exact (room_is l 40 A c V hc (by decide) (HC.out V hV)).mono fun e w' ⟨he, hb⟩ => ⟨he, hV.trans (hb.mono hV.size)⟩
  have HNew : Hid (∀ V, Below w.heap.size w V → Calls Tryd.prog 8 #[] V fun e w' => ∃ g, e = .returned (.pointer (some ⟨g, 0, none⟩)) ∧ Hid (One w w' g St.new 0)) := fun V hV => one_new w V hV
  have HMk : Hid (∀ V g, One w V g St.new 0 → Calls Tryd.prog 9 #[.pointer (some ⟨g, 0, none⟩), .string ⟨#[97, 98, 99]⟩] V fun e w' => e = .returned (.int .i64 0) ∧ Hid (One w w' g S1 1)) := fun V g h =>
    (one_make h abc (by decide) (by decide)).mono fun e w' ⟨he, ho⟩ => by
      rw [make_abc] at he ho
      exact ⟨he, ho⟩
  obtain ⟨n, hn⟩ : ∃ n, l.length = n := ⟨_, rfl⟩
  rw [hn] at HRm hc ⊢
  clear hT hC
  cases R with
  | false =>
    clear hn hR
    go_enter Tryd.func3, Tryd.ntmps3
    go_wp2_with fail
    refine HAw.out.mono ?_
    rintro e w1 ⟨rfl, hb1⟩
    go_wp2_with fail
    refine (HRm.out _ hb1).mono ?_
    rintro e w2 ⟨rfl, hb2⟩
    go_wp2_with fail
    go_ret
    exact ⟨rfl, hb2⟩
  | true =>
    have HSh := Lib.hid (ch_short hR)
    have hl40 : n ≤ 40 := by rw [← hn]; exact (roomB_ok hR).1
    have HN2 := Lib.hid hn
    have HFi := Lib.hid (fun j => fine_runL l j)
    obtain ⟨SL, hSL⟩ : ∃ SL, runL l n = SL := ⟨_, rfl⟩
    have HSL := Lib.hid hSL
    have HFL : Hid (SL.Fine) := by show St.Fine _; rw [← hSL]; exact fine_runL _ _
    have HRL : Hid (Ris SL n) := by show Ris _ _; rw [← hSL]; exact ris_runL _ _
    have HVe : Hid (∀ V g, One w V g SL (1 + n) → Calls Tryd.prog 11 #[.pointer (some ⟨g, 0, none⟩), .string ⟨#[97, 98, 99]⟩, .agg #[.string ⟨#[]⟩, .string ⟨#[]⟩, .int .i64 0, .int .i64 1000]] V fun e w' => ∃ (p : Option Addr) (cc : Nat) (m : Bool) (k : ByteArray) (i er : Int) (L : List Ent), e = ansP (.slice p L.length cc) m k i er ∧ Hid (Below V.heap.size V w') ∧ Hid (RowE w' (.slice p L.length cc) L) ∧ Hid (Tells SL abc qAll (VerR qAll) er L m k i)) := fun V g h => by
      obtain ⟨_, Q, F, hm, _⟩ := h
      refine (mversions_is V g SL (1 + n) Q F abc qAll (by decide) (by decide) hm HFL.out (by omega)).mono fun e w' hp => ?_
      obtain ⟨p, nn, cc, m, k, i, er, L, rfl, hb, hr, _, ht⟩ := part_tells hp
      obtain ⟨p', c', e1, _⟩ := len_of_row hr
      injection e1 with _ e2 _
      subst e2
      exact ⟨p, cc, m, k, i, er, L, rfl, hb, hr, ht⟩
    have HOb : Hid (∀ V g, One w V g SL (1 + n) → Calls Tryd.prog 12 #[.pointer (some ⟨g, 0, none⟩), .string ⟨#[97, 98, 99]⟩, .agg #[.string ⟨#[]⟩, .string ⟨#[]⟩, .int .i64 0, .int .i64 1000]] V fun e w' => ∃ (p : Option Addr) (cc : Nat) (m : Bool) (k : ByteArray) (i er : Int) (L : List Ent), e = ansP (.slice p L.length cc) m k i er ∧ Hid (Below V.heap.size V w') ∧ Hid (RowE w' (.slice p L.length cc) L) ∧ Hid (Tells SL abc qAll (ObjR qAll) er L m k i)) := fun V g h => by
      obtain ⟨_, Q, F, hm, _⟩ := h
      refine (mobjects_is V g SL (1 + n) Q F abc qAll (by decide) (by decide) hm HFL.out (by omega)).mono fun e w' hp => ?_
      obtain ⟨p, nn, cc, m, k, i, er, L, rfl, hb, hr, _, ht⟩ := part_tells hp
      obtain ⟨p', c', e1, _⟩ := len_of_row hr
      injection e1 with _ e2 _
      subst e2
      exact ⟨p, cc, m, k, i, er, L, rfl, hb, hr, ht⟩
    clear hSL
    clear hn hR
    go_enter Tryd.func3, Tryd.ntmps3
    go_wp2_with fail
    refine HAw.out.mono ?_
    rintro e w1 ⟨rfl, hb1⟩
    go_wp2_with fail
    refine (HRm.out _ hb1).mono ?_
    rintro e w2 ⟨rfl, hb2⟩
    go_wp2_with fail
    refine (HNew.out _ hb2).mono ?_
    rintro e w3 ⟨g, rfl, H3⟩
    go_wp2_with fail
    refine (HMk.out _ _ H3.out).mono ?_
    rintro e w4 ⟨rfl, H4⟩
    have HX0 : Hid (One w w4 g (runL l 0) (1 + 0)) := H4
    clear HRm HNew HMk HAw hb1 hb2 H3 H4
    go_wp2_with fail
    go_loopw [4] (fun vi wr => ∃ (j : Nat), vi = .int .i64 j ∧ j ≤ n ∧ Hid (One w wr g (runL l j) (1 + j))) (fun vi _ => n - (intOf vi).toNat)
    case atStart => exact ⟨0, rfl, Nat.zero_le _, HX0⟩
    case round =>
      clear HX0
      obtain ⟨j, rfl, hj, HS⟩ := hrel
      by_cases hlt : j < n
      · have hltz : (j : Int) < (n : Int) := by omega
        have hlL : j < l.length := by rw [HN2.out]; exact hlt
        obtain ⟨ad, A3, c3, hA, hdt, a0, a1, a2, a3, a4, a5, a6, a7, a8, a9⟩ := choice_of HC.out HS.out.1 j hlL
        subst hA
        have hat := runL_at hlL
        obtain ⟨x, hx⟩ : ∃ x, l[j] = x := ⟨_, rfl⟩
        rw [hx] at hdt a0 a1 a2 a3 a4 a5 a6 a7 a8 a9 hat
        have hX := HSh.out x (by rw [← hx]; exact List.getElem_mem _)
        have HD0 := Lib.hid hdt
        clear hdt hx hlL
        obtain ⟨d, bk, ky, dt, nn, aa, pf, fr, fi, mo⟩ := x
        simp only at hX a0 a1 a2 a3 a4 a5 a6 a7 a8 a9 HD0
        obtain ⟨W2, hW2⟩ : ∃ W2, wr.alloc (.cells #[.int .i64 d, .string ⟨#[97, 98, 99]⟩, .string (mkS ky), .slice A3 (byN dt).length c3, .int .i64 nn, .int .i64 aa, .string (mkS pf), .string (mkS fr), .int .i64 fi, .int .i64 mo] 33) = W2 := ⟨_, rfl⟩
        have hb2 : Below wr.heap.size wr W2 := by rw [← hW2]; exact (Below.refl _ _).alloc (Nat.le_refl _) _
        have hk2 : W2.heap[wr.heap.size]? = some (.cells #[.int .i64 d, .string (mkS abc), .string (mkS ky), .slice A3 (byN dt).length c3, .int .i64 nn, .int .i64 aa, .string (mkS pf), .string (mkS fr), .int .i64 fi, .int .i64 mo] 33 (0, 0)) := by rw [← hW2]; exact blk_new wr _
        have H2 : Hid (One w W2 g (runL l j) (1 + j)) := HS.out.below hb2
        have HCh : Hid (ChAt W2 wr.heap.size d abc ky (.slice A3 (byN dt).length c3) nn aa pf fr fi mo) := chAt_of hk2
        have HCa : Hid ((d = 4 ∨ d = 7 ∨ d = 8) → Calls Tryd.prog 10 #[.pointer (some ⟨g, 0, none⟩), .agg #[.int .i64 d, .string (mkS abc), .string (mkS ky), .slice A3 (byN dt).length c3, .int .i64 nn, .int .i64 aa, .string (mkS pf), .string (mkS fr), .int .i64 fi, .int .i64 mo], .int .i64 (10 + (j : Int))] W2 fun e w' => (∃ v, e = .returned v) ∧ Hid (One w w' g (runL l (j + 1)) (1 + (j + 1)))) := fun hd =>
          (call_bend H2.out ⟨d, bk, ky, dt, nn, aa, pf, fr, fi, mo⟩ A3 c3 (10 + (j : Int)) hd hX (by omega) (HFi.out j) (HD0.out.below hb2) (HT.out.below H2.out.1)).mono fun e w' ⟨he, h1⟩ => ⟨he, by show One _ _ _ _ _; rw [hat]; exact h1⟩
        have HOf : Hid (¬ (d = 4 ∨ d = 7 ∨ d = 8) → Hid (One w W2 g (runL l (j + 1)) (1 + (j + 1)))) := fun hd => by
          show One _ _ _ _ _
          rw [hat, callS_off hd]
          exact H2.out.bound (by omega)
        have HW2 := Lib.hid hW2
        clear hk2 hW2 hX hat hb2
        by_cases hd : d = 4 ∨ d = 7 ∨ d = 8
        · have HC2 := Lib.hid (HCa.out hd)
          clear HCa HOf
          rcases hd with rfl | rfl | rfl
          · go_upto_region 14 with (fail)
            rw [HW2.out]
            clear HW2
            obtain ⟨c0, c1, c2, c3_, c4, c5, c6, c7, c8, c9⟩ := HCh.out
            go_wp2_with fail
            refine HC2.out.mono ?_
            rintro e w5 ⟨⟨v, rfl⟩, HX2⟩
            go_wp2_with fail
            go_roundw
            case rel => exact ⟨j + 1, by go_num, by omega, HX2⟩
            case measure => simp [intOf]; omega
          · go_upto_region 14 with (fail)
            rw [HW2.out]
            clear HW2
            obtain ⟨c0, c1, c2, c3_, c4, c5, c6, c7, c8, c9⟩ := HCh.out
            go_wp2_with fail
            refine HC2.out.mono ?_
            rintro e w5 ⟨⟨v, rfl⟩, HX2⟩
            go_wp2_with fail
            go_roundw
            case rel => exact ⟨j + 1, by go_num, by omega, HX2⟩
            case measure => simp [intOf]; omega
          · go_upto_region 14 with (fail)
            rw [HW2.out]
            clear HW2
            obtain ⟨c0, c1, c2, c3_, c4, c5, c6, c7, c8, c9⟩ := HCh.out
            go_wp2_with fail
            refine HC2.out.mono ?_
            rintro e w5 ⟨⟨v, rfl⟩, HX2⟩
            go_wp2_with fail
            go_roundw
            case rel => exact ⟨j + 1, by go_num, by omega, HX2⟩
            case measure => simp [intOf]; omega
        · have HO2 := HOf.out hd
          clear HCa HOf
          have d4 : (d == 4) = false := by simp; omega
          have d7 : (d == 7) = false := by simp; omega
          have d8 : (d == 8) = false := by simp; omega
          clear hd
          go_upto_region 14 with (fail)
          rw [HW2.out]
          clear HW2
          obtain ⟨c0, c1, c2, c3_, c4, c5, c6, c7, c8, c9⟩ := HCh.out
          go_wp2_with fail
          go_roundw
          case rel => exact ⟨j + 1, by go_num, by omega, HO2⟩
          case measure => simp [intOf]; omega
      · have hltz : ¬ (j : Int) < (n : Int) := by omega
        have hjn : j = n := by omega
        have HX1 : Hid (One w wr g (runL l n) (1 + n)) := by
          have h := HS.out
          rw [hjn] at h
          exact h
        clear HS hjn
        have HX2 : Hid (One w wr g SL (1 + n)) := by show One _ _ _ _ _; rw [← HSL.out]; exact HX1.out
        clear HX1 HSL hlt hj
        go_wp2_with fail
        clear hltz
        refine (HVe.out _ _ HX2.out).mono ?_
        rintro e w5 ⟨p1, cc1, m1, k1, i1, er1, L1, rfl, HB5, HR1, HT1⟩
        have HX5 : Hid (One w w5 g SL (1 + n)) := HX2.out.below HB5.out
        go_wp2_with fail
        obtain ⟨V6, hV6⟩ : ∃ V6, w5.alloc (.cells #[.slice p1 L1.length cc1, .bool m1, .string k1, .int .i64 i1] 44) = V6 := ⟨_, rfl⟩
        have hb6 : Below w5.heap.size w5 V6 := by rw [← hV6]; exact (Below.refl _ _).alloc (Nat.le_refl _) _
        have hk6 : V6.heap[w5.heap.size]? = some (.cells #[.slice p1 L1.length cc1, .bool m1, .string k1, .int .i64 i1] 44 (0, 0)) := by rw [← hV6]; exact blk_new w5 _
        have HX6 : Hid (One w V6 g SL (1 + n)) := HX5.out.below hb6
        have HR6 : Hid (RowE V6 (.slice p1 L1.length cc1) L1) := HR1.out.below hb6
        have HK6 := Lib.hid hk6
        rw [hV6]
        clear hV6 hk6 hb6 HX5 HR1 HB5 HX2
        refine (HOb.out _ _ HX6.out).mono ?_
        rintro e w7 ⟨p2, cc2, m2, k2, i2, er2, L2, rfl, HB7, HR2, HT2⟩
        have HX7 : Hid (One w w7 g SL (1 + n)) := HX6.out.below HB7.out
        have HR7 : Hid (RowE w7 (.slice p1 L1.length cc1) L1) := HR6.out.below HB7.out
        have HK7 : Hid (w7.heap[w5.heap.size]? = some (.cells #[.slice p1 L1.length cc1, .bool m1, .string k1, .int .i64 i1] 44 (0, 0))) := blk_below HK6.out HB7.out
        obtain ⟨rfl, rfl, hL2, hL1, htold⟩ := lists_law HRL.out (by omega) HT1.out HT2.out
        have HL2 := Lib.hid hL2
        have HTo := Lib.hid htold
        clear hL2 htold HT1 HT2 HX6 HR6 HK6 HB7 HVe HOb
        obtain ⟨y0, y1, y2, y3⟩ : w7.cell? ⟨w5.heap.size, 0, none⟩ = some (.slice p1 L1.length cc1) ∧ w7.cell? ⟨w5.heap.size, 1, none⟩ = some (.bool m1) ∧ w7.cell? ⟨w5.heap.size, 2, none⟩ = some (.string k1) ∧ w7.cell? ⟨w5.heap.size, 3, none⟩ = some (.int .i64 i1) := ⟨blk_cell HK7.out 0, blk_cell HK7.out 1, blk_cell HK7.out 2, blk_cell HK7.out 3⟩
        go_wp2_with fail
        obtain ⟨V8, hV8⟩ : ∃ V8, w7.alloc (.cells #[.slice p2 L2.length cc2, .bool m2, .string k2, .int .i64 i2] 44) = V8 := ⟨_, rfl⟩
        have hb8 : Below w7.heap.size w7 V8 := by rw [← hV8]; exact (Below.refl _ _).alloc (Nat.le_refl _) _
        have HX8 : Hid (One w V8 g SL (1 + n)) := HX7.out.below hb8
        have HRa : Hid (RowE V8 (.slice p1 L1.length cc1) L1) := HR7.out.below hb8
        have HRb : Hid (RowE V8 (.slice p2 L2.length cc2) L2) := HR2.out.below hb8
        have HKb : Hid (V8.heap[w7.heap.size]? = some (.cells #[.slice p2 L2.length cc2, .bool m2, .string k2, .int .i64 i2] 44 (0, 0))) := by show _ = _; rw [← hV8]; exact blk_new w7 _
        have HKa : Hid (V8.heap[w5.heap.size]? = some (.cells #[.slice p1 L1.length cc1, .bool m1, .string k1, .int .i64 i1] 44 (0, 0))) := blk_below HK7.out hb8
        rw [hV8]
        obtain ⟨ba, hba⟩ : ∃ ba, w5.heap.size = ba := ⟨_, rfl⟩
        obtain ⟨bb, hbb⟩ : ∃ bb, w7.heap.size = bb := ⟨_, rfl⟩
        rw [hba] at HKa ⊢
        rw [hbb] at HKb ⊢
        clear hV8 hb8 HX7 HR7 HR2 HK7 y0 y1 y2 y3 hba hbb
        go_loopw [10, 11] (fun vo vi wr => ∃ (i : Nat), vo = .int .i64 (((L1.take i).filter okE).length : Int) ∧ vi = .int .i64 i ∧ i ≤ L1.length ∧ Hid (Below V8.heap.size V8 wr)) (fun vo vi _ => L1.length - (intOf vi).toNat)
        case atStart => exact ⟨0, rfl, rfl, Nat.zero_le _, Below.refl _ _⟩
        case round =>
          obtain ⟨i, rfl, rfl, hi, HW⟩ := hrel
          obtain ⟨o, ho⟩ : ∃ o, ((L1.take i).filter okE).length = o := ⟨_, rfl⟩
          have HO := Lib.hid ho
          rw [ho]
          clear ho
          obtain ⟨y0, y1, y2, y3⟩ : wr.cell? ⟨ba, 0, none⟩ = some (.slice p1 L1.length cc1) ∧ wr.cell? ⟨ba, 1, none⟩ = some (.bool m1) ∧ wr.cell? ⟨ba, 2, none⟩ = some (.string k1) ∧ wr.cell? ⟨ba, 3, none⟩ = some (.int .i64 i1) := by
            have h := blk_below HKa.out HW.out
            exact ⟨blk_cell h 0, blk_cell h 1, blk_cell h 2, blk_cell h 3⟩
          obtain ⟨q0, q1, q2, q3⟩ : wr.cell? ⟨bb, 0, none⟩ = some (.slice p2 L2.length cc2) ∧ wr.cell? ⟨bb, 1, none⟩ = some (.bool m2) ∧ wr.cell? ⟨bb, 2, none⟩ = some (.string k2) ∧ wr.cell? ⟨bb, 3, none⟩ = some (.int .i64 i2) := by
            have h := blk_below HKb.out HW.out
            exact ⟨blk_cell h 0, blk_cell h 1, blk_cell h 2, blk_cell h 3⟩
          by_cases hlt : i < L1.length
          · have hltz : (i : Int) < (L1.length : Int) := by omega
            obtain ⟨p', c', e1, hcell⟩ := len_of_row (HRa.out.below HW.out)
            obtain ⟨b1, o1, rfl, _, hcell⟩ := hcell (by omega)
            injection e1 with e1 _ e3
            subst e1
            subst e3
            obtain ⟨x0, x1, x2, x3, x4, x5⟩ := at_of hcell i hlt
            obtain ⟨x, hx⟩ : ∃ x, L1[i] = x := ⟨_, rfl⟩
            have hxi : L1[i]? = some x := by rw [← hx]; exact List.getElem?_eq_getElem hlt
            obtain ⟨k, y, z, hk1, hk2, ei, em, es, eu, hh1, hh2, hla, hno⟩ := (HTo.out x (List.mem_of_getElem? hxi)).ex
            rw [hx] at x0 x1 x2 x3 x4 x5
            have HXI := Lib.hid hxi
            clear hxi hx hcell
            obtain ⟨xk, xid, xm, xs, xu, xl⟩ := x
            simp only at x0 x1 x2 x3 x4 x5 hk1 ei em es eu hh1 hh2 hla hno
            subst hk1
            have HH1 : Hid (∀ V, Below V8.heap.size V8 V → Calls Tryd.prog 13 #[.pointer (some ⟨g, 0, none⟩), .string ⟨#[97, 98, 99]⟩, .string (mkS k), .int .i64 xid] V fun e w' => e = .returned (.tuple #[.agg #[.int .i64 xid, .bool xm, .int .i64 xs, .int .u32 xu], .int .i64 (if xm then 16 else 0)]) ∧ Hid (Below V.heap.size V w') ∧ Hid (Below V8.heap.size V8 w')) := fun V hV => by
              refine (one_head (HX8.out.below hV) abc k xid y _ (by decide) hk2 HFL.out (HT.out.below (HX8.out.below hV).1) hh1.1 hh1.2.1 rfl).mono fun e w' ⟨he, hb⟩ => ⟨?_, hb, hV.trans (hb.mono hV.size)⟩
              rw [he, hh1.2.2, ← ei, ← em, ← es, ← eu]
              unfold markE
              rw [← em]
            have HH2 : Hid (∀ V, Below V8.heap.size V8 V → Calls Tryd.prog 13 #[.pointer (some ⟨g, 0, none⟩), .string ⟨#[97, 98, 99]⟩, .string (mkS k), .int .i64 0] V fun e w' => e = .returned (.tuple #[.agg #[.int .i64 z.id, .bool z.mark, .int .i64 z.sz, .int .u32 z.sum], .int .i64 (if z.mark then 16 else 0)]) ∧ Hid (Below V.heap.size V w') ∧ Hid (Below V8.heap.size V8 w')) := fun V hV => by
              refine (one_head (HX8.out.below hV) abc k 0 z _ (by decide) hk2 HFL.out (HT.out.below (HX8.out.below hV).1) hh2.1 hh2.2.1 rfl).mono fun e w' ⟨he, hb⟩ => ⟨?_, hb, hV.trans (hb.mono hV.size)⟩
              rw [he, hh2.2.2]
              rfl
            have HNe : Hid (xl = false → z.id ≠ xid) := fun h => by rw [ei]; exact hno h
            have HEq : Hid (xl = true → z.id = xid ∧ z.mark = xm ∧ z.sz = xs ∧ z.sum = xu) := fun h => by rw [hla h]; exact ⟨ei.symm, em.symm, es.symm, eu.symm⟩
            clear hh1 hh2 hla hno ei em es eu hk2
            obtain ⟨zi, zm, zs, zu, zd⟩ := z
            simp only at HH2 HNe HEq
            cases xl with
            | true =>
              obtain ⟨rfl, rfl, rfl, rfl⟩ := HEq.out rfl
              clear HNe HEq
              cases zm with
              | true =>
                rw [if_pos rfl] at HH1 HH2
                obtain ⟨W1, hW1⟩ : ∃ W1, wr.alloc (.cells #[.string (mkS k), .int .i64 zi, .bool true, .int .i64 zs, .int .u32 zu, .bool true] 49) = W1 := ⟨_, rfl⟩
                have hb1 : Below wr.heap.size wr W1 := by rw [← hW1]; exact (Below.refl _ _).alloc (Nat.le_refl _) _
                have hkx : W1.heap[wr.heap.size]? = some (.cells #[.string (mkS k), .int .i64 zi, .bool true, .int .i64 zs, .int .u32 zu, .bool true] 49 (0, 0)) := by rw [← hW1]; exact blk_new wr _
                have HB1 : Hid (Below V8.heap.size V8 W1) := HW.out.trans (hb1.mono HW.out.size)
                have HKx := Lib.hid hkx
                have HW1 := Lib.hid hW1
                clear hW1 hkx hb1
                go_wp2_with fail
                rw [HW1.out]
                clear HW1
                refine (HH1.out _ HB1.out).mono ?_
                rintro e w10 ⟨rfl, HB10, HC10⟩
                have hkx := blk_below HKx.out HB10.out
                obtain ⟨r0, r1, r2, r3, r4, r5⟩ : w10.cell? ⟨wr.heap.size, 0, none⟩ = some (.string (mkS k)) ∧ w10.cell? ⟨wr.heap.size, 1, none⟩ = some (.int .i64 zi) ∧ w10.cell? ⟨wr.heap.size, 2, none⟩ = some (.bool true) ∧ w10.cell? ⟨wr.heap.size, 3, none⟩ = some (.int .i64 zs) ∧ w10.cell? ⟨wr.heap.size, 4, none⟩ = some (.int .u32 zu) ∧ w10.cell? ⟨wr.heap.size, 5, none⟩ = some (.bool true) := ⟨blk_cell hkx 0, blk_cell hkx 1, blk_cell hkx 2, blk_cell hkx 3, blk_cell hkx 4, blk_cell hkx 5⟩
                have HKy := Lib.hid hkx
                have hlt10 := blk_lt hkx
                clear hkx HKx
                obtain ⟨W2, hW2⟩ : ∃ W2, w10.alloc (.cells #[.int .i64 zi, .bool true, .int .i64 zs, .int .u32 zu] 36) = W2 := ⟨_, rfl⟩
                have hb2 : Below w10.heap.size w10 W2 := by rw [← hW2]; exact (Below.refl _ _).alloc (Nat.le_refl _) _
                have hkv : W2.heap[w10.heap.size]? = some (.cells #[.int .i64 zi, .bool true, .int .i64 zs, .int .u32 zu] 36 (0, 0)) := by rw [← hW2]; exact blk_new w10 _
                have HB2 : Hid (Below V8.heap.size V8 W2) := HC10.out.trans (hb2.mono HC10.out.size)
                have HKv := Lib.hid hkv
                have HKz : Hid _ := blk_below HKy.out hb2
                have HW2 := Lib.hid hW2
                clear hW2 hkv hb2
                go_wp2_with fail
                rw [HW2.out]
                clear HW2
                refine (HH2.out _ HB2.out).mono ?_
                rintro e w11 ⟨rfl, HB11, HC11⟩
                clear r0 r1 r2 r3 r4 r5 y0 y1 y2 y3 q0 q1 q2 q3
                have hkx := blk_below HKz.out HB11.out
                have hkv := blk_below HKv.out HB11.out
                obtain ⟨r0, r1, r2, r3, r4, r5⟩ : w11.cell? ⟨wr.heap.size, 0, none⟩ = some (.string (mkS k)) ∧ w11.cell? ⟨wr.heap.size, 1, none⟩ = some (.int .i64 zi) ∧ w11.cell? ⟨wr.heap.size, 2, none⟩ = some (.bool true) ∧ w11.cell? ⟨wr.heap.size, 3, none⟩ = some (.int .i64 zs) ∧ w11.cell? ⟨wr.heap.size, 4, none⟩ = some (.int .u32 zu) ∧ w11.cell? ⟨wr.heap.size, 5, none⟩ = some (.bool true) := ⟨blk_cell hkx 0, blk_cell hkx 1, blk_cell hkx 2, blk_cell hkx 3, blk_cell hkx 4, blk_cell hkx 5⟩
                obtain ⟨v0, v1, v2, v3⟩ : w11.cell? ⟨w10.heap.size, 0, none⟩ = some (.int .i64 zi) ∧ w11.cell? ⟨w10.heap.size, 1, none⟩ = some (.bool true) ∧ w11.cell? ⟨w10.heap.size, 2, none⟩ = some (.int .i64 zs) ∧ w11.cell? ⟨w10.heap.size, 3, none⟩ = some (.int .u32 zu) := ⟨blk_cell hkv 0, blk_cell hkv 1, blk_cell hkv 2, blk_cell hkv 3⟩
                have ltx := blk_lt hkx
                have ltv := blk_lt hkv
                have nex : wr.heap.size ≠ w11.heap.size := by omega
                have nev : w10.heap.size ≠ w11.heap.size := by omega
                clear hkx hkv
                obtain ⟨q0, q1, q2, q3⟩ : w11.cell? ⟨bb, 0, none⟩ = some (.slice p2 L2.length cc2) ∧ w11.cell? ⟨bb, 1, none⟩ = some (.bool m2) ∧ w11.cell? ⟨bb, 2, none⟩ = some (.string k2) ∧ w11.cell? ⟨bb, 3, none⟩ = some (.int .i64 i2) := by
                  have h := blk_below HKb.out HC11.out
                  exact ⟨blk_cell h 0, blk_cell h 1, blk_cell h 2, blk_cell h 3⟩
                have ltb := blk_lt (blk_below HKb.out HC11.out)
                have neb : bb ≠ w11.heap.size := by omega
                have HD11 : Hid (∀ o m, Below V8.heap.size V8 ((w11.alloc o).drewN m)) := fun o m => pw_below_drewN (HC11.out.alloc HC11.out.size o) m
                go_wp2_with fail
                go_quiet (fail)
                go_wp2_with fail
                go_roundw
                case rel => exact ⟨i + 1, by rw [filter_take_succ okE L1 i _ HXI.out, HO.out]; rfl, by go_num, by omega, HD11.out _ _⟩
                case measure => simp [intOf]; omega
              | false =>
                rw [if_neg (by decide)] at HH1 HH2
                obtain ⟨W1, hW1⟩ : ∃ W1, wr.alloc (.cells #[.string (mkS k), .int .i64 zi, .bool false, .int .i64 zs, .int .u32 zu, .bool true] 49) = W1 := ⟨_, rfl⟩
                have hb1 : Below wr.heap.size wr W1 := by rw [← hW1]; exact (Below.refl _ _).alloc (Nat.le_refl _) _
                have hkx : W1.heap[wr.heap.size]? = some (.cells #[.string (mkS k), .int .i64 zi, .bool false, .int .i64 zs, .int .u32 zu, .bool true] 49 (0, 0)) := by rw [← hW1]; exact blk_new wr _
                have HB1 : Hid (Below V8.heap.size V8 W1) := HW.out.trans (hb1.mono HW.out.size)
                have HKx := Lib.hid hkx
                have HW1 := Lib.hid hW1
                clear hW1 hkx hb1
                go_wp2_with fail
                rw [HW1.out]
                clear HW1
                refine (HH1.out _ HB1.out).mono ?_
                rintro e w10 ⟨rfl, HB10, HC10⟩
                have hkx := blk_below HKx.out HB10.out
                obtain ⟨r0, r1, r2, r3, r4, r5⟩ : w10.cell? ⟨wr.heap.size, 0, none⟩ = some (.string (mkS k)) ∧ w10.cell? ⟨wr.heap.size, 1, none⟩ = some (.int .i64 zi) ∧ w10.cell? ⟨wr.heap.size, 2, none⟩ = some (.bool false) ∧ w10.cell? ⟨wr.heap.size, 3, none⟩ = some (.int .i64 zs) ∧ w10.cell? ⟨wr.heap.size, 4, none⟩ = some (.int .u32 zu) ∧ w10.cell? ⟨wr.heap.size, 5, none⟩ = some (.bool true) := ⟨blk_cell hkx 0, blk_cell hkx 1, blk_cell hkx 2, blk_cell hkx 3, blk_cell hkx 4, blk_cell hkx 5⟩
                have HKy := Lib.hid hkx
                have hlt10 := blk_lt hkx
                clear hkx HKx
                obtain ⟨W2, hW2⟩ : ∃ W2, w10.alloc (.cells #[.int .i64 zi, .bool false, .int .i64 zs, .int .u32 zu] 36) = W2 := ⟨_, rfl⟩
                have hb2 : Below w10.heap.size w10 W2 := by rw [← hW2]; exact (Below.refl _ _).alloc (Nat.le_refl _) _
                have hkv : W2.heap[w10.heap.size]? = some (.cells #[.int .i64 zi, .bool false, .int .i64 zs, .int .u32 zu] 36 (0, 0)) := by rw [← hW2]; exact blk_new w10 _
                have HB2 : Hid (Below V8.heap.size V8 W2) := HC10.out.trans (hb2.mono HC10.out.size)
                have HKv := Lib.hid hkv
                have HKz : Hid _ := blk_below HKy.out hb2
                have HW2 := Lib.hid hW2
                clear hW2 hkv hb2
                go_wp2_with fail
                rw [HW2.out]
                clear HW2
                refine (HH2.out _ HB2.out).mono ?_
                rintro e w11 ⟨rfl, HB11, HC11⟩
                clear r0 r1 r2 r3 r4 r5 y0 y1 y2 y3 q0 q1 q2 q3
                have hkx := blk_below HKz.out HB11.out
                have hkv := blk_below HKv.out HB11.out
                obtain ⟨r0, r1, r2, r3, r4, r5⟩ : w11.cell? ⟨wr.heap.size, 0, none⟩ = some (.string (mkS k)) ∧ w11.cell? ⟨wr.heap.size, 1, none⟩ = some (.int .i64 zi) ∧ w11.cell? ⟨wr.heap.size, 2, none⟩ = some (.bool false) ∧ w11.cell? ⟨wr.heap.size, 3, none⟩ = some (.int .i64 zs) ∧ w11.cell? ⟨wr.heap.size, 4, none⟩ = some (.int .u32 zu) ∧ w11.cell? ⟨wr.heap.size, 5, none⟩ = some (.bool true) := ⟨blk_cell hkx 0, blk_cell hkx 1, blk_cell hkx 2, blk_cell hkx 3, blk_cell hkx 4, blk_cell hkx 5⟩
                obtain ⟨v0, v1, v2, v3⟩ : w11.cell? ⟨w10.heap.size, 0, none⟩ = some (.int .i64 zi) ∧ w11.cell? ⟨w10.heap.size, 1, none⟩ = some (.bool false) ∧ w11.cell? ⟨w10.heap.size, 2, none⟩ = some (.int .i64 zs) ∧ w11.cell? ⟨w10.heap.size, 3, none⟩ = some (.int .u32 zu) := ⟨blk_cell hkv 0, blk_cell hkv 1, blk_cell hkv 2, blk_cell hkv 3⟩
                have ltx := blk_lt hkx
                have ltv := blk_lt hkv
                have nex : wr.heap.size ≠ w11.heap.size := by omega
                have nev : w10.heap.size ≠ w11.heap.size := by omega
                clear hkx hkv
                obtain ⟨q0, q1, q2, q3⟩ : w11.cell? ⟨bb, 0, none⟩ = some (.slice p2 L2.length cc2) ∧ w11.cell? ⟨bb, 1, none⟩ = some (.bool m2) ∧ w11.cell? ⟨bb, 2, none⟩ = some (.string k2) ∧ w11.cell? ⟨bb, 3, none⟩ = some (.int .i64 i2) := by
                  have h := blk_below HKb.out HC11.out
                  exact ⟨blk_cell h 0, blk_cell h 1, blk_cell h 2, blk_cell h 3⟩
                have ltb := blk_lt (blk_below HKb.out HC11.out)
                have neb : bb ≠ w11.heap.size := by omega
                have HD11 : Hid (∀ o m, Below V8.heap.size V8 ((w11.alloc o).drewN m)) := fun o m => pw_below_drewN (HC11.out.alloc HC11.out.size o) m
                have hob := filter_at okE L1 i _ HXI.out rfl
                rw [HO.out, ← HL2.out] at hob
                have holt : o < L2.length := (List.getElem?_eq_some_iff.1 hob).1
                have holtz : (o : Int) < (L2.length : Int) := by omega
                obtain ⟨p'', c'', e2, hcell2⟩ := len_of_row (HRb.out.below HC11.out)
                obtain ⟨b2, o2, rfl, hb2l, hcell2⟩ := hcell2 (by omega)
                injection e2 with e2 _ e4
                subst e2
                subst e4
                obtain ⟨s0, s1, s2, s3, s4, s5⟩ := at_of hcell2 o holt
                rw [show L2[o] = _ from (List.getElem?_eq_some_iff.1 hob).2] at s0 s1 s2 s3 s4 s5
                simp only at s0 s1 s2 s3 s4 s5
                have neb2 : b2 ≠ w11.heap.size := by omega
                have hole : o < 1000 := by
                  have h := List.length_filter_le okE L1
                  rw [← HL2.out] at h
                  omega
                clear hob hcell2
                go_wp2_with fail
                go_quiet (fail)
                go_wp2_with fail
                go_quiet (fail)
                go_wp2_with fail
                go_roundw
                case rel => exact ⟨i + 1, by rw [filter_take_succ okE L1 i _ HXI.out, HO.out]; show Value.int .i64 ((o : Int) + 1) = .int .i64 ((o + 1 : Nat) : Int); go_num, by go_num, by omega, HD11.out _ _⟩
                case measure => simp [intOf]; omega
            | false =>
              have hne : (zi == xid) = false := by simp; exact HNe.out rfl
              have hne2 : (xid == zi) = false := by simp; exact fun e => HNe.out rfl e.symm
              clear HNe HEq
              obtain ⟨er2, her2⟩ : ∃ er2 : Int, (if zm = true then (16 : Int) else 0) = er2 := ⟨_, rfl⟩
              rw [her2] at HH2
              clear her2
              cases xm with
              | true =>
                rw [if_pos rfl] at HH1
                obtain ⟨W1, hW1⟩ : ∃ W1, wr.alloc (.cells #[.string (mkS k), .int .i64 xid, .bool true, .int .i64 xs, .int .u32 xu, .bool false] 49) = W1 := ⟨_, rfl⟩
                have hb1 : Below wr.heap.size wr W1 := by rw [← hW1]; exact (Below.refl _ _).alloc (Nat.le_refl _) _
                have hkx : W1.heap[wr.heap.size]? = some (.cells #[.string (mkS k), .int .i64 xid, .bool true, .int .i64 xs, .int .u32 xu, .bool false] 49 (0, 0)) := by rw [← hW1]; exact blk_new wr _
                have HB1 : Hid (Below V8.heap.size V8 W1) := HW.out.trans (hb1.mono HW.out.size)
                have HKx := Lib.hid hkx
                have HW1 := Lib.hid hW1
                clear hW1 hkx hb1
                go_wp2_with fail
                rw [HW1.out]
                clear HW1
                refine (HH1.out _ HB1.out).mono ?_
                rintro e w10 ⟨rfl, HB10, HC10⟩
                have hkx := blk_below HKx.out HB10.out
                obtain ⟨r0, r1, r2, r3, r4, r5⟩ : w10.cell? ⟨wr.heap.size, 0, none⟩ = some (.string (mkS k)) ∧ w10.cell? ⟨wr.heap.size, 1, none⟩ = some (.int .i64 xid) ∧ w10.cell? ⟨wr.heap.size, 2, none⟩ = some (.bool true) ∧ w10.cell? ⟨wr.heap.size, 3, none⟩ = some (.int .i64 xs) ∧ w10.cell? ⟨wr.heap.size, 4, none⟩ = some (.int .u32 xu) ∧ w10.cell? ⟨wr.heap.size, 5, none⟩ = some (.bool false) := ⟨blk_cell hkx 0, blk_cell hkx 1, blk_cell hkx 2, blk_cell hkx 3, blk_cell hkx 4, blk_cell hkx 5⟩
                have HKy := Lib.hid hkx
                have hlt10 := blk_lt hkx
                clear hkx HKx
                obtain ⟨W2, hW2⟩ : ∃ W2, w10.alloc (.cells #[.int .i64 xid, .bool true, .int .i64 xs, .int .u32 xu] 36) = W2 := ⟨_, rfl⟩
                have hb2 : Below w10.heap.size w10 W2 := by rw [← hW2]; exact (Below.refl _ _).alloc (Nat.le_refl _) _
                have hkv : W2.heap[w10.heap.size]? = some (.cells #[.int .i64 xid, .bool true, .int .i64 xs, .int .u32 xu] 36 (0, 0)) := by rw [← hW2]; exact blk_new w10 _
                have HB2 : Hid (Below V8.heap.size V8 W2) := HC10.out.trans (hb2.mono HC10.out.size)
                have HKv := Lib.hid hkv
                have HKz : Hid _ := blk_below HKy.out hb2
                have HW2 := Lib.hid hW2
                clear hW2 hkv hb2
                go_wp2_with fail
                rw [HW2.out]
                clear HW2
                refine (HH2.out _ HB2.out).mono ?_
                rintro e w11 ⟨rfl, HB11, HC11⟩
                clear r0 r1 r2 r3 r4 r5 y0 y1 y2 y3 q0 q1 q2 q3
                have hkx := blk_below HKz.out HB11.out
                have hkv := blk_below HKv.out HB11.out
                obtain ⟨r0, r1, r2, r3, r4, r5⟩ : w11.cell? ⟨wr.heap.size, 0, none⟩ = some (.string (mkS k)) ∧ w11.cell? ⟨wr.heap.size, 1, none⟩ = some (.int .i64 xid) ∧ w11.cell? ⟨wr.heap.size, 2, none⟩ = some (.bool true) ∧ w11.cell? ⟨wr.heap.size, 3, none⟩ = some (.int .i64 xs) ∧ w11.cell? ⟨wr.heap.size, 4, none⟩ = some (.int .u32 xu) ∧ w11.cell? ⟨wr.heap.size, 5, none⟩ = some (.bool false) := ⟨blk_cell hkx 0, blk_cell hkx 1, blk_cell hkx 2, blk_cell hkx 3, blk_cell hkx 4, blk_cell hkx 5⟩
                obtain ⟨v0, v1, v2, v3⟩ : w11.cell? ⟨w10.heap.size, 0, none⟩ = some (.int .i64 xid) ∧ w11.cell? ⟨w10.heap.size, 1, none⟩ = some (.bool true) ∧ w11.cell? ⟨w10.heap.size, 2, none⟩ = some (.int .i64 xs) ∧ w11.cell? ⟨w10.heap.size, 3, none⟩ = some (.int .u32 xu) := ⟨blk_cell hkv 0, blk_cell hkv 1, blk_cell hkv 2, blk_cell hkv 3⟩
                have ltx := blk_lt hkx
                have ltv := blk_lt hkv
                have nex : wr.heap.size ≠ w11.heap.size := by omega
                have nev : w10.heap.size ≠ w11.heap.size := by omega
                clear hkx hkv
                obtain ⟨q0, q1, q2, q3⟩ : w11.cell? ⟨bb, 0, none⟩ = some (.slice p2 L2.length cc2) ∧ w11.cell? ⟨bb, 1, none⟩ = some (.bool m2) ∧ w11.cell? ⟨bb, 2, none⟩ = some (.string k2) ∧ w11.cell? ⟨bb, 3, none⟩ = some (.int .i64 i2) := by
                  have h := blk_below HKb.out HC11.out
                  exact ⟨blk_cell h 0, blk_cell h 1, blk_cell h 2, blk_cell h 3⟩
                have ltb := blk_lt (blk_below HKb.out HC11.out)
                have neb : bb ≠ w11.heap.size := by omega
                have HD11 : Hid (∀ o m, Below V8.heap.size V8 ((w11.alloc o).drewN m)) := fun o m => pw_below_drewN (HC11.out.alloc HC11.out.size o) m
                go_wp2_with fail
                go_quiet (fail)
                go_wp2_with fail
                go_roundw
                case rel => exact ⟨i + 1, by rw [filter_take_succ okE L1 i _ HXI.out, HO.out]; rfl, by go_num, by omega, HD11.out _ _⟩
                case measure => simp [intOf]; omega
              | false =>
                rw [if_neg (by decide)] at HH1
                obtain ⟨W1, hW1⟩ : ∃ W1, wr.alloc (.cells #[.string (mkS k), .int .i64 xid, .bool false, .int .i64 xs, .int .u32 xu, .bool false] 49) = W1 := ⟨_, rfl⟩
                have hb1 : Below wr.heap.size wr W1 := by rw [← hW1]; exact (Below.refl _ _).alloc (Nat.le_refl _) _
                have hkx : W1.heap[wr.heap.size]? = some (.cells #[.string (mkS k), .int .i64 xid, .bool false, .int .i64 xs, .int .u32 xu, .bool false] 49 (0, 0)) := by rw [← hW1]; exact blk_new wr _
                have HB1 : Hid (Below V8.heap.size V8 W1) := HW.out.trans (hb1.mono HW.out.size)
                have HKx := Lib.hid hkx
                have HW1 := Lib.hid hW1
                clear hW1 hkx hb1
                go_wp2_with fail
                rw [HW1.out]
                clear HW1
                refine (HH1.out _ HB1.out).mono ?_
                rintro e w10 ⟨rfl, HB10, HC10⟩
                have hkx := blk_below HKx.out HB10.out
                obtain ⟨r0, r1, r2, r3, r4, r5⟩ : w10.cell? ⟨wr.heap.size, 0, none⟩ = some (.string (mkS k)) ∧ w10.cell? ⟨wr.heap.size, 1, none⟩ = some (.int .i64 xid) ∧ w10.cell? ⟨wr.heap.size, 2, none⟩ = some (.bool false) ∧ w10.cell? ⟨wr.heap.size, 3, none⟩ = some (.int .i64 xs) ∧ w10.cell? ⟨wr.heap.size, 4, none⟩ = some (.int .u32 xu) ∧ w10.cell? ⟨wr.heap.size, 5, none⟩ = some (.bool false) := ⟨blk_cell hkx 0, blk_cell hkx 1, blk_cell hkx 2, blk_cell hkx 3, blk_cell hkx 4, blk_cell hkx 5⟩
                have HKy := Lib.hid hkx
                have hlt10 := blk_lt hkx
                clear hkx HKx
                obtain ⟨W2, hW2⟩ : ∃ W2, w10.alloc (.cells #[.int .i64 xid, .bool false, .int .i64 xs, .int .u32 xu] 36) = W2 := ⟨_, rfl⟩
                have hb2 : Below w10.heap.size w10 W2 := by rw [← hW2]; exact (Below.refl _ _).alloc (Nat.le_refl _) _
                have hkv : W2.heap[w10.heap.size]? = some (.cells #[.int .i64 xid, .bool false, .int .i64 xs, .int .u32 xu] 36 (0, 0)) := by rw [← hW2]; exact blk_new w10 _
                have HB2 : Hid (Below V8.heap.size V8 W2) := HC10.out.trans (hb2.mono HC10.out.size)
                have HKv := Lib.hid hkv
                have HKz : Hid _ := blk_below HKy.out hb2
                have HW2 := Lib.hid hW2
                clear hW2 hkv hb2
                go_wp2_with fail
                rw [HW2.out]
                clear HW2
                refine (HH2.out _ HB2.out).mono ?_
                rintro e w11 ⟨rfl, HB11, HC11⟩
                clear r0 r1 r2 r3 r4 r5 y0 y1 y2 y3 q0 q1 q2 q3
                have hkx := blk_below HKz.out HB11.out
                have hkv := blk_below HKv.out HB11.out
                obtain ⟨r0, r1, r2, r3, r4, r5⟩ : w11.cell? ⟨wr.heap.size, 0, none⟩ = some (.string (mkS k)) ∧ w11.cell? ⟨wr.heap.size, 1, none⟩ = some (.int .i64 xid) ∧ w11.cell? ⟨wr.heap.size, 2, none⟩ = some (.bool false) ∧ w11.cell? ⟨wr.heap.size, 3, none⟩ = some (.int .i64 xs) ∧ w11.cell? ⟨wr.heap.size, 4, none⟩ = some (.int .u32 xu) ∧ w11.cell? ⟨wr.heap.size, 5, none⟩ = some (.bool false) := ⟨blk_cell hkx 0, blk_cell hkx 1, blk_cell hkx 2, blk_cell hkx 3, blk_cell hkx 4, blk_cell hkx 5⟩
                obtain ⟨v0, v1, v2, v3⟩ : w11.cell? ⟨w10.heap.size, 0, none⟩ = some (.int .i64 xid) ∧ w11.cell? ⟨w10.heap.size, 1, none⟩ = some (.bool false) ∧ w11.cell? ⟨w10.heap.size, 2, none⟩ = some (.int .i64 xs) ∧ w11.cell? ⟨w10.heap.size, 3, none⟩ = some (.int .u32 xu) := ⟨blk_cell hkv 0, blk_cell hkv 1, blk_cell hkv 2, blk_cell hkv 3⟩
                have ltx := blk_lt hkx
                have ltv := blk_lt hkv
                have nex : wr.heap.size ≠ w11.heap.size := by omega
                have nev : w10.heap.size ≠ w11.heap.size := by omega
                clear hkx hkv
                obtain ⟨q0, q1, q2, q3⟩ : w11.cell? ⟨bb, 0, none⟩ = some (.slice p2 L2.length cc2) ∧ w11.cell? ⟨bb, 1, none⟩ = some (.bool m2) ∧ w11.cell? ⟨bb, 2, none⟩ = some (.string k2) ∧ w11.cell? ⟨bb, 3, none⟩ = some (.int .i64 i2) := by
                  have h := blk_below HKb.out HC11.out
                  exact ⟨blk_cell h 0, blk_cell h 1, blk_cell h 2, blk_cell h 3⟩
                have ltb := blk_lt (blk_below HKb.out HC11.out)
                have neb : bb ≠ w11.heap.size := by omega
                have HD11 : Hid (∀ o m, Below V8.heap.size V8 ((w11.alloc o).drewN m)) := fun o m => pw_below_drewN (HC11.out.alloc HC11.out.size o) m
                go_wp2_with fail
                go_quiet (fail)
                go_wp2_with fail
                go_roundw
                case rel => exact ⟨i + 1, by rw [filter_take_succ okE L1 i _ HXI.out, HO.out]; rfl, by go_num, by omega, HD11.out _ _⟩
                case measure => simp [intOf]; omega
          · have hltz : ¬ (i : Int) < (L1.length : Int) := by omega
            have hie : i = L1.length := by omega
            have hoe : o = L2.length := by
              rw [← HO.out, hie, List.take_length, HL2.out]
            subst hoe
            clear HO hie
            go_wp2_with fail
            go_ret
            exact ⟨rfl, HX8.out.1.trans (HW.out.mono HX8.out.1.size)⟩
end Go.Proofs.YtjbjcfnbgcloiaaDoor.modelLists

/- ModelLists: what lists tell is what Heads tell. -/
namespace Go.Proofs.YtjbjcfnbgcloiaaDoor.modelLists
open Go.ChangeShapes Go.WideShapes Go.ChangeAt Go.RowKit Go.Shelf Nam Go.Proofs.YtjbjcfnbgcloiaaDoor

section
variable {H : Type} {enc : TypeId × Value → H}
set_option maxRecDepth 100000 in
theorem walk (u : Value) (du : DataW H) (pu : List MemPlace) {Wu : World} {bu : Nat} (ou : Value.okWide Tryd.prog Wu .any bu 22 u) (hu : DataW.Trod enc Tryd.prog Wu 0 (fun _ => true) true 22 u du pu) (W : World) (eu : W = Wu) (hT : Tabs W) :
    Calls Tryd.prog 3 #[u] W fun e W' => e = .returned (.bool true) ∧ Below W.heap.size W W' := by
  subst eu
  obtain ⟨lu, Au, cu, rfl, hcu, hCu, hNu⟩ := open_chs ou hu
  exact walk0 lu Au cu W hcu hCu hT
end
theorem own : ownKnob Tryd.prog.godebug = none := by kernel_rfl
theorem laidOut : laidOutB Tryd.prog = true := by kernel_rfl
/-- A world for the witness: the two tables holding what their initialisers lay. -/
noncomputable def laidWorld (os : Os) : World :=
  let w0 := World.holding Tryd.prog os ⟨#[], #[], []⟩
  let put (h : Array Obj) (g : Nat) (cs : Array Value) : Array Obj := h.modify g fun
    | .cells _ t frozen => .cells cs t frozen
    | o => o
  let h1 := put w0.heap 0 (Lib.firstTab.map fun z => Value.int .u8 z).toArray
  let h2 := put h1 1 ((List.range 16).flatMap fun i => [Value.int .u8 (Lib.accLo i), Value.int .u8 (Lib.accHi i)]).toArray
  { w0 with heap := h2 }
theorem laid_met (os : Os) : laidMet Tryd.prog Rows.modelListsRow.laid ((laidWorld os).forCall (fun _ _ => 0) ⟨#[], #[.slice none 0 0], []⟩).memory :=
  laidMet_of_run' 8 (by kernel_rfl) (by kernel_rfl)
theorem reads (os : Os) {H : Type} (enc : TypeId × Value → H) : ∃ places, DataW.whole enc Tryd.prog ((laidWorld os).forCall (fun _ _ => 0) ⟨#[], #[.slice none 0 0], []⟩).memory Tryd.f3.params.toList Rows.modelListsSpec.vars false (#[.slice none 0 0] : Array Value).toList 8 = some ([.nil], [], places) :=
  ⟨[], by kernel_rfl⟩
set_option maxRecDepth 1000000 in
theorem tabs_of {W : World} (h : laidMetH Tryd.prog Rows.modelListsRow.laid W) : Tabs W :=
  utf8Tabs_of_readsT (U8Types.of196 Tryd.laysValid) ⟨by kernel_rfl, by kernel_rfl, by kernel_rfl, by kernel_rfl, by kernel_rfl, by kernel_rfl, by kernel_rfl⟩ (Lib.laidMet.reads h (.tail _ (.head _))) (Lib.laidMet.reads h (.head _))
set_option maxRecDepth 100000 in
theorem lifted (os : Os) (started : os.Started) (H : Type) (enc : TypeId × Value → H) (F : Stop.Interp) :
    ReturnsInHanded {} Tryd.checked os 3 .any ((OpenSpec.ofChange Rows.modelListsSpec).preRow enc Tryd.prog Tryd.f3 Rows.modelListsRow.domain false Rows.modelListsRow.laid) (((OpenSpec.ofChange Rows.modelListsSpec).at F).post enc Tryd.prog Tryd.f3 false true false false) := by
  obtain ⟨places, hx⟩ := reads os enc
  refine returnsInHanded_of_row (C := Tryd.checked) (s := OpenSpec.ofChange Rows.modelListsSpec) own started (by kernel_rfl) Tryd.func3
    (witness_row_at (enc := enc) (C := Tryd.checked) false (laidWorld os) #[.slice none 0 0] rfl (by kernel_rfl) (by kernel_rfl) (by kernel_rfl)
      (OpenSpec.preRow_of_cond 8 hx (by kernel_rfl) (fun k hk => by cases hk) (by kernel_rfl) (laid_met os))) ?_
  intro W base args ds gs before hval0 hW _ _ _ hL _ _
  have hval : ∀ (j : Nat) t v, Tryd.f3.params[j]? = some t → args[j]? = some v → Value.okWide Tryd.prog W .any base t v := hval0
  have hW' := hW
  obtain ⟨p, q, hA0, hV, rfl, hfz, hnd⟩ := hW
  have hA : DataW.TrodAll enc Tryd.prog W 0 (fun _ => true) true Tryd.f3.params.toList args.toList ds p := hA0
  rw [Tryd.params3] at hA hval
  obtain ⟨v0, vs0, d0, ds0, p0, q0, hargs, rfl, rfl, h0, r0⟩ := trodAll_cons hA
  obtain ⟨rfl, rfl, rfl⟩ := trodAll_nil r0
  obtain rfl : args = #[v0] := by cases args; simp_all
  obtain ⟨rfl, rfl⟩ := trodVars_none hV
  have o0 := hval 0 22 v0 rfl rfl
  clear hA0 hval0
  simp only [List.append_nil] at hW'
  refine (walk v0 d0 p0 o0 h0 W rfl (tabs_of hL)).mono fun e W' ⟨he, hg⟩ => ?_
  subst he
  exact ⟨_, rfl, law_post (s := Rows.modelListsSpec) laidOut (of_decide_eq_true (by kernel_rfl)) Tryd.underlying4 rfl rfl rfl rfl rfl hW' hg⟩

theorem said : Rows.ModelListsSaid :=
  OpenClaim.holds_of_cond 3 Tryd.f3 rfl rfl rfl rfl rfl rfl rfl ⟨rfl, rfl, rfl, rfl, rfl⟩ rfl rfl rfl rfl rfl (by kernel_rfl) Tryd.func3 (by kernel_rfl)
    (of_decide_eq_true (by kernel_rfl)) (by unfold Func.isWrapper; first | (rw [if_pos (by decide +kernel)]; kernel_rfl) | (rw [if_neg (by decide +kernel)]; exact ⟨rfl, rfl⟩))
    (fun os started H enc _ F => by rw [OpenClaim.pre_eq_preRow]; exact lifted os started H enc F)
theorem plain (f : FuncId) (fn : Func) (hf : Tryd.pinned.checked.prog.funcNamed "strongbox/strongboxlaw22.ModelLists" = some f) (hfn : Tryd.pinned.checked.prog.funcs[f]? = some fn) :
    true = Tryd.pinned.checked.prog.looks [] ∧ ∀ (j : Nat) t, fn.params[j]? = some t → Tryd.pinned.checked.prog.wantsStandIn t = false := by
  obtain rfl : f = 3 := Option.some.inj ((show Tryd.prog.funcNamed "strongbox/strongboxlaw22.ModelLists" = some 3 by kernel_rfl).symm.trans hf) |>.symm
  obtain rfl : fn = Tryd.f3 := (Option.some.inj (Tryd.func3.symm.trans hfn)).symm
  refine ⟨by kernel_rfl, fun j t ht => ?_⟩
  rw [Tryd.params3] at ht
  have hm := Array.mem_of_getElem? ht
  simp only [List.mem_toArray, List.mem_cons, List.not_mem_nil, or_false] at hm
  obtain rfl := hm
  · exact (show Tryd.prog.wantsStandIn 22 = false by kernel_rfl)

/-- ████ THE CARD ████ -/
theorem proved : Rows.ModelListsCardSaid :=
  Claim7.holds_tied_plain_at .later [] _ _ _ _ said (fun _ h => by cases h) (by kernel_rfl) (fun _ h => by cases h) modelLists_row_tie rfl ⟨rfl, rfl⟩ (by kernel_rfl) rfl plain (by kernel_rfl)
#print axioms proved
end Go.Proofs.YtjbjcfnbgcloiaaDoor.modelLists
