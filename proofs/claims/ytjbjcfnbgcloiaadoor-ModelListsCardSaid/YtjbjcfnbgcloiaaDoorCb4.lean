/- One choice on a model, its names' verbs together; models beside each other. -/
import Derived.Test.YtjbjcfnbgcloiaaDoorCb3
import Derived.Lib.SlBytesConst
import Derived.Sort.LotA
import Derived.Sort.Lot0
import Derived.Test.YtjbjcfnbgcloiaaDoorRows
import Derived.Shelf.SlSortCmp.KitK
import Derived.WalkKit
import Derived.ProofKit
import Derived.OpenShut
import Derived.Lib.Hide
import Derived.Handy
import Derived.Deep.CutRange
set_option linter.unusedSimpArgs false
set_option linter.unusedVariables false


namespace Go.Proofs.YtjbjcfnbgcloiaaDoor
open Go.RowKit Nam YtjbjcfnbgcloiaaDoorW.PrintWords

/-! ### states stay small -/
structure St.Fine (S : St) : Prop where
  len : ∀ b k, (S.V b k).length ≤ 64
  dt : ∀ b k, ∀ y ∈ S.V b k, y.dt.length ≤ 65536
theorem fine_new : St.Fine St.new := ⟨fun _ _ => Nat.zero_le _, fun _ _ y h => by cases h⟩
theorem fine_put {S : St} (h : S.Fine) (b k : List UInt8) (l : List Kp) (hl : l.length ≤ 64) (hd : ∀ y ∈ l, y.dt.length ≤ 65536) : (S.put b k l).Fine := by
  refine ⟨fun b' k' => ?_, fun b' k' y hy => ?_⟩
  · show (if b' = b ∧ k' = k then l else S.V b' k').length ≤ 64
    split
    · exact hl
    · exact h.len _ _
  · have hy' : y ∈ (if b' = b ∧ k' = k then l else S.V b' k') := hy
    split at hy'
    · exact hd y hy'
    · exact h.dt _ _ y hy'
theorem moreE_len {l : List Kp} {x : Kp} (h : moreE l x = 0) : l.length < 64 := by
  unfold moreE at h
  split at h
  · cases h
  · omega
theorem fine_snoc {S : St} (h : S.Fine) (b k : List UInt8) (x : Kp) (hm : moreE (S.V b k) x = 0) (hd : x.dt.length ≤ 65536) : (S.put b k (S.V b k ++ [x])).Fine := by
  have := moreE_len hm
  refine fine_put h b k _ (by simp; omega) fun y hy => ?_
  rcases List.mem_append.1 hy with hy | hy
  · exact h.dt _ _ y hy
  · rw [List.mem_singleton] at hy
    subst hy
    exact hd
theorem putE_more {S : St} {id : Int} {b k d : List UInt8} (h : S.putE id b k d = 0) : moreE (S.V b k) (kpOf id d) = 0 ∧ d.length ≤ 65536 ∧ b ∈ S.B ∧ namedB b k = true := by
  unfold St.putE at h
  split at h
  · cases h
  · rename_i h1
    split at h
    · cases h
    · split at h
      · cases h
      · rename_i h2 h3
        exact ⟨h, by omega, Classical.not_not.1 h3, by simpa using h1⟩
theorem fine_doPut {S : St} (h : S.Fine) (id : Int) (b k d : List UInt8) : (S.doPut id b k d).Fine := by
  unfold St.doPut
  split
  · rename_i hp
    obtain ⟨h1, h2, _⟩ := putE_more hp
    exact fine_snoc h b k _ h1 h2
  · exact h
theorem delE_more {S : St} {id : Int} {b k : List UInt8} (h : S.delE id b k = 0) : S.findE b k 0 0 = 0 ∧ moreE (S.V b k) (kpDel id) = 0 := by
  unfold St.delE at h
  by_cases hf : S.findE b k 0 0 = 0
  · rw [if_neg (by simp [hf])] at h
    exact ⟨hf, h⟩
  · rw [if_pos hf] at h
    exact absurd h hf
theorem fine_doDel {S : St} (h : S.Fine) (id : Int) (b k : List UInt8) : (S.doDel id b k).Fine := by
  unfold St.doDel
  split
  · rename_i hp
    exact fine_snoc h b k _ (delE_more hp).2 (by simp [kpDel])
  · exact h
theorem fine_doEra {S : St} (h : S.Fine) (b k : List UInt8) (id : Int) : (S.doEra b k id).Fine := by
  unfold St.doEra
  split
  · refine fine_put h b k _ ?_ fun y hy => ?_
    · unfold St.eraL
      have := h.len b k
      simp
      omega
    · unfold St.eraL at hy
      rcases List.mem_append.1 hy with hy | hy
      · exact h.dt _ _ y (List.mem_of_mem_take hy)
      · exact h.dt _ _ y (List.mem_of_mem_drop hy)
  · exact h

/-! ### a choice of a name's verbs -/
def St.callE (S : St) (x : Ch) (id : Int) : Int :=
  if x.d = 4 then S.putE id x.bk x.ky x.dt else if x.d = 7 then S.delE id x.bk x.ky else if x.d = 8 then S.findE x.bk x.ky x.n 1 else S.getE x.bk x.ky x.n
def St.callS (S : St) (x : Ch) (id : Int) : St :=
  if x.d = 4 then S.doPut id x.bk x.ky x.dt else if x.d = 7 then S.doDel id x.bk x.ky else if x.d = 8 then S.doEra x.bk x.ky x.n else S
theorem fine_callS {S : St} (h : S.Fine) (x : Ch) (id : Int) : (S.callS x id).Fine := by
  unfold St.callS
  split
  · exact fine_doPut h _ _ _ _
  · split
    · exact fine_doDel h _ _ _
    · split
      · exact fine_doEra h _ _ _
      · exact h
def Named (x : Ch) : Prop := x.d = 4 ∨ x.d = 5 ∨ x.d = 6 ∨ x.d = 7 ∨ x.d = 8
theorem call5_is (w : World) (g : Nat) (S : St) (n : Nat) (Q F : Nat → Prop) (x : Ch) (A : Option Addr) (c : Nat) (id : Int) (hd : Named x) (hb : x.bk.length ≤ 100000) (hk : x.ky.length ≤ 100000) (hdt : x.dt.length ≤ 1000000) (hn : n ≤ 100000) (hS : S.Fine) (hm : HasM w g S n Q F)
    (hC : ∀ V, Below w.heap.size w V → (Kd.int .u8).C V A (byN x.dt).length (byN x.dt)) (hT : Tabs w) :
    Calls Tryd.prog 10 #[.pointer (some ⟨g, 0, none⟩), .agg (chCells x (.slice A (byN x.dt).length c)).toArray, .int .i64 id] w fun e w' =>
      (∃ y dv, e = .returned (.agg (ansL (S.callE x id) y dv).toArray)) ∧ (∃ F', HasM w' g (S.callS x id) (n + 1) Q F') ∧ Moved Q w w' := by
  have hl := hS.len x.bk x.ky
  have hdd : ∀ y ∈ S.V x.bk x.ky, y.dt.length ≤ 1000000 := fun y hy => by have := hS.dt _ _ y hy; omega
  obtain ⟨d, bk, ky, dt, nn, a, pf, fr, fi, mo⟩ := x
  unfold St.callE St.callS Named at *
  simp only at hd hb hk hdt hC hl hdd ⊢
  rw [byN_length] at hC ⊢
  rcases hd with rfl | rfl | rfl | rfl | rfl
  · exact (call_put w g S n Q F bk ky dt pf fr A c id nn a fi mo hb hk hdt hn hm hC hT).mono fun e w' ⟨⟨y, dv, he, _⟩, ⟨F', h1, _⟩, h2⟩ => ⟨⟨y, dv, he⟩, ⟨F', h1⟩, h2⟩
  · exact (call_get w g S n Q F bk ky pf fr _ id nn a fi mo hb hk (by omega) hdd hm hT).mono fun e w' ⟨⟨y, dv, he, _⟩, ⟨F', h1, _⟩, h2⟩ => ⟨⟨y, dv, he⟩, ⟨F', h1⟩, h2⟩
  · exact (call_head w g S n Q F bk ky pf fr _ id nn a fi mo hb hk (by omega) hdd hm hT).mono fun e w' ⟨⟨y, dv, he, _⟩, ⟨F', h1, _⟩, h2⟩ => ⟨⟨y, dv, he⟩, ⟨F', h1⟩, h2⟩
  · exact (call_del w g S n Q F bk ky pf fr _ id nn a fi mo hb hk (by omega) hn hm hT).mono fun e w' ⟨⟨y, dv, he, _⟩, ⟨F', h1, _⟩, h2⟩ => ⟨⟨y, dv, he⟩, ⟨F', h1⟩, h2⟩
  · exact (call_era w g S n Q F bk ky pf fr _ id nn a fi mo hb hk (by omega) hn hm hT).mono fun e w' ⟨⟨y, dv, he, _⟩, ⟨F', h1, _⟩, h2⟩ => ⟨⟨y, dv, he⟩, ⟨F', h1⟩, h2⟩

/-! ### one model, two models, beside a first world -/
def One (w0 W : World) (g : Nat) (S : St) (n : Nat) : Prop := Below w0.heap.size w0 W ∧ ∃ Q F, HasM W g S n Q F ∧ ∀ k, Q k → w0.heap.size ≤ k
def Two (w0 W : World) (g : Nat) (S : St) (n : Nat) (g' : Nat) (S' : St) (n' : Nat) : Prop :=
  Below w0.heap.size w0 W ∧ ∃ Q F Q' F', HasM W g S n Q F ∧ HasM W g' S' n' Q' F' ∧ (∀ k, Q k → w0.heap.size ≤ k) ∧ (∀ k, Q' k → w0.heap.size ≤ k) ∧ ∀ k, Q k → ¬ Q' k
theorem One.below {w0 W V : World} {g n : Nat} {S : St} (h : One w0 W g S n) (hb : Below W.heap.size W V) : One w0 V g S n := by
  obtain ⟨h1, Q, F, h2, h3⟩ := h
  exact ⟨h1.trans (hb.mono h1.size), Q, F, h2.below hb, h3⟩
theorem Two.below {w0 W V : World} {g n g' n' : Nat} {S S' : St} (h : Two w0 W g S n g' S' n') (hb : Below W.heap.size W V) : Two w0 V g S n g' S' n' := by
  obtain ⟨h1, Q, F, Q', F', h2, h3, h4⟩ := h
  exact ⟨h1.trans (hb.mono h1.size), Q, F, Q', F', h2.below hb, h3.below hb, h4⟩
theorem Two.symm {w0 W : World} {g n g' n' : Nat} {S S' : St} (h : Two w0 W g S n g' S' n') : Two w0 W g' S' n' g S n := by
  obtain ⟨h1, Q, F, Q', F', h2, h3, h4, h5, h6⟩ := h
  exact ⟨h1, Q', F', Q, F, h3, h2, h5, h4, fun k hk hq => h6 k hq hk⟩
theorem Two.left {w0 W : World} {g n g' n' : Nat} {S S' : St} (h : Two w0 W g S n g' S' n') : One w0 W g S n := by
  obtain ⟨h1, Q, F, Q', F', h2, h3, h4, h5, h6⟩ := h
  exact ⟨h1, Q, F, h2, h4⟩
theorem One.bound {w0 W : World} {g n m : Nat} {S : St} (h : One w0 W g S n) (hn : n ≤ m) : One w0 W g S m := by
  obtain ⟨h1, Q, F, h2, h3⟩ := h
  exact ⟨h1, Q, F, h2.mono hn, h3⟩
/-- A call on the one of two. -/
theorem Two.turn {w0 W V : World} {g n n2 g' n' : Nat} {S S2 S' : St} {Q F Q' F' Q2 F2 : Nat → Prop} (h1 : Below w0.heap.size w0 W) (h2 : HasM W g S n Q F) (h3 : HasM W g' S' n' Q' F') (h4 : ∀ k, Q k → w0.heap.size ≤ k) (h5 : ∀ k, Q' k → w0.heap.size ≤ k) (h6 : ∀ k, Q k → ¬ Q' k)
    (hm : HasM V g S2 n2 Q2 F2) (hmv : Moved Q W V) (hq : ∀ k, Q2 k → Q k ∨ W.heap.size ≤ k) : Two w0 V g S2 n2 g' S' n' := by
  refine ⟨hmv.below h1 h1.size h4, Q2, F2, Q', F', hm, h3.apart hmv h2.q fun k hk hk2 => h6 k hk2 hk, fun k hk => ?_, h5, fun k hk hk2 => ?_⟩
  · rcases hq k hk with h | h
    · exact h4 k h
    · exact Nat.le_trans h1.size h
  · rcases hq k hk with h | h
    · exact h6 k h hk2
    · have := isM_lt (h3.q k hk2)
      omega
theorem one_new (w0 W : World) (hb : Below w0.heap.size w0 W) : Calls Tryd.prog 8 #[] W fun e w' => ∃ g, e = .returned (.pointer (some ⟨g, 0, none⟩)) ∧ One w0 w' g St.new 0 :=
  (new_is W).mono fun e w' ⟨⟨g, Q, F, he, h1, h2, _⟩, hb2⟩ => ⟨g, he, hb.trans (hb2.mono hb.size), Q, F, h1, fun k hk => Nat.le_trans hb.size (h2 k hk)⟩
/-- A second model. -/
theorem two_new {w0 W : World} {g n : Nat} {S : St} (h : One w0 W g S n) : Calls Tryd.prog 8 #[] W fun e w' => ∃ g', e = .returned (.pointer (some ⟨g', 0, none⟩)) ∧ Two w0 w' g S n g' St.new 0 := by
  obtain ⟨h1, Q, F, h2, h3⟩ := h
  refine (new_is W).mono fun e w' ⟨⟨g', Q', F', he, k1, k2, _⟩, hb2⟩ => ⟨g', he, h1.trans (hb2.mono h1.size), Q, F, Q', F', h2.below hb2, k1, h3, fun k hk => Nat.le_trans h1.size (k2 k hk), fun k hk hk2 => ?_⟩
  have := isM_lt (h2.q k hk)
  have := k2 k hk2
  omega
theorem one_make {w0 W : World} {g n : Nat} {S : St} (h : One w0 W g S n) (s : List UInt8) (hs : s.length ≤ 100000) (hn : n ≤ 100000) :
    Calls Tryd.prog 9 #[.pointer (some ⟨g, 0, none⟩), .string (mkS s)] W fun e w' => e = .returned (.int .i64 (S.make s).2) ∧ One w0 w' g (S.make s).1 (n + 1) := by
  obtain ⟨h1, Q, F, h2, h3⟩ := h
  refine (make_is W g S n Q F s hs hn h2).mono fun e w' ⟨Q', he, k1, k2, k3⟩ => ⟨he, k2.below h1 h1.size h3, Q', F, k1, fun k hk => ?_⟩
  rcases k3 k hk with h | h
  · exact h3 k h
  · exact Nat.le_trans h1.size h
theorem two_make {w0 W : World} {g n g' n' : Nat} {S S' : St} (h : Two w0 W g S n g' S' n') (s : List UInt8) (hs : s.length ≤ 100000) (hn : n ≤ 100000) :
    Calls Tryd.prog 9 #[.pointer (some ⟨g, 0, none⟩), .string (mkS s)] W fun e w' => e = .returned (.int .i64 (S.make s).2) ∧ Two w0 w' g (S.make s).1 (n + 1) g' S' n' := by
  obtain ⟨h1, Q, F, Q', F', h2, h3, h4, h5, h6⟩ := h
  exact (make_is W g S n Q F s hs hn h2).mono fun e w' ⟨Q2, he, k1, k2, k3⟩ => ⟨he, Two.turn h1 h2 h3 h4 h5 h6 k1 k2 k3⟩
theorem one_call {w0 W : World} {g n : Nat} {S : St} (h : One w0 W g S n) (x : Ch) (A : Option Addr) (c : Nat) (id : Int) (hd : Named x) (hb : x.bk.length ≤ 100000) (hk : x.ky.length ≤ 100000) (hdt : x.dt.length ≤ 1000000) (hn : n ≤ 100000) (hS : S.Fine)
    (hC : ∀ V, Below W.heap.size W V → (Kd.int .u8).C V A (byN x.dt).length (byN x.dt)) (hT : Tabs W) :
    Calls Tryd.prog 10 #[.pointer (some ⟨g, 0, none⟩), .agg (chCells x (.slice A (byN x.dt).length c)).toArray, .int .i64 id] W fun e w' =>
      (∃ y dv, e = .returned (.agg (ansL (S.callE x id) y dv).toArray)) ∧ One w0 w' g (S.callS x id) (n + 1) := by
  obtain ⟨h1, Q, F, h2, h3⟩ := h
  exact (call5_is W g S n Q F x A c id hd hb hk hdt hn hS h2 hC hT).mono fun e w' ⟨he, ⟨F', k1⟩, k2⟩ => ⟨he, k2.below h1 h1.size h3, Q, F', k1, h3⟩
theorem two_call {w0 W : World} {g n g' n' : Nat} {S S' : St} (h : Two w0 W g S n g' S' n') (x : Ch) (A : Option Addr) (c : Nat) (id : Int) (hd : Named x) (hb : x.bk.length ≤ 100000) (hk : x.ky.length ≤ 100000) (hdt : x.dt.length ≤ 1000000) (hn : n ≤ 100000) (hS : S.Fine)
    (hC : ∀ V, Below W.heap.size W V → (Kd.int .u8).C V A (byN x.dt).length (byN x.dt)) (hT : Tabs W) :
    Calls Tryd.prog 10 #[.pointer (some ⟨g, 0, none⟩), .agg (chCells x (.slice A (byN x.dt).length c)).toArray, .int .i64 id] W fun e w' =>
      (∃ y dv, e = .returned (.agg (ansL (S.callE x id) y dv).toArray)) ∧ Two w0 w' g (S.callS x id) (n + 1) g' S' n' := by
  obtain ⟨h1, Q, F, Q', F', h2, h3, h4, h5, h6⟩ := h
  exact (call5_is W g S n Q F x A c id hd hb hk hdt hn hS h2 hC hT).mono fun e w' ⟨he, ⟨F2, k1⟩, k2⟩ => ⟨he, Two.turn h1 h2 h3 h4 h5 h6 k1 k2 fun k hk => .inl hk⟩
theorem one_copy {w0 W : World} {g n : Nat} {S : St} (h : One w0 W g S n) (hS : S.Fine) (hn : n ≤ 300) :
    Calls Tryd.prog 16 #[.pointer (some ⟨g, 0, none⟩)] W fun e w' => ∃ g', e = .returned (.pointer (some ⟨g', 0, none⟩)) ∧ Two w0 w' g S n g' S (n * (n + 2)) := by
  obtain ⟨h1, Q, F, h2, h3⟩ := h
  refine (copy_is W g S n Q F hn (fun b k => by have := hS.len b k; omega) h2).mono fun e w' ⟨⟨g', Q', F', he, k1, k2, _⟩, hb⟩ => ⟨g', he, h1.trans (hb.mono h1.size), Q, F, Q', F', h2.below hb, k1, h3, fun k hk => Nat.le_trans h1.size (k2 k hk), fun k hk hk2 => ?_⟩
  have := isM_lt (h2.q k hk)
  have := k2 k hk2
  omega
theorem two_same {w0 W : World} {g n g' n' : Nat} {S S' : St} (h : Two w0 W g S n g' S' n') (hS : S.Fine) (hS' : S'.Fine) :
    Calls Tryd.prog 15 #[.pointer (some ⟨g, 0, none⟩), .pointer (some ⟨g', 0, none⟩)] W fun e w' => e = .returned (.bool (sameB S S')) ∧ Two w0 w' g S n g' S' n' := by
  obtain ⟨h1, Q, F, Q', F', h2, h3, h4, h5, h6⟩ := id h
  exact (same_is W g g' n n' S S' Q Q' F F' h2 h3 (fun b k => by have := hS.len b k; omega) (fun b k => by have := hS'.len b k; omega)).mono fun e w' ⟨he, hb⟩ => ⟨he, h.below hb⟩
theorem sameB_self (S : St) : sameB S S = true := (sameB_iff S S).2 ⟨fun _ => Iff.rfl, fun _ _ => rfl⟩
end Go.Proofs.YtjbjcfnbgcloiaaDoor

/- The first sentence of each law of layer 22: a bucket, a key, its version. -/
namespace Go.Proofs.YtjbjcfnbgcloiaaDoor
open Go.RowKit Nam YtjbjcfnbgcloiaaDoorW.PrintWords

def abc : List UInt8 := [97, 98, 99]
def kx : List UInt8 := [107]
def S1 : St := ⟨[abc], fun _ _ => []⟩
theorem abc_bucket : bucketB abc = true := by decide
theorem abc_named : namedB abc kx = true := by decide
theorem make_abc : St.new.make abc = (S1, 0) := by
  unfold St.make
  rw [if_neg (by rw [abc_bucket]; simp), if_neg (by simp [St.new]), if_neg (by simp [St.new])]
  rfl
theorem fine_S1 : S1.Fine := ⟨fun _ _ => Nat.zero_le _, fun _ _ y h => by cases h⟩
theorem put_ok {S : St} {id : Int} {b k d : List UInt8} (h1 : namedB b k = true) (h2 : d.length ≤ 65536) (h3 : b ∈ S.B) (h4 : (S.V b k).length < 64) (h5 : 1 ≤ id) (h6 : id ≤ 2147483647) (h7 : ∀ y ∈ S.V b k, y.id < id) : S.putE id b k d = 0 := by
  unfold St.putE
  rw [if_neg (by rw [h1]; simp), if_neg (by omega), if_neg (fun e => e h3)]
  unfold moreE
  rw [if_neg (by omega), if_neg (by show ¬ (id < 1 ∨ 2147483647 < id); omega)]
  cases hl : (S.V b k).getLast? with
  | none => rfl
  | some y =>
    show (if id ≤ y.id then (1 : Int) else 0) = 0
    have := h7 y (List.mem_of_getLast? hl)
    rw [if_neg (by omega)]
theorem put_at (S : St) (b k : List UInt8) (l : List Kp) : (S.put b k l).V b k = l := if_pos ⟨rfl, rfl⟩
theorem doPut_ok {S : St} {id : Int} {b k d : List UInt8} (h : S.putE id b k d = 0) : S.doPut id b k d = S.put b k (S.V b k ++ [kpOf id d]) := if_pos h
theorem one_put {w0 W : World} {g n : Nat} {S : St} (h : One w0 W g S n) (id : Int) (b k d : List UInt8) (A : Option Addr) (c : Nat) (hb : b.length ≤ 100000) (hk : k.length ≤ 100000) (hd : d.length ≤ 1000000) (hn : n ≤ 100000) (hC : (Kd.int .u8).C W A d.length (byN d)) (hT : Tabs W) (hE : S.putE id b k d = 0) :
    Calls Tryd.prog 17 #[.pointer (some ⟨g, 0, none⟩), .int .i64 id, .string (mkS b), .string (mkS k), .slice A d.length c] W fun e w' =>
      e = .returned (.tuple #[.agg #[.int .i64 id, .bool false, .int .i64 (d.length : Int), .int .u32 (sumC d)], .int .i64 0]) ∧ One w0 w' g (S.put b k (S.V b k ++ [kpOf id d])) (n + 1) := by
  obtain ⟨h1, Q, F, h2, h3⟩ := h
  refine (put_is W g S n Q F id b k d A c hb hk hd hn h2 hC hT).mono fun e w' ⟨he, ⟨F', k1, _⟩, k2⟩ => ⟨?_, k2.below h1 h1.size h3, Q, F', ?_, h3⟩
  · rw [he, hE, if_pos rfl]
    rfl
  · rw [doPut_ok hE] at k1
    exact k1
/-- The last version, no marker. -/
theorem one_get {w0 W : World} {g n : Nat} {S : St} (h : One w0 W g S n) (b k : List UInt8) (y : Kp) (hb : b.length ≤ 100000) (hk : k.length ≤ 100000) (hS : S.Fine) (hT : Tabs W) (h1 : namedB b k = true) (h2 : b ∈ S.B) (h3 : (S.V b k).getLast? = some y) (h4 : y.mark = false) :
    Calls Tryd.prog 18 #[.pointer (some ⟨g, 0, none⟩), .string (mkS b), .string (mkS k), .int .i64 0] W fun e w' =>
      (∃ A c, e = .returned (.tuple #[.agg #[.int .i64 y.id, .bool y.mark, .int .i64 y.sz, .int .u32 y.sum], .slice A y.dt.length c, .int .i64 0]) ∧ ∀ V, Below w'.heap.size w' V → (Kd.int .u8).C V A y.dt.length (byN y.dt)) ∧ Below W.heap.size W w' := by
  obtain ⟨_, Q, F, hm, _⟩ := h
  have hne : S.V b k ≠ [] := fun e => by rw [e] at h3; cases h3
  have hpos := List.length_pos_iff.2 hne
  have hi : idxK 0 (S.V b k) = (((S.V b k).length - 1 : Nat) : Int) := by
    unfold idxK
    rw [if_pos rfl]
    omega
  have hf : S.findE b k 0 0 = 0 := by
    unfold St.findE
    rw [if_neg (by rw [h1]; simp), if_neg (by decide), if_neg (fun e => e h2), if_neg hne, if_neg (by rw [hi]; omega)]
  have hK : S.getK b k 0 = some y := by
    unfold St.getK
    rw [hi, Int.toNat_natCast, ← List.getLast?_eq_getElem?]
    exact h3
  have hE : S.getE b k 0 = 0 := by
    unfold St.getE
    rw [if_neg (by simp [hf]), hK]
    simp [h4]
  refine (get_is W g S n Q F b k 0 hb hk (by have := hS.len b k; omega) (fun y hy => by have := hS.dt _ _ y hy; omega) hm hT).mono fun e w' ⟨⟨y', v, he, hc⟩, hb'⟩ => ⟨?_, hb'⟩
  rw [hE] at he
  rcases hc with ⟨q, _⟩ | ⟨_, _, q, _⟩ | ⟨_, q2, _, _, A, c, rfl, _, Fb, q7, q8⟩
  · exact absurd hf q
  · rw [hE] at q; cases q
  · rw [hK] at q2
    injection q2 with q2
    subst q2
    exact ⟨A, c, he, fun V hV => (q7.kept fun j hj => hV.block j (isC_lt (q8 j hj).1)).now⟩
/-- Bytes that lie in a block of their own. -/
theorem lit_bytes {w : World} {b : Nat} {t : TypeId} {fr : Nat × Nat} (l : List UInt8) (hl : l.length ≤ 1000) (h : w.heap[b]? = some (.cells ((byN l).map (Value.int .u8)).toArray t fr)) : (Kd.int .u8).C w (some ⟨b, 0, none⟩) l.length (byN l) := by
  refine Kd.C_of_reads (enc := Value.int .u8) (d := (0 : Int)) (h1 := fun _ => rfl) ⟨byN_length l, by omega, fun _ => ⟨_, rfl, fun j hj => ?_⟩⟩
  have hj2 : j < (byN l).length := by rw [byN_length]; exact hj
  have : w.cell? ⟨b, j, none⟩ = ((byN l).map (Value.int .u8)).toArray[j]? := by simp [World.cell?, h]
  simp only [List.getElem?_toArray, List.getElem?_map, List.getElem?_eq_getElem hj2, Option.map_some] at this
  rw [show (⟨b, 0, none⟩ : Addr).add j = ⟨b, j, none⟩ by rw [Addr.add_mid, Nat.zero_add]]
  rw [this, List.getD_eq_getElem?_getD, List.getElem?_eq_getElem hj2, Option.getD_some]

def S2 : St := S1.put abc kx (S1.V abc kx ++ [kpOf 2 [120]])
def S3 : St := S2.put abc kx (S2.V abc kx ++ [kpOf 3 [121, 122]])
theorem s1_V : S1.V abc kx = [] := rfl
theorem s2_V : S2.V abc kx = [kpOf 2 [120]] := put_at _ _ _ _
theorem s3_V : S3.V abc kx = [kpOf 2 [120], kpOf 3 [121, 122]] := (put_at _ _ _ _).trans (by rw [s2_V]; rfl)
theorem p1_ok : S1.putE 2 abc kx [120] = 0 := put_ok abc_named (by decide) (by simp [S1]) (by rw [s1_V]; decide) (by decide) (by decide) (by rw [s1_V]; intro y h; cases h)
theorem p2_ok : S2.putE 3 abc kx [121, 122] = 0 := put_ok abc_named (by decide) (by simp [S2, S1, St.put]) (by rw [s2_V]; decide) (by decide) (by decide) (by
  rw [s2_V]
  intro y h
  rw [List.mem_singleton] at h
  subst h
  decide)
theorem fine_S2 : S2.Fine := by
  have := fine_doPut fine_S1 2 abc kx [120]
  rw [doPut_ok p1_ok] at this
  exact this
theorem fine_S3 : S3.Fine := by
  have := fine_doPut fine_S2 3 abc kx [121, 122]
  rw [doPut_ok p2_ok] at this
  exact this
theorem p3_last : (S3.V abc kx).getLast? = some (kpOf 3 [121, 122]) := by rw [s3_V]; rfl
theorem byN_1 (a : UInt8) : byN [a] = [(a.toNat : Int)] := rfl
theorem byN_2 (a b : UInt8) : byN [a, b] = [(a.toNat : Int), (b.toNat : Int)] := rfl

set_option maxHeartbeats 2000000 in
set_option maxRecDepth 100000 in
theorem awake_is (w : World) (hT : Tabs w) : Calls Tryd.prog 6 #[] w fun e w' => e = .returned (.bool true) ∧ Below w.heap.size w w' := by
  have HNew : Hid (Calls Tryd.prog 8 #[] w fun e w' => ∃ g, e = .returned (.pointer (some ⟨g, 0, none⟩)) ∧ Hid (One w w' g St.new 0)) := one_new w w (Below.refl _ _)
  have HMk : Hid (∀ W g, One w W g St.new 0 → Calls Tryd.prog 9 #[.pointer (some ⟨g, 0, none⟩), .string ⟨#[97, 98, 99]⟩] W fun e w' => e = .returned (.int .i64 0) ∧ Hid (One w w' g S1 1)) := fun W g h =>
    (one_make h abc (by decide) (by decide)).mono fun e w' ⟨he, ho⟩ => by
      rw [make_abc] at he ho
      exact ⟨he, ho⟩
  have HP1 : Hid (∀ W g, One w W g S1 1 → Calls Tryd.prog 17 #[.pointer (some ⟨g, 0, none⟩), .int .i64 2, .string ⟨#[97, 98, 99]⟩, .string ⟨#[107]⟩, .slice (some ⟨W.heap.size, 0, none⟩) 1 1] (W.alloc (.cells #[.int .u8 120] 5 (1, 2))) fun e w' => e = .returned (.tuple #[.agg #[.int .i64 2, .bool false, .int .i64 1, .int .u32 (sumC [120])], .int .i64 0]) ∧ Hid (One w w' g S2 2)) := fun W g h => by
    have hb := (Below.refl W.heap.size W).alloc (Nat.le_refl _) (.cells #[.int .u8 120] 5 (1, 2))
    exact one_put (h.below hb) 2 abc kx [120] (some ⟨W.heap.size, 0, none⟩) 1 (by decide) (by decide) (by decide) (by decide) (lit_bytes [120] (by decide) (blk_new W _)) (hT.below (h.1.trans (hb.mono h.1.size))) p1_ok
  have HP2 : Hid (∀ W g, One w W g S2 2 → Calls Tryd.prog 17 #[.pointer (some ⟨g, 0, none⟩), .int .i64 3, .string ⟨#[97, 98, 99]⟩, .string ⟨#[107]⟩, .slice (some ⟨W.heap.size, 0, none⟩) 2 2] (W.alloc (.cells #[.int .u8 121, .int .u8 122] 5 (2, 3))) fun e w' => e = .returned (.tuple #[.agg #[.int .i64 3, .bool false, .int .i64 2, .int .u32 (sumC [121, 122])], .int .i64 0]) ∧ Hid (One w w' g S3 3)) := fun W g h => by
    have hb := (Below.refl W.heap.size W).alloc (Nat.le_refl _) (.cells #[.int .u8 121, .int .u8 122] 5 (2, 3))
    exact one_put (h.below hb) 3 abc kx [121, 122] (some ⟨W.heap.size, 0, none⟩) 2 (by decide) (by decide) (by decide) (by decide) (lit_bytes [121, 122] (by decide) (blk_new W _)) (hT.below (h.1.trans (hb.mono h.1.size))) p2_ok
  obtain ⟨sm, hsm⟩ : ∃ sm, sumC [121, 122] = sm := ⟨_, rfl⟩
  obtain ⟨sn, hsn⟩ : ∃ sn, sumC [120] = sn := ⟨_, rfl⟩
  have HGe : Hid (∀ W g, One w W g S3 3 → Calls Tryd.prog 18 #[.pointer (some ⟨g, 0, none⟩), .string ⟨#[97, 98, 99]⟩, .string ⟨#[107]⟩, .int .i64 0] W fun e w' => (∃ A c, e = .returned (.tuple #[.agg #[.int .i64 3, .bool false, .int .i64 2, .int .u32 sm], .slice A 2 c, .int .i64 0]) ∧ Hid (∀ V, Below w'.heap.size w' V → (convert 29 9 (.slice A 2 c)).run Tryd.prog V = .ok (.string ⟨#[121, 122]⟩) V)) ∧ Hid (Below W.heap.size W w') ∧ Hid (Below w.heap.size w w')) := fun W g h =>
    (one_get h abc kx (kpOf 3 [121, 122]) (by decide) (by decide) fine_S3 (hT.below h.1) abc_named (by simp [S3, S2, S1, St.put]) p3_last rfl).mono fun e w' ⟨⟨A, c, he, hC⟩, hb⟩ => by
      subst hsm
      refine ⟨⟨A, c, he, fun V hV => ?_⟩, hb, h.1.trans (hb.mono h.1.size)⟩
      have := Kd.C_string (P := Tryd.prog) Tryd.underlying29 Tryd.underlying5 Tryd.underlying9 (c := c) (hC V hV)
      rw [byN_str] at this
      exact this
  rw [hsm] at HP2
  rw [hsn] at HP1
  have kc := fun (w : World) (C : Array Value) (n c : Nat) => Lib.run_convert_bytes_const (P := Tryd.prog) w 29 5 C n c Tryd.underlying29 Tryd.underlying5
  clear hT hsm hsn
  go_enter Tryd.func6, Tryd.ntmps6
  go_wp2_with fail
  refine HNew.out.mono ?_
  rintro e w1 ⟨g, rfl, H1⟩
  go_wp2_with fail
  refine (HMk.out _ _ H1.out).mono ?_
  rintro e w2 ⟨rfl, H2⟩
  go_wp2_with fail
  refine (HP1.out _ _ H2.out).mono ?_
  rintro e w3 ⟨rfl, H3⟩
  have kc2 := kc (w3.alloc (.cells #[.int .i64 2, .bool false, .int .i64 1, .int .u32 sn] 36)) #[.int .u8 121, .int .u8 122] 2 2
  rw [show (w3.alloc (.cells #[.int .i64 2, .bool false, .int .i64 1, .int .u32 sn] 36)).heap.size = w3.heap.size + 1 by simp] at kc2
  have H3b : Hid (∀ o, One w (w3.alloc o) g S2 2) := fun o => H3.out.below ((Below.refl _ _).alloc (Nat.le_refl _) _)
  go_wp2_with fail
  have hp3 := HP2.out _ _ (H3b.out (.cells #[.int .i64 2, .bool false, .int .i64 1, .int .u32 sn] 36))
  rw [show (w3.alloc (.cells #[.int .i64 2, .bool false, .int .i64 1, .int .u32 sn] 36)).heap.size = w3.heap.size + 1 by simp] at hp3
  have HP3 := Lib.hid hp3
  clear hp3
  refine HP3.out.mono ?_
  rintro e w4 ⟨rfl, H4⟩
  have H4b : Hid (∀ o, One w (w4.alloc o) g S3 3) := fun o => H4.out.below ((Below.refl _ _).alloc (Nat.le_refl _) _)
  go_wp2_with fail
  refine (HGe.out _ _ (H4b.out _)).mono ?_
  rintro e w5 ⟨⟨A, c, rfl, HCv⟩, HB5, HW5⟩
  have q5 := blk_below (blk_new w4 (.cells #[.int .i64 3, .bool false, .int .i64 2, .int .u32 sm] 36)) HB5.out
  have v0 := (blk_cell q5 0).trans (rfl : _ = some (Value.int .i64 3))
  have v1 := (blk_cell q5 1).trans (rfl : _ = some (Value.bool false))
  have v2 := (blk_cell q5 2).trans (rfl : _ = some (Value.int .i64 2))
  have v3 := (blk_cell q5 3).trans (rfl : _ = some (Value.int .u32 sm))
  have lt5 := blk_lt q5
  have ne5 : w4.heap.size ≠ w5.heap.size := by omega
  have cv := HCv.out (w5.alloc (.cells #[.int .i64 3, .bool false, .int .i64 2, .int .u32 sm] 36)) ((Below.refl _ _).alloc (Nat.le_refl _) _)
  clear q5
  go_wp2_with fail
  go_ret
  exact ⟨rfl, HW5.out.alloc HW5.out.size _⟩
end Go.Proofs.YtjbjcfnbgcloiaaDoor

/- Remove of package model. -/
namespace Go.Proofs.YtjbjcfnbgcloiaaDoor
open Go.RowKit Nam YtjbjcfnbgcloiaaDoorW.PrintWords

open Classical in
noncomputable def St.remove (S : St) (s : List UInt8) : St × Int :=
  if bucketB s = false then (S, 12) else if s ∉ S.B then (S, 13) else if (∃ k, S.V s k ≠ []) then (S, 17) else (⟨S.B.filter (fun t => decide (t ≠ s)), S.V⟩, 0)
theorem remove_12 {S : St} {s : List UInt8} (h : bucketB s = false) : S.remove s = (S, 12) := if_pos h
theorem remove_13 {S : St} {s : List UInt8} (h : bucketB s = true) (hs : s ∉ S.B) : S.remove s = (S, 13) := by
  unfold St.remove
  rw [if_neg (by rw [h]; simp), if_pos hs]
theorem remove_17 {S : St} {s : List UInt8} (h : bucketB s = true) (hs : s ∈ S.B) (k : List UInt8) (hk : S.V s k ≠ []) : S.remove s = (S, 17) := by
  unfold St.remove
  rw [if_neg (by rw [h]; simp), if_neg (fun e => e hs), if_pos ⟨k, hk⟩]
theorem remove_0 {S : St} {s : List UInt8} (h : bucketB s = true) (hs : s ∈ S.B) (hk : ∀ k, S.V s k = []) : S.remove s = (⟨S.B.filter (fun t => decide (t ≠ s)), S.V⟩, 0) := by
  unfold St.remove
  rw [if_neg (by rw [h]; simp), if_neg (fun e => e hs), if_neg (fun ⟨k, e⟩ => e (hk k))]
theorem fine_remove {S : St} (h : S.Fine) (s : List UInt8) : (S.remove s).1.Fine := by
  unfold St.remove
  split
  · exact h
  · split
    · exact h
    · split
      · exact h
      · exact ⟨h.len, h.dt⟩
def RemIs (S : St) (n : Nat) (Q F : Nat → Prop) (g : Nat) (s : List UInt8) (w : World) (e : Ending) (w' : World) : Prop :=
  e = .returned (.int .i64 (S.remove s).2) ∧ HasM w' g (S.remove s).1 n Q F ∧ Moved Q w w'
theorem rem_same {S : St} {n : Nat} {Q F : Nat → Prop} {g : Nat} {s : List UInt8} {w w' : World} {r : Int} (h : S.remove s = (S, r)) (hm : HasM w g S n Q F) (hb : Below w.heap.size w w') : RemIs S n Q F g s w (.returned (.int .i64 r)) w' := by
  unfold RemIs
  rw [h]
  exact ⟨rfl, hm.below hb, Moved.of_below hb⟩
theorem moved_turned {w w' : World} {b : Nat} (h : w.mapTurned w' b) : Moved (fun j => j = b) w w' := by
  have hg := h.grown
  exact ⟨hg.os, hg.tape, hg.output, hg.size, fun k hk hn => hg.block k hk (fun e => hn (by injection e))⟩
theorem removed {w w2 : World} {g n mb : Nat} {S : St} {Q F : Nat → Prop} {D : DataW Unit} {s : List UInt8} (h : Outer w g S n Q F mb D) (hq : ∀ k, Q k → IsM w k) (hF : ∀ k, F k → IsC w k) (nd : S.B.Nodup) (off : ∀ s, s ∉ S.B → ∀ k, S.V s k = []) (hs : s ∈ S.B) (hV : ∀ k, S.V s k = [])
    (hown : w2.ownsMap Tryd.prog 9 R1 mb n (D.del (.string s))) (hm : Moved (fun j => j = mb) w w2) : HasM w2 g ⟨S.B.filter (fun t => decide (t ≠ s)), S.V⟩ n Q F ∧ Moved Q w w2 := by
  obtain ⟨h1, hfg, h2, h3, h4, h5, h6, h7⟩ := h
  have hck : FKept F w w2 := hm.cells (fun j hj => by subst hj; exact hq _ h3) hF
  have hmem : ∀ t, t ∈ S.B.filter (fun t => decide (t ≠ s)) ↔ t ∈ S.B ∧ t ≠ s := fun t => by simp
  have hD : Maps.has D (.string s) = true := by rw [h5, decide_eq_true hs]
  refine ⟨⟨fun k hk => ?_, fun k hk => ?_, nd.filter _, fun t ht k => ?_, mb, _, (hck g hfg).trans h1, hfg, hown, h3, ?_, fun t => ?_, fun t ht => ?_, fun t ht t' ht' he => ?_⟩, ⟨hm.os, hm.tape, hm.output, hm.size, fun k hk hn => hm.block k hk (fun e => hn (by rw [e]; exact h3))⟩⟩
  · by_cases e : k = mb
    · subst e; exact ownsMap_isM hown
    · obtain ⟨a, b, hh⟩ := hq k hk
      exact ⟨a, b, (hm.block k (isM_lt (hq k hk)) e).trans hh⟩
  · obtain ⟨a, b, c, hh⟩ := hF k hk
    exact ⟨a, b, c, (hck k hk).trans hh⟩
  · by_cases e : t = s
    · rw [e]; exact hV k
    · exact off t (fun e' => ht ((hmem t).2 ⟨e', e⟩)) k
  · have hsz := Maps.size_del (k := .string s) (h2.tidy KS)
    rw [hD, if_pos rfl, h4] at hsz
    have hl : (S.B.filter (fun t => decide (t ≠ s))).length + 1 = S.B.length := by
      have hp : (S.B.filter (fun t => decide (t ≠ s))) = S.B.erase s := (List.Nodup.erase_eq_filter nd s).symm ▸ (List.filter_congr fun x _ => by by_cases e : x = s <;> simp [e])
      rw [hp, List.length_erase_of_mem hs]
      have := List.length_pos_of_mem hs
      omega
    show Maps.size (D.del (.string s)) = (S.B.filter (fun t => decide (t ≠ s))).length
    omega
  · by_cases e : t = s
    · subst e
      rw [Maps.has_del_same]
      simp
    · rw [Maps.has_del_other (fun e' => e (by injection e')), h5]
      simp [e]
  · obtain ⟨ht1, ht2⟩ := (hmem t).1 ht
    obtain ⟨b, e1, e2, e3, e4⟩ := h6 t ht1
    exact ⟨b, by rw [Maps.atKey_del_other (fun e' => ht2 (by injection e'))]; exact e1, e2, e3, e4.kept (hm.block b (isM_lt (hq b e2)) e3) hck⟩
  · obtain ⟨a1, a2⟩ := (hmem t).1 ht
    obtain ⟨b1, b2⟩ := (hmem t').1 ht'
    rw [Maps.atKey_del_other (fun e' => a2 (by injection e')), Maps.atKey_del_other (fun e' => b2 (by injection e'))] at he
    exact h7 t a1 t' b1 he

set_option maxHeartbeats 2000000 in
set_option maxRecDepth 100000 in
theorem remove_is (w : World) (g : Nat) (S : St) (n : Nat) (Q F : Nat → Prop) (s : List UInt8) (hs : s.length ≤ 100000) (hm : HasM w g S n Q F) :
    Calls Tryd.prog 21 #[.pointer (some ⟨g, 0, none⟩), .string (mkS s)] w (RemIs S n Q F g s w) := by
  have hsz : (mkS s).size ≤ maxLen := by rw [mkS_size]; unfold maxLen; omega
  have hsm : s.length ≤ maxLen := by unfold maxLen; omega
  obtain ⟨mb, D, hO⟩ := hm.ex
  have HTh := Lib.hid (there_is w g mb hO.c)
  obtain ⟨ok, hok⟩ : ∃ ok, bucketB s = ok := ⟨_, rfl⟩
  have HBk : Hid (Calls Tryd.prog 20 #[.string (mkS s)] w fun e w' => e = .returned (.bool ok) ∧ Below w.heap.size w w') := by
    have := bucket_is (mkS s) w hsz
    rw [mkS_list, hok] at this
    exact this
  have HCm : Hid (∀ V, Below w.heap.size w V → V.cell? ⟨g, 0, none⟩ = some (.map (some mb)) ∧ Outer V g S n Q F mb D) := fun V hV => by
    have hO' := hO.below hm.q hm.f hV
    exact ⟨(blk_cell hO'.c 0).trans rfl, hO'⟩
  have HOK := Lib.hid hok
  have HM := Lib.hid hm
  clear hok
  cases ok with
  | false =>
    clear hO hm
    go_enter Tryd.func21, Tryd.ntmps21
    go_wp2_with fail
    refine HTh.out.mono ?_
    rintro e w' ⟨rfl, rfl⟩
    go_wp2_with fail
    refine HBk.out.mono ?_
    rintro e w1 ⟨rfl, hb1⟩
    go_wp2_with fail
    go_ret
    exact rem_same (remove_12 HOK.out) HM.out hb1
  | true =>
    by_cases hB : s ∈ S.B
    · have HLk : Hid (∀ V, Below w.heap.size w V → ∃ ib D2, ib < w.heap.size ∧ (Instr.lookup 59 (.map (some mb)) (.string (mkS s)) true).run Tryd.prog V = .ok (.tuple #[.map (some ib), .bool true]) V ∧ V.ownsMap Tryd.prog 9 R2 ib n D2 ∧ ∀ k, ∃ v ps, R2 v = some (D2.atKey (.string k) .nil, ps) ∧ RowV V F v (S.V s k)) := fun V hV => by
        have hO' := (HCm.out V hV).2
        obtain ⟨v, ps, hrun, hv⟩ := hO'.o.look_ok KS Tryd.underlying59 (zero63 V) (zd := .nil) (zp := []) rfl (key_str s hsm)
        obtain ⟨ib, e1, e2, _, D2, e4, e5⟩ := hO'.at_ s hB
        rw [e1] at hv
        rw [hO'.hs, decide_eq_true hB, R1_one hv (show R1 (.map (some ib)) = some (.lit (.int .i64 ib), []) from rfl)] at hrun
        exact ⟨ib, D2, isM_lt (HM.out.q ib e2), hrun, e4, e5⟩
      have HHB := Lib.hid hB
      clear hO hm hB
      go_enter Tryd.func21, Tryd.ntmps21
      go_wp2_with fail
      refine HTh.out.mono ?_
      rintro e w' ⟨rfl, rfl⟩
      go_wp2_with fail
      refine HBk.out.mono ?_
      rintro e w1 ⟨rfl, hb1⟩
      obtain ⟨ib, D2, hib, hrun, o2, hv2⟩ := HLk.out w1 hb1
      have c0 := (HCm.out w1 hb1).1
      have HV2 := Lib.hid hv2
      have HB1 := Lib.hid hb1
      have HIB := Lib.hid hib
      clear HLk hv2 hib hb1
      go_wp2_with (at_range; refine wpList_range_own _ rfl _ 63 rfl 9 77 KS Tryd.underlying63 R2 ib n D2 rfl o2 ?_; intro w2 hrg2 hg2 hs2)
      obtain ⟨r, hr⟩ : ∃ r, w1.heap.size = r := ⟨_, rfl⟩
      rw [hr] at hrg2 ⊢
      have HR : Hid (w.heap.size ≤ r) := by show _ ≤ _; rw [← hr]; exact HB1.out.size
      have HB2 : Hid (Below w.heap.size w w2) := HB1.out.trans ((grown_below' hg2).mono HB1.out.size)
      clear hg2 hs2 hr o2 hrun c0
      go_frame
      go_loopw [28] (fun _ wr => ∃ (left : Lit → Bool) (cnt : Nat), Hid (Below w.heap.size w wr) ∧ wr.ranges Tryd.prog 9 R2 ib r n D2 left cnt ∧ Hid (∀ k, left (.string k) = false → S.V s k = [])) (fun _ wr => wr.rangeLeft ib r)
      case atStart => exact ⟨_, _, HB2, hrg2, (show Hid _ from fun k hk => inner_off HV2.out k hk)⟩
      case round =>
        clear HB2 hrg2
        obtain ⟨left, cnt, HB, hrg, HL⟩ := hrel
        go_wp2_with (at_next; refine wpList_next_ranges _ rfl _ rfl 9 KS R2 (fun k : List UInt8 => .string (mkS k)) (fun q : Option Addr × Nat × Nat => .slice q.1 q.2.1 q.2.2) key_inv r2_inv ib r n D2 left cnt rfl hrg ?_ ?_)
        · intro h0 hl0
          have HV0 : Hid (∀ k, S.V s k = []) := fun k => HL.out k (hl0 _)
          clear hl0
          obtain ⟨c0, hO2⟩ := HCm.out wr HB.out
          have HO2 := Lib.hid hO2
          have o3 := hO2.o
          clear hO2
          go_wp2_with (refine wpList_delete_own _ rfl _ _ 59 9 rfl 63 KS Tryd.underlying59 R1 mb n D rfl o3 _ _ rfl (key_str s hsm) ?_; intro w5 o5 ht5)
          go_ret
          have hm2 := HM.out.below HB.out
          obtain ⟨k1, k2⟩ := removed HO2.out hm2.q hm2.f hm2.nd hm2.off HHB.out HV0.out o5 (moved_turned ht5)
          show RemIs _ _ _ _ _ _ _ _ _
          unfold RemIs
          rw [remove_0 HOK.out HHB.out HV0.out]
          exact ⟨rfl, k1, (Moved.of_below HB.out).trans k2 (fun i hi => .inl hi)⟩
        · intro k A m c kl yd yp w3 cnt3 hkey hlk hv hat hrg3 hlt hg3 hs3 hen
          obtain ⟨hkl, rfl, hrow⟩ := inner_came HV2.out hkey hv hat
          obtain ⟨A', c', hve, _⟩ := hrow.slice
          injection hve with _ hve _
          have HVE : Hid (m = (S.V s k).length) := hve
          have HB3 : Hid (Below w.heap.size w w3) := ⟨hg3.os.trans HB.out.os, hg3.tape.trans HB.out.tape, hg3.output.trans HB.out.output, Nat.le_trans HB.out.size hg3.size, fun i hi => (hg3.block i (Nat.lt_of_lt_of_le hi HB.out.size) (fun e => by injection e with e; have := HR.out; omega)).trans (HB.out.block i hi)⟩
          have HLT := Lib.hid hlt
          clear hkey hlk hv hat hg3 hs3 hkl hrow hve hlt
          by_cases h0 : m = 0
          · subst h0
            go_wp2_with fail
            go_roundw
            case rel =>
              refine ⟨_, cnt3, HB3, hrg3, (show Hid _ from fun k' hk' => ?_)⟩
              by_cases e : k' = k
              · subst e
                exact List.length_eq_zero_iff.1 HVE.out.symm
              · refine HL.out k' ?_
                have hne : (Lit.string k').sameKey (.string k) = false := by
                  cases hsk : (Lit.string k').sameKey (.string k) with
                  | false => rfl
                  | true =>
                    have := WideAt.sameKey_eq hsk
                    injection this with this
                    exact absurd this e
                simpa [hne] using hk'
            case measure => rw [hrg3.left_eq, hrg.left_eq]; exact HLT.out
          · have hpos : (0 : Int) < (m : Int) := by omega
            go_wp2_with fail
            go_ret
            refine rem_same (remove_17 HOK.out HHB.out k (fun e => h0 ?_)) HM.out HB3.out
            rw [HVE.out, e]
            rfl
    · have HLk : Hid (∀ V, Below w.heap.size w V → (Instr.lookup 59 (.map (some mb)) (.string (mkS s)) true).run Tryd.prog V = .ok (.tuple #[.map none, .bool false]) V) := fun V hV => by
        have hO' := (HCm.out V hV).2
        obtain ⟨v, ps, hrun, hv⟩ := hO'.o.look_ok KS Tryd.underlying59 (zero63 V) (zd := .nil) (zp := []) rfl (key_str s hsm)
        have hh : Maps.has D (.string s) = false := by rw [hO'.hs, decide_eq_false hB]
        rw [Maps.atKey_of_not_has hh] at hv
        rw [hh, R1_one hv (show R1 (.map none) = some (.nil, []) from rfl)] at hrun
        exact hrun
      have HHB := Lib.hid hB
      clear hO hm hB
      go_enter Tryd.func21, Tryd.ntmps21
      go_wp2_with fail
      refine HTh.out.mono ?_
      rintro e w' ⟨rfl, rfl⟩
      go_wp2_with fail
      refine HBk.out.mono ?_
      rintro e w1 ⟨rfl, hb1⟩
      have hrun := HLk.out w1 hb1
      have c0 := (HCm.out w1 hb1).1
      clear HLk
      go_wp2_with fail
      go_ret
      exact rem_same (remove_13 HOK.out HHB.out) HM.out hb1
end Go.Proofs.YtjbjcfnbgcloiaaDoor

/- The stable sort's parts over an array and a strict weak order: rotation by exchanges, the symmetric merge. Plain laws: no program is in sight. -/
namespace Go.Proofs.YtjbjcfnbgcloiaaDoor.Srt
open Go.Sort
variable {α : Type}

/-- Two rows of n places exchanged. -/
def swapF (a b n : Nat) (f : Nat → α) (i : Nat) : α := if a ≤ i ∧ i < a + n then f (i - a + b) else if b ≤ i ∧ i < b + n then f (i - b + a) else f i
/-- [a, m) and [m, b) the other way round. -/
def rotF (a m b : Nat) (f : Nat → α) (i : Nat) : α := if i < a ∨ b ≤ i then f i else if i < a + (b - m) then f (i + (m - a)) else f (i - (b - m))

theorem swapF_zero (a b : Nat) (f : Nat → α) (i : Nat) : swapF a b 0 f i = f i := by
  unfold swapF
  rw [if_neg (by omega), if_neg (by omega)]
theorem swapF_step (a b n : Nat) (f : Nat → α) (hd : a + n < b ∨ b + n < a) (i : Nat) :
    (if i = a + n then swapF a b n f (b + n) else if i = b + n then swapF a b n f (a + n) else swapF a b n f i) = swapF a b (n + 1) f i := by
  unfold swapF
  repeat' split
  all_goals first | rfl | (exfalso; omega) | (congr 1; omega)

/-- One step of the rotation, the left side the longer. -/
theorem rot_left (m i j : Nat) (hj : 0 < j) (hij : j < i) (him : i ≤ m) (f : Nat → α) (k : Nat) :
    rotF (m - i) m (m + j) f k = rotF (m - (i - j)) m (m + j) (swapF (m - i) m j f) k := by
  unfold rotF swapF
  repeat' split
  all_goals first | rfl | (exfalso; omega) | (congr 1; omega)
/-- .. the right side the longer. -/
theorem rot_right (m i j : Nat) (hi : 0 < i) (hij : i < j) (him : i ≤ m) (f : Nat → α) (k : Nat) :
    rotF (m - i) m (m + j) f k = rotF (m - i) m (m + (j - i)) (swapF (m - i) (m + j - i) i f) k := by
  unfold rotF swapF
  repeat' split
  all_goals first | rfl | (exfalso; omega) | (congr 1; omega)
theorem rot_even (m i : Nat) (him : i ≤ m) (f : Nat → α) (k : Nat) : rotF (m - i) m (m + i) f k = swapF (m - i) m i f k := by
  unfold rotF swapF
  repeat' split
  all_goals first | rfl | (exfalso; omega) | (congr 1; omega)

section
variable {lt : α → α → Bool}
theorem lt_of_le_lt (hS : SWO lt) {x y z : α} (h1 : lt y x = false) (h2 : lt y z = true) : lt x z = true := by
  cases h : lt x z
  · have := hS.ntrans y x z h1 h
    rw [this] at h2; cases h2
  · rfl
theorem lt_of_lt_le (hS : SWO lt) {x y z : α} (h1 : lt x y = true) (h2 : lt z y = false) : lt x z = true := by
  cases h : lt x z
  · have := hS.ntrans x z y h h2
    rw [this] at h1; cases h1
  · rfl
theorem le_of_lt (hS : SWO lt) {x y : α} (h : lt x y = true) : lt y x = false := hS.asymmA h

variable [Inhabited α]
/-- Two sorted rows, nothing of the second less than anything of the first, make one. -/
theorem sorted_join (a m b : Nat) (d : Array α) (h1 : SortedIn lt a m d) (h2 : SortedIn lt m b d) (hx : ∀ i j, a ≤ i → i < m → m ≤ j → j < b → lt d[j]! d[i]! = false) : SortedIn lt a b d := by
  intro i j hi hij hj
  by_cases c1 : j < m
  · exact h1 i j hi hij c1
  · by_cases c2 : m ≤ i
    · exact h2 i j c2 hij hj
    · exact hx i j hi (by omega) (by omega) hj

/-- What the merge of two halves leaves: each half is a permutation of itself, sorted: the whole is. -/
theorem merge_halves (a m b : Nat) (d d1 d2 : Array α) (ham : a ≤ m) (hmb : m ≤ b) (hb : b ≤ d.size) (hx : ∀ i j, a ≤ i → i < m → m ≤ j → j < b → lt d[j]! d[i]! = false)
    (p1 : PermIn a m d d1) (s1 : SortedIn lt a m d1) (p2 : PermIn m b d1 d2) (s2 : SortedIn lt m b d2) : PermIn a b d d2 ∧ SortedIn lt a b d2 := by
  have q1 : PermIn a b d d1 := permIn_mono d d1 a m a b (Nat.le_refl _) hmb hb p1
  have q2 : PermIn a b d1 d2 := permIn_mono d1 d2 m b a b ham (Nat.le_refl _) (by rw [p1.1]; exact hb) p2
  refine ⟨permIn_trans _ _ _ _ _ q1 q2, ?_⟩
  have e1 : ∀ i, i < m → d2[i]! = d1[i]! := fun i hi => p2.2.1 i (.inl hi)
  refine sorted_join a m b d2 (fun i j hi hij hj => ?_) s2 (fun i j hi him hmj hjb => ?_)
  · rw [e1 i (by omega), e1 j hj]
    exact s1 i j hi hij hj
  · -- d2[i] is some d[i'] of the left, d2[j] some d[j'] of the right
    rw [e1 i him]
    have hL : ∀ k, m ≤ k → k < b → ∀ i, a ≤ i → i < m → lt d[k]! d1[i]! = false := fun k hk hkb =>
      permIn_all d d1 a m (fun x => lt d[k]! x = false) (by omega) p1 (fun i hi him => hx i k hi him hk hkb)
    have hR : ∀ j, m ≤ j → j < b → lt d2[j]! d1[i]! = false :=
      permIn_all d1 d2 m b (fun x => lt x d1[i]! = false) (by rw [p1.1]; exact hb) p2 (fun j hj hjb => by
        rw [p1.2.1 j (.inr hj)]
        exact hL j hj hjb i hi him)
    exact hR j hmj hjb
end
end Go.Proofs.YtjbjcfnbgcloiaaDoor.Srt

/- The library's stable sort over rows of k cells: what is asked of a program, and the exchange of two rows. -/
namespace Go.Proofs.YtjbjcfnbgcloiaaDoor
open Go.Shelf Go.RowKit Go.Lib Go.Sort Srt

/-- The stable sort's four functions in a program, and their types; elements of k cells. -/
structure Stb (P : Program) (k : Nat) : Prop where
  mixed : P.follows .mixedOrders = true
  fS : P.funcs[103]? = some Tryd.f103
  fR : P.funcs[102]? = some Tryd.f102
  fM : P.funcs[100]? = some Tryd.f100
  fT : P.funcs[90]? = some Tryd.f90
  t0 : P.underlying 0 = some (.tuple #[])
  a0 : ∀ w, (isAgg 0).run P w = .ok false w
  z0 : ∀ w, (Go.sizeOf 0).run P w = .ok 1 w
  v0 : ∀ w, (zeroValue 0).run P w = .ok (.tuple #[]) w
  t3 : P.underlying 3 = some (.int .i64)
  a3 : ∀ w, (isAgg 3).run P w = .ok false w
  z3 : ∀ w, (Go.sizeOf 3).run P w = .ok 1 w
  v3 : ∀ w, (zeroValue 3).run P w = .ok (.int .i64 0) w
  t4 : P.underlying 4 = some (.bool)
  a4 : ∀ w, (isAgg 4).run P w = .ok false w
  z4 : ∀ w, (Go.sizeOf 4).run P w = .ok 1 w
  v4 : ∀ w, (zeroValue 4).run P w = .ok (.bool false) w
  t41 : P.underlying 37 = some (.slice 49)
  a41 : ∀ w, (isAgg 37).run P w = .ok false w
  z41 : ∀ w, (Go.sizeOf 37).run P w = .ok 1 w
  v41 : ∀ w, (zeroValue 37).run P w = .ok (.slice none 0 0) w
  t75 : P.underlying 119 = some (.func #[49, 49] #[3] false)
  a75 : ∀ w, (isAgg 119).run P w = .ok false w
  z75 : ∀ w, (Go.sizeOf 119).run P w = .ok 1 w
  v75 : ∀ w, (zeroValue 119).run P w = .ok (.nilFunc) w
  t68 : P.underlying 72 = some (.int .u64)
  a68 : ∀ w, (isAgg 72).run P w = .ok false w
  z68 : ∀ w, (Go.sizeOf 72).run P w = .ok 1 w
  v68 : ∀ w, (zeroValue 72).run P w = .ok (.int .u64 0) w
  aE : ∀ w, (isAgg 49).run P w = .ok true w
  zE : ∀ w, (Go.sizeOf 49).run P w = .ok k w

theorem stb : Stb Tryd.prog 6 where
  mixed := by kernel_rfl
  fS := Tryd.func103
  fR := Tryd.func102
  fM := Tryd.func100
  fT := Tryd.func90
  t0 := Tryd.underlying0
  a0 := Tryd.isAgg0
  z0 := Tryd.sizeOf0
  v0 := Tryd.zeroValue0
  t3 := Tryd.underlying3
  a3 := Tryd.isAgg3
  z3 := Tryd.sizeOf3
  v3 := Tryd.zeroValue3
  t4 := Tryd.underlying4
  a4 := Tryd.isAgg4
  z4 := Tryd.sizeOf4
  v4 := Tryd.zeroValue4
  t41 := Tryd.underlying37
  a41 := Tryd.isAgg37
  z41 := Tryd.sizeOf37
  v41 := Tryd.zeroValue37
  t75 := Tryd.underlying119
  a75 := Tryd.isAgg119
  z75 := Tryd.sizeOf119
  v75 := Tryd.zeroValue119
  t68 := Tryd.underlying72
  a68 := Tryd.isAgg72
  z68 := Tryd.sizeOf72
  v68 := Tryd.zeroValue72
  aE := Tryd.isAgg49
  zE := Tryd.sizeOf49

section
variable {P : Program} {k : Nat} {α : Type} [Inhabited α] {enc : α → List Value} {w0 W : World} {blk off : Nat} {d0 dk : Array α}

set_option maxHeartbeats 4000000 in
set_option maxRecDepth 100000 in
theorem swapRange_is (L : Stb P k) (R : RowK enc k w0 blk off d0) (h : SWK enc k w0 blk off dk W) (hs : dk.size = d0.size) (hsz : d0.size < 4611686018427387904) (cap a b n : Nat) (g : Nat) (cb : Array Value) (han : a + n ≤ d0.size) (hbn : b + n ≤ d0.size) (hd : a + n ≤ b ∨ b + n ≤ a) :
    Calls P 103 #[.slice (some ⟨blk, off, none⟩) d0.size cap, .int .i64 a, .int .i64 b, .int .i64 n, .func (.func g) #[] cb] W fun e w' => e = .returned (.tuple #[]) ∧
      ∃ d' : Array α, SWK enc k w0 blk off d' w' ∧ d'.size = d0.size ∧ (∀ i, i < d0.size → d'[i]! = swapF a b n (fun j => dk[j]!) i) ∧ ∀ lo hi, lo ≤ a → lo ≤ b → a + n ≤ hi → b + n ≤ hi → hi ≤ d0.size → PermIn lo hi dk d' := by
  have mixed := L.mixed; have t0 := L.t0; have a0 := L.a0; have z0 := L.z0; have v0 := L.v0; have t3 := L.t3; have a3 := L.a3; have z3 := L.z3; have v3 := L.v3; have t4 := L.t4; have a4 := L.a4; have z4 := L.z4; have v4 := L.v4; have t41 := L.t41; have a41 := L.a41; have z41 := L.z41; have v41 := L.v41; have t75 := L.t75; have a75 := L.a75; have z75 := L.z75; have v75 := L.v75; have t68 := L.t68; have a68 := L.a68; have z68 := L.z68; have v68 := L.v68; have aE := L.aE; have zE := L.zE; have u41 := run_underlying L.t41
  have HR := Lib.hid R; clear R
  have HS0 := Lib.hid h; clear h
  go_enter L.fS, Tryd.ntmps103
  go_wp2_with fail
  go_loopw [10] (fun v wr => ∃ (i : Nat) (d : Array α), v = .int .i64 i ∧ i ≤ n ∧ Hid (SWK enc k w0 blk off d wr) ∧ d.size = d0.size ∧ Hid (∀ j, j < d0.size → d[j]! = swapF a b i (fun j => dk[j]!) j) ∧ Hid (∀ lo hi, lo ≤ a → lo ≤ b → a + n ≤ hi → b + n ≤ hi → hi ≤ d0.size → PermIn lo hi dk d)) (fun v _ => n - (intOf v).toNat)
  case atStart => exact ⟨0, dk, rfl, Nat.zero_le _, HS0, hs, fun j _ => (swapF_zero _ _ _ _).symm, fun lo hi _ _ _ _ _ => permIn_refl _ _ _⟩
  case round =>
    rename_i wr
    obtain ⟨i, d, rfl, hi, HS, hds, HF, HP⟩ := hrel
    by_cases hp : i < n
    · have hpz : (i : Int) < (n : Int) := by omega
      have hds2 : d.size = dk.size := by omega
      have sa := swp_get d (i := a + i) (j := b + i) (by omega) (by omega)
      have sp : ∀ lo hi, lo ≤ a → lo ≤ b → a + n ≤ hi → b + n ≤ hi → hi ≤ d0.size → PermIn lo hi d (swp d (a + i) (b + i)) := fun lo hi h1 h2 h3 h4 h5 => swp_permIn d lo hi (a + i) (b + i) (by omega) (by omega) (by omega) (by omega) (by omega)
      have HF2 : Hid (∀ j, j < d0.size → (swp d (a + i) (b + i))[j]! = swapF a b (i + 1) (fun j => dk[j]!) j) := by
        intro j hj
        rw [sa j, HF.out _ (by omega), HF.out _ (by omega), HF.out _ (by omega), ← swapF_step a b i _ (by omega) j]
        by_cases e1 : j = b + i
        · by_cases e2 : j = a + i
          · exfalso; omega
          · rw [if_pos e1, if_neg e2, if_pos e1]
        · rw [if_neg e1]
          by_cases e2 : j = a + i
          · rw [if_pos e2, if_pos e2]
          · rw [if_neg e2, if_neg e2, if_neg e1]
      have HP2 : Hid (∀ lo hi, lo ≤ a → lo ≤ b → a + n ≤ hi → b + n ≤ hi → hi ≤ d0.size → PermIn lo hi dk (swp d (a + i) (b + i))) := fun lo hi h1 h2 h3 h4 h5 => permIn_trans _ _ _ _ _ (HP.out lo hi h1 h2 h3 h4 h5) (sp lo hi h1 h2 h3 h4 h5)
      clear sa sp
      obtain ⟨xa, hxa⟩ : ∃ x, d[a + i]! = x := ⟨_, rfl⟩
      obtain ⟨xb, hxb⟩ : ∃ x, d[b + i]! = x := ⟨_, rfl⟩
      have la := HS.out.ld1 HR.out hds P (a + i) (by omega)
      have lb := HS.out.ld1 HR.out hds P (b + i) (by omega)
      have s1 := HS.out.st1 HR.out hds P (a + i) (by omega) (d[b + i]!)
      have s2 := HS.out.st2 HR.out hds P (a + i) (b + i) (by omega) (by omega) (d[b + i]!) (d[a + i]!)
      have sw := HS.out.swapped HR.out (a + i) (b + i) (by omega) (by omega)
      have kA : (enc (d[a + i]!)).length = k := HR.out.hk _
      have kB : (enc (d[b + i]!)).length = k := HR.out.hk _
      rw [hxa] at la s2 sw kA
      rw [hxb] at lb s1 s2 sw kB
      clear hxa hxb
      obtain ⟨cA, hcA⟩ : ∃ c, enc xa = c := ⟨_, rfl⟩
      obtain ⟨cB, hcB⟩ : ∃ c, enc xb = c := ⟨_, rfl⟩
      rw [hcA] at la s2 sw kA
      rw [hcB] at lb s1 s2 sw kB
      clear hcA hcB
      have SW := Lib.hid sw; clear sw
      have e1 : IntKind.i64.wrap ((a : Int) + (i : Int)) = (a : Int) + (i : Int) := IntWalk.i64_in _ (by omega)
      have e2 : IntKind.i64.wrap ((b : Int) + (i : Int)) = (b : Int) + (i : Int) := IntWalk.i64_in _ (by omega)
      have p1 : (0 : Int) ≤ (a : Int) + (i : Int) := by omega
      have p2 : (0 : Int) ≤ (b : Int) + (i : Int) := by omega
      have q1 : ((a : Int) + (i : Int)).toNat = a + i := by omega
      have q2 : ((b : Int) + (i : Int)).toNat = b + i := by omega
      have r1 : (a : Int) + (i : Int) < (d0.size : Int) := by omega
      have r2 : (b : Int) + (i : Int) < (d0.size : Int) := by omega
      go_wp2_with fail
      go_big_region_o
      all_goals go_wp2
      go_roundw
      case rel => exact ⟨i + 1, _, by go_num, by omega, SW, by rw [swp_size]; exact hds, HF2, HP2⟩
      case measure => simp [intOf]; omega
    · have hpz : (n : Int) ≤ (i : Int) := by omega
      have hin : i = n := by omega
      subst hin
      go_wp2
      go_end0
      exact ⟨rfl, d, HS.out, hds, HF.out, HP.out⟩
end
end Go.Proofs.YtjbjcfnbgcloiaaDoor

/- The library's stable sort over rows of k cells: rotation by exchanges. -/
namespace Go.Proofs.YtjbjcfnbgcloiaaDoor
open Go.Shelf Go.RowKit Go.Lib Go.Sort Srt

section
variable {P : Program} {k : Nat} {α : Type} [Inhabited α] {enc : α → List Value} {w0 W : World} {blk off : Nat} {d0 dk : Array α}

theorem get_far (d d' : Array α) (h : d'.size = d.size) (i : Nat) (hi : d.size ≤ i) : d'[i]! = d[i]! := by
  rw [getElem!_neg d' i (by omega), getElem!_neg d i (by omega)]

theorem swapF_all {d d' : Array α} {a b n : Nat} (h : d'.size = d.size) (ha : a + n ≤ d.size) (hb : b + n ≤ d.size) (hf : ∀ i, i < d.size → d'[i]! = swapF a b n (fun j => d[j]!) i) : ∀ i, d'[i]! = swapF a b n (fun j => d[j]!) i := by
  intro i
  by_cases hi : i < d.size
  · exact hf i hi
  · rw [get_far d d' h i (by omega)]
    unfold swapF
    rw [if_neg (by omega), if_neg (by omega)]

set_option maxHeartbeats 4000000 in
set_option maxRecDepth 100000 in
theorem rotate_is (L : Stb P k) (R : RowK enc k w0 blk off d0) (h : SWK enc k w0 blk off dk W) (hs : dk.size = d0.size) (hsz : d0.size < 4611686018427387904) (cap a m b : Nat) (g : Nat) (cb : Array Value) (ham : a < m) (hmb : m < b) (hb : b ≤ d0.size) :
    Calls P 102 #[.slice (some ⟨blk, off, none⟩) d0.size cap, .int .i64 a, .int .i64 m, .int .i64 b, .func (.func g) #[] cb] W fun e w' => e = .returned (.tuple #[]) ∧
      ∃ d' : Array α, SWK enc k w0 blk off d' w' ∧ d'.size = d0.size ∧ (∀ i, d'[i]! = rotF a m b (fun j => dk[j]!) i) ∧ PermIn a b dk d' := by
  have mixed := L.mixed; have t0 := L.t0; have a0 := L.a0; have z0 := L.z0; have v0 := L.v0; have t3 := L.t3; have a3 := L.a3; have z3 := L.z3; have v3 := L.v3; have t4 := L.t4; have a4 := L.a4; have z4 := L.z4; have v4 := L.v4; have t41 := L.t41; have a41 := L.a41; have z41 := L.z41; have v41 := L.v41; have t75 := L.t75; have a75 := L.a75; have z75 := L.z75; have v75 := L.v75; have t68 := L.t68; have a68 := L.a68; have z68 := L.z68; have v68 := L.v68; have aE := L.aE; have zE := L.zE; have u41 := run_underlying L.t41
  have eS : ∀ args w, (callFunc 103 args).run P w = .ok (.enter 103 args) w := enters_of L.fS (by kernel_rfl) rfl
  have HL := Lib.hid L
  have HR := Lib.hid R; clear R
  have HS0 := Lib.hid h; clear h
  go_enter L.fR, Tryd.ntmps102
  clear L
  have e1 : IntKind.i64.wrap ((m : Int) - (a : Int)) = ((m - a : Nat) : Int) := by rw [IntWalk.i64_in _ (by omega)]; omega
  have e2 : IntKind.i64.wrap ((b : Int) - (m : Int)) = ((b - m : Nat) : Int) := by rw [IntWalk.i64_in _ (by omega)]; omega
  go_wp2_with fail
  clear e1 e2
  go_loopw [10, 11] (fun v1 v2 wr => ∃ (i j : Nat) (d : Array α), v1 = .int .i64 i ∧ v2 = .int .i64 j ∧ 0 < i ∧ i ≤ m - a ∧ 0 < j ∧ j ≤ b - m ∧ Hid (SWK enc k w0 blk off d wr) ∧ d.size = d0.size ∧
      Hid (∀ x, rotF (m - i) m (m + j) (fun y => d[y]!) x = rotF a m b (fun y => dk[y]!) x) ∧ Hid (PermIn a b dk d)) (fun v1 v2 _ => (intOf v1).toNat + (intOf v2).toNat)
  case atStart => exact ⟨m - a, b - m, dk, rfl, rfl, by omega, Nat.le_refl _, by omega, Nat.le_refl _, HS0, hs, fun x => by rw [show m - (m - a) = a by omega, show m + (b - m) = b by omega], permIn_refl _ _ _⟩
  case round =>
    rename_i wr
    obtain ⟨i, j, d, rfl, rfl, hi0, hi, hj0, hj, HS, hds, HF, HP⟩ := hrel
    by_cases hij : i = j
    · have hbb : ((i : Int) == (j : Int)) = true := by rw [beq_iff_eq]; omega
      have c := swapRange_is HL.out HR.out HS.out hds hsz cap (m - i) m i g cb (by omega) (by omega) (by omega)
      have z1 : ((m - i : Nat) : Int) = (m : Int) - (i : Int) := by omega
      rw [z1] at c; clear z1
      have C := Lib.hid c; clear c
      have w1 : IntKind.i64.wrap ((m : Int) - (i : Int)) = (m : Int) - (i : Int) := IntWalk.i64_in _ (by omega)
      have HIJ := Lib.hid hij; clear hij
      go_wp2_with (go_at_fn 103; refine C.out.mono ?_; rintro e w' ⟨rfl, d1, hS1, hz1, hf1, hp1⟩)
      have hij := HIJ.out
      have hall := swapF_all (d := d) (d' := d1) (a := m - i) (b := m) (n := i) (by omega) (by omega) (by omega) (fun x hx => hf1 x (by omega))
      have hpp := hp1 a b (by omega) (by omega) (by omega) (by omega) hb
      have hrr : ∀ x, d1[x]! = rotF a m b (fun y => dk[y]!) x := fun x => by
        rw [← HF.out x, ← HIJ.out, rot_even m i (by omega), hall x]
      have Hrr := Lib.hid hrr; clear hrr
      clear hf1 hp1 hall
      go_end0
      exact ⟨rfl, d1, hS1, hz1, Hrr.out, permIn_trans _ _ _ _ _ HP.out hpp⟩
    · have hbb : ((i : Int) == (j : Int)) = false := by rw [beq_eq_false_iff_ne]; omega
      by_cases hlt : j < i
      · have hltz : (j : Int) < (i : Int) := by omega
        have c := swapRange_is HL.out HR.out HS.out hds hsz cap (m - i) m j g cb (by omega) (by omega) (by omega)
        have z1 : ((m - i : Nat) : Int) = (m : Int) - (i : Int) := by omega
        rw [z1] at c; clear z1
        have C := Lib.hid c; clear c
        have w1 : IntKind.i64.wrap ((m : Int) - (i : Int)) = (m : Int) - (i : Int) := IntWalk.i64_in _ (by omega)
        have w2 : IntKind.i64.wrap ((i : Int) - (j : Int)) = ((i - j : Nat) : Int) := by rw [IntWalk.i64_in _ (by omega)]; omega
        go_wp2_with (go_at_fn 103; refine C.out.mono ?_; rintro e w' ⟨rfl, d1, hS1, hz1, hf1, hp1⟩)
        have hall := swapF_all (d := d) (d' := d1) (a := m - i) (b := m) (n := j) (by omega) (by omega) (by omega) (fun x hx => hf1 x (by omega))
        have hpp := permIn_trans _ _ _ _ _ HP.out (hp1 a b (by omega) (by omega) (by omega) (by omega) hb)
        have hrr : ∀ x, rotF (m - (i - j)) m (m + j) (fun y => d1[y]!) x = rotF a m b (fun y => dk[y]!) x := fun x => by
          rw [← HF.out x, rot_left m i j hj0 hlt (by omega)]
          congr 1
          funext y
          exact hall y
        have Hrr := Lib.hid hrr; clear hrr
        clear hf1 hp1 hall
        go_roundw
        case rel => exact ⟨i - j, j, d1, rfl, rfl, by omega, by omega, hj0, hj, hS1, hz1, Hrr, hpp⟩
        case measure => simp [intOf]; omega
      · have hltz : (i : Int) < (j : Int) := by omega
        have c := swapRange_is HL.out HR.out HS.out hds hsz cap (m - i) (m + j - i) i g cb (by omega) (by omega) (by omega)
        have z1 : ((m - i : Nat) : Int) = (m : Int) - (i : Int) := by omega
        have z2 : ((m + j - i : Nat) : Int) = (m : Int) + (j : Int) - (i : Int) := by omega
        rw [z1, z2] at c; clear z1 z2
        have C := Lib.hid c; clear c
        have w1 : IntKind.i64.wrap ((m : Int) - (i : Int)) = (m : Int) - (i : Int) := IntWalk.i64_in _ (by omega)
        have w3 : IntKind.i64.wrap ((m : Int) + (j : Int)) = (m : Int) + (j : Int) := IntWalk.i64_in _ (by omega)
        have w4 : IntKind.i64.wrap ((m : Int) + (j : Int) - (i : Int)) = (m : Int) + (j : Int) - (i : Int) := IntWalk.i64_in _ (by omega)
        have w2 : IntKind.i64.wrap ((j : Int) - (i : Int)) = ((j - i : Nat) : Int) := by rw [IntWalk.i64_in _ (by omega)]; omega
        go_wp2_with (go_at_fn 103; refine C.out.mono ?_; rintro e w' ⟨rfl, d1, hS1, hz1, hf1, hp1⟩)
        have hall := swapF_all (d := d) (d' := d1) (a := m - i) (b := m + j - i) (n := i) (by omega) (by omega) (by omega) (fun x hx => hf1 x (by omega))
        have hpp := permIn_trans _ _ _ _ _ HP.out (hp1 a b (by omega) (by omega) (by omega) (by omega) hb)
        have hrr : ∀ x, rotF (m - i) m (m + (j - i)) (fun y => d1[y]!) x = rotF a m b (fun y => dk[y]!) x := fun x => by
          rw [← HF.out x, rot_right m i j hi0 (by omega) (by omega)]
          congr 1
          funext y
          exact hall y
        have Hrr := Lib.hid hrr; clear hrr
        clear hf1 hp1 hall
        go_roundw
        case rel => exact ⟨i, j - i, d1, rfl, rfl, hi0, hi, by omega, by omega, hS1, hz1, Hrr, hpp⟩
        case measure => simp [intOf]; omega
end
end Go.Proofs.YtjbjcfnbgcloiaaDoor

/- The symmetric merge: plain laws. -/
namespace Go.Proofs.YtjbjcfnbgcloiaaDoor.Srt
open Go.Sort
variable {α : Type}

/-- Row a goes up by one place more. -/
theorem shift_up (a i : Nat) (hai : a ≤ i) (f : Nat → α) (x : Nat) :
    (if x = i + 1 then rotF a (a + 1) (i + 1) f i else if x = i then rotF a (a + 1) (i + 1) f (i + 1) else rotF a (a + 1) (i + 1) f x) = rotF a (a + 1) (i + 2) f x := by
  unfold rotF
  repeat' split
  all_goals first | rfl | (exfalso; omega) | (congr 1; omega)
theorem rot_one (a : Nat) (f : Nat → α) (x : Nat) : rotF a (a + 1) (a + 1) f x = f x := by
  unfold rotF
  repeat' split
  all_goals first | rfl | (exfalso; omega) | (congr 1; omega)
/-- Row m goes down by one place more. -/
theorem shift_down (m i : Nat) (him : i < m) (f : Nat → α) (x : Nat) :
    (if x = i then rotF (i + 1) m (m + 1) f (i + 1) else if x = i + 1 then rotF (i + 1) m (m + 1) f i else rotF (i + 1) m (m + 1) f x) = rotF i m (m + 1) f x := by
  unfold rotF
  repeat' split
  all_goals first | rfl | (exfalso; omega) | (congr 1; omega)
theorem rot_none (m e : Nat) (f : Nat → α) (x : Nat) : rotF m m e f x = f x := by
  unfold rotF
  repeat' split
  all_goals first | rfl | (exfalso; omega) | (congr 1; omega)
theorem rot_none' (s m : Nat) (f : Nat → α) (x : Nat) : rotF s m m f x = f x := by
  unfold rotF
  repeat' split
  all_goals first | rfl | (exfalso; omega) | (congr 1; omega)

variable [Inhabited α] {lt : α → α → Bool}

/-- One element laid into a sorted row behind it. -/
theorem ins_up (hS : SWO lt) (a b i : Nat) (d d' : Array α) (hai : a + 1 ≤ i) (hib : i ≤ b) (h2 : SortedIn lt (a + 1) b d) (hl : ∀ x, a + 1 ≤ x → x < i → lt d[x]! d[a]! = true) (hg : ∀ x, i ≤ x → x < b → lt d[x]! d[a]! = false)
    (hd : ∀ x, d'[x]! = rotF a (a + 1) i (fun y => d[y]!) x) : SortedIn lt a b d' := by
  intro p q hp hpq hq
  rw [hd p, hd q]
  unfold rotF
  by_cases c1 : i ≤ q
  · rw [if_pos (.inr c1)]
    by_cases c2 : i ≤ p
    · rw [if_pos (.inr c2)]
      exact h2 p q (by omega) hpq hq
    · rw [if_neg (by omega : ¬ (p < a ∨ i ≤ p))]
      by_cases c3 : p < a + (i - (a + 1))
      · rw [if_pos c3]
        exact h2 _ q (by omega) (by omega) hq
      · rw [if_neg c3]
        have e : p - (i - (a + 1)) = a := by omega
        rw [e]
        exact hg q c1 hq
  · rw [if_neg (by omega : ¬ (q < a ∨ i ≤ q)), if_neg (by omega : ¬ (p < a ∨ i ≤ p)), if_pos (by omega : p < a + (i - (a + 1)))]
    by_cases c3 : q < a + (i - (a + 1))
    · rw [if_pos c3]
      exact h2 _ _ (by omega) (by omega) (by omega)
    · rw [if_neg c3]
      have e : q - (i - (a + 1)) = a := by omega
      rw [e]
      exact le_of_lt hS (hl _ (by omega) (by omega))

/-- One element laid into a sorted row ahead of it. -/
theorem ins_down (hS : SWO lt) (a m i : Nat) (d d' : Array α) (hai : a ≤ i) (him : i ≤ m) (h1 : SortedIn lt a m d) (hl : ∀ x, a ≤ x → x < i → lt d[m]! d[x]! = false) (hg : ∀ x, i ≤ x → x < m → lt d[m]! d[x]! = true)
    (hd : ∀ x, d'[x]! = rotF i m (m + 1) (fun y => d[y]!) x) : SortedIn lt a (m + 1) d' := by
  intro p q hp hpq hq
  rw [hd p, hd q]
  unfold rotF
  by_cases c1 : q < i
  · rw [if_pos (.inl c1), if_pos (.inl (by omega : p < i))]
    exact h1 p q hp hpq (by omega)
  · rw [if_neg (by omega : ¬ (q < i ∨ m + 1 ≤ q))]
    by_cases c2 : q < i + (m + 1 - m)
    · have e : q = i := by omega
      subst e
      rw [if_pos c2, if_pos (.inl (by omega : p < q))]
      have e2 : q + (m - q) = m := by omega
      rw [e2]
      exact hl p hp hpq
    · rw [if_neg c2]
      by_cases c3 : p < i
      · rw [if_pos (.inl c3)]
        exact h1 p _ hp (by omega) (by omega)
      · rw [if_neg (by omega : ¬ (p < i ∨ m + 1 ≤ p))]
        by_cases c4 : p < i + (m + 1 - m)
        · rw [if_pos c4]
          have e2 : p + (m - i) = m := by omega
          rw [e2]
          exact le_of_lt hS (hg _ (by omega) (by omega))
        · rw [if_neg c4]
          exact h1 _ _ (by omega) (by omega) (by omega)

/-- What the rotation at the right place leaves: two halves, each of two sorted rows, nothing of the second less than anything of the first. -/
theorem rot_halves (hS : SWO lt) (a m b mid s s0 r0 : Nat) (d d1 : Array α) (ham : a < m) (hmb : m < b) (hmid : mid = (a + b) / 2) (hs0 : s0 = if mid < m then mid + m - b else a) (hr0 : r0 = if mid < m then mid else m)
    (hss : s0 ≤ s) (hsr : s ≤ r0) (h1 : SortedIn lt a m d) (h2 : SortedIn lt m b d)
    (hlo : ∀ x, s0 ≤ x → x < s → lt d[mid + m - 1 - x]! d[x]! = false) (hhi : ∀ x, s ≤ x → x < r0 → lt d[mid + m - 1 - x]! d[x]! = true)
    (hd : ∀ x, d1[x]! = rotF s m (mid + m - s) (fun y => d[y]!) x) :
    a ≤ s ∧ s ≤ m ∧ s ≤ mid ∧ m ≤ mid + m - s ∧ mid + m - s ≤ b ∧ SortedIn lt a s d1 ∧ SortedIn lt s mid d1 ∧ SortedIn lt mid (mid + m - s) d1 ∧ SortedIn lt (mid + m - s) b d1 ∧
      (∀ i j, a ≤ i → i < mid → mid ≤ j → j < b → lt d1[j]! d1[i]! = false) := by
  have b1 : a ≤ s0 ∧ r0 ≤ m ∧ r0 ≤ mid ∧ mid + m - s0 ≤ b := by
    rw [hs0, hr0]
    split <;> omega
  obtain ⟨b2, b3, b4, b5⟩ := b1
  obtain ⟨e, he⟩ : ∃ e, mid + m - s = e := ⟨_, rfl⟩
  have e1 : m ≤ e := by omega
  have e2 : e ≤ b := by omega
  have e3 : s + (e - m) = mid := by omega
  have e4 : mid ≤ e := by omega
  have f1 : ∀ x, x < s → d1[x]! = d[x]! := fun x hx => by rw [hd x]; unfold rotF; rw [if_pos (.inl hx)]
  have f2 : ∀ x, s ≤ x → x < mid → d1[x]! = d[x + (m - s)]! := fun x h1 h2 => by rw [hd x]; unfold rotF; rw [if_neg (by omega), if_pos (by omega)]
  have f3 : ∀ x, mid ≤ x → x < e → d1[x]! = d[x - (e - m)]! := fun x h1 h2 => by
    rw [hd x]; unfold rotF; rw [if_neg (by omega), if_neg (by omega), he]
  have f4 : ∀ x, e ≤ x → d1[x]! = d[x]! := fun x hx => by rw [hd x]; unfold rotF; rw [if_pos (.inr (by omega))]
  rw [he]
  refine ⟨by omega, by omega, by omega, e1, e2, ?_, ?_, ?_, ?_, ?_⟩
  · intro p q hp hpq hq
    rw [f1 p (by omega), f1 q hq]
    exact h1 p q hp hpq (by omega)
  · intro p q hp hpq hq
    rw [f2 p hp (by omega), f2 q (by omega) hq]
    exact h2 _ _ (by omega) (by omega) (by omega)
  · intro p q hp hpq hq
    rw [f3 p hp (by omega), f3 q (by omega) hq]
    exact h1 _ _ (by omega) (by omega) (by omega)
  · intro p q hp hpq hq
    rw [f4 p hp, f4 q (by omega)]
    exact h2 _ _ (by omega) hpq hq
  · intro i j hi him hmj hjb
    by_cases ci : i < s
    · rw [f1 i ci]
      by_cases cj : j < e
      · rw [f3 j hmj cj]
        exact h1 _ _ hi (by omega) (by omega)
      · rw [f4 j (by omega)]
        by_cases cs : s = s0
        · exfalso
          rw [hs0] at cs
          split at cs <;> omega
        · have q1 := hlo (s - 1) (by omega) (by omega)
          have q2 : mid + m - 1 - (s - 1) = e := by omega
          rw [q2] at q1
          have q3 : lt d[s - 1]! d[i]! = false := by
            by_cases c : i = s - 1
            · rw [c]; exact hS.irrefl _
            · exact h1 _ _ hi (by omega) (by omega)
          have q4 : lt d[j]! d[e]! = false := by
            by_cases c : j = e
            · rw [c]; exact hS.irrefl _
            · exact h2 _ _ (by omega) (by omega) hjb
          exact hS.ntrans _ _ _ q4 (hS.ntrans _ _ _ q1 q3)
    · rw [f2 i (by omega) him]
      by_cases cj : j < e
      · rw [f3 j hmj cj]
        by_cases cs : s = r0
        · exfalso
          rw [hr0] at cs
          split at cs <;> omega
        · have q1 := hhi s (by omega) (by omega)
          have q2 : mid + m - 1 - s = e - 1 := by omega
          rw [q2] at q1
          have q1 := le_of_lt hS q1
          have q3 : lt d[e - 1]! d[i + (m - s)]! = false := by
            by_cases c : i + (m - s) = e - 1
            · rw [c]; exact hS.irrefl _
            · exact h2 _ _ (by omega) (by omega) (by omega)
          have q4 : lt d[j - (e - m)]! d[s]! = false := by
            by_cases c : j - (e - m) = s
            · rw [c]; exact hS.irrefl _
            · exact h1 _ _ (by omega) (by omega) (by omega)
          exact hS.ntrans _ _ _ q4 (hS.ntrans _ _ _ q1 q3)
      · rw [f4 j (by omega)]
        exact h2 _ _ (by omega) (by omega) hjb
end Go.Proofs.YtjbjcfnbgcloiaaDoor.Srt

/- The library's stable sort over rows of k cells: the symmetric merge where one side has one element. -/
namespace Go.Proofs.YtjbjcfnbgcloiaaDoor
open Go.Shelf Go.RowKit Go.Lib Go.Sort Srt

section
variable {P : Program} {k : Nat} {α : Type} [Inhabited α] {enc : α → List Value} {w0 W : World} {blk off : Nat} {d0 dk : Array α}

set_option maxHeartbeats 8000000 in
set_option maxRecDepth 100000 in
theorem merge1_is (L : Stb P k) (R : RowK enc k w0 blk off d0) (cf : α → α → Int) (g : Nat) (cb : Array Value) (eg : ∀ args w, (callFunc g args).run P w = .ok (.enter g args) w) (hC : CmpLays P g cb enc k cf blk off d0.size w0) (hS : SWO (ltOf cf))
    (h : SWK enc k w0 blk off dk W) (hs : dk.size = d0.size) (hsz : d0.size < 4611686018427387904) (cap a b : Nat) (hab : a + 1 < b) (hb : b ≤ d0.size) (h2 : SortedIn (ltOf cf) (a + 1) b dk) :
    Calls P 100 #[.slice (some ⟨blk, off, none⟩) d0.size cap, .int .i64 a, .int .i64 ((a : Int) + 1), .int .i64 b, .func (.func g) #[] cb] W fun e w' => e = .returned (.tuple #[]) ∧
      ∃ d' : Array α, SWK enc k w0 blk off d' w' ∧ d'.size = d0.size ∧ PermIn a b dk d' ∧ SortedIn (ltOf cf) a b d' := by
  have mixed := L.mixed; have t0 := L.t0; have a0 := L.a0; have z0 := L.z0; have v0 := L.v0; have t3 := L.t3; have a3 := L.a3; have z3 := L.z3; have v3 := L.v3; have t4 := L.t4; have a4 := L.a4; have z4 := L.z4; have v4 := L.v4; have t41 := L.t41; have a41 := L.a41; have z41 := L.z41; have v41 := L.v41; have t75 := L.t75; have a75 := L.a75; have z75 := L.z75; have v75 := L.v75; have t68 := L.t68; have a68 := L.a68; have z68 := L.z68; have v68 := L.v68; have aE := L.aE; have zE := L.zE; have u41 := run_underlying L.t41
  have HR := Lib.hid R; clear R
  have HS0 := Lib.hid h; clear h
  have HC := Lib.hid hC; clear hC
  have H2 := Lib.hid h2; clear h2
  have HSW := Lib.hid hS; clear hS
  go_enter L.fM, Tryd.ntmps100
  have e1 : IntKind.i64.wrap ((a : Int) + 1 - (a : Int)) = 1 := by rw [IntWalk.i64_in _ (by omega)]; omega
  go_wp2_with fail
  clear e1
  go_loopw [10, 11] (fun v1 v2 wr => ∃ (i j : Nat), v1 = .int .i64 i ∧ v2 = .int .i64 j ∧ a + 1 ≤ i ∧ i ≤ j ∧ j ≤ b ∧ Hid (SWK enc k w0 blk off dk wr) ∧
      Hid (∀ x, a + 1 ≤ x → x < i → ltOf cf dk[x]! dk[a]! = true) ∧ Hid (∀ x, j ≤ x → x < b → ltOf cf dk[x]! dk[a]! = false)) (fun v1 v2 _ => (intOf v2).toNat - (intOf v1).toNat)
  case atStart => exact ⟨a + 1, b, by go_num, rfl, Nat.le_refl _, by omega, Nat.le_refl _, HS0, fun x h1 h2 => by omega, fun x h1 h2 => by omega⟩
  case round =>
    rename_i wr
    obtain ⟨i, j, rfl, rfl, hai, hij, hjb, HS, HLo, HHi⟩ := hrel
    by_cases hlt : i < j
    · have hltz : (i : Int) < (j : Int) := by omega
      obtain ⟨c, hc⟩ : ∃ c, (i + j) / 2 = c := ⟨_, rfl⟩
      have hci : i ≤ c := by omega
      have hcj : c < j := by omega
      have g1 : IntKind.i64.wrap ((i : Int) + (j : Int)) = (i : Int) + (j : Int) := IntWalk.i64_in _ (by omega)
      have g2 : IntKind.u64.wrap ((i : Int) + (j : Int)) = (i : Int) + (j : Int) := IntWalk.u64_in _ (by omega)
      have g3 : ((i : Int) + (j : Int)) / 2 = (c : Int) := by omega
      have g4 : IntKind.i64.wrap (c : Int) = (c : Int) := IntWalk.i64_in _ (by omega)
      have g5 : IntKind.u64.wrap (c : Int) = (c : Int) := IntWalk.u64_in _ (by omega)
      have g6 : IntKind.i64.wrap ((c : Int) + 1) = (c : Int) + 1 := IntWalk.i64_in _ (by omega)
      have r1 : (c : Int) < (d0.size : Int) := by omega
      have r2 : (a : Int) < (d0.size : Int) := by omega
      obtain ⟨xc, hxc⟩ : ∃ x, dk[c]! = x := ⟨_, rfl⟩
      obtain ⟨xa, hxa⟩ : ∃ x, dk[a]! = x := ⟨_, rfl⟩
      have lc : ∀ n os, Sem.run P (loadCellsFrom ⟨blk, off + c * k, none⟩ 0 k #[]) (grow (wr.drewN n) os) = .ok (enc xc).toArray (grow (wr.drewN n) os) := fun n os => by rw [← hxc]; exact HS.out.ld HR.out hs P c (by omega) n os
      have la : ∀ n os, Sem.run P (loadCellsFrom ⟨blk, off + a * k, none⟩ 0 k #[]) (grow (wr.drewN n) os) = .ok (enc xa).toArray (grow (wr.drewN n) os) := fun n os => by rw [← hxa]; exact HS.out.ld HR.out hs P a (by omega) n os
      have hcg : ∀ n' os', Calls P g (#[.agg (enc xc).toArray, .agg (enc xa).toArray] ++ cb) (grow (wr.drewN n') os') fun e w' => e = .returned (.int .i64 (cf xc xa)) ∧ ∃ q os'', w' = grow ((grow (wr.drewN n') os').drewN q) os'' := fun n' os' => HS.out.cmp HC.out hs xc xa n' os'
      have GR : Hid (∀ n os, SWK enc k w0 blk off dk (grow (wr.drewN n) os)) := fun n os => HS.out.grown n os
      have HC2 := Lib.hid hc; clear hc
      have HXC := Lib.hid hxc; clear hxc
      have HXA := Lib.hid hxa; clear hxa
      by_cases hlv : cf xc xa < 0
      · have HN : Hid (∀ x, a + 1 ≤ x → x < c + 1 → ltOf cf dk[x]! dk[a]! = true) := by
          intro x h1 h2
          have q : ltOf cf dk[c]! dk[a]! = true := by rw [HXC.out, HXA.out]; exact decide_eq_true hlv
          by_cases e : x = c
          · rw [e]; exact q
          · exact lt_of_le_lt HSW.out (H2.out x c h1 (by omega) (by omega)) q
        go_wp2_with fail
        go_quiet_grown (first | (go_at_fn g; refine Calls.grown_of (hcg _ _)))
        clear lc la hcg
        go_wp2
        go_roundw
        case rel => exact ⟨c + 1, j, by go_num, rfl, by omega, by omega, hjb, GR.out _ _, HN, HHi⟩
        case measure => simp [intOf]; omega
      · have HN : Hid (∀ x, c ≤ x → x < b → ltOf cf dk[x]! dk[a]! = false) := by
          intro x h1 h2
          have q : ltOf cf dk[c]! dk[a]! = false := by rw [HXC.out, HXA.out]; exact decide_eq_false hlv
          by_cases e : x = c
          · rw [e]; exact q
          · exact HSW.out.ntrans _ _ _ (H2.out c x (by omega) (by omega) (by omega)) q
        go_wp2_with fail
        go_quiet_grown (first | (go_at_fn g; refine Calls.grown_of (hcg _ _)))
        clear lc la hcg
        go_wp2
        go_roundw
        case rel => exact ⟨i, c, rfl, rfl, by omega, by omega, by omega, GR.out _ _, HLo, HN⟩
        case measure => simp [intOf]; omega
    · have hltz : (j : Int) ≤ (i : Int) := by omega
      obtain rfl : i = j := by omega
      clear hltz
      have nlt : ¬ ((i : Int) < (i : Int)) := by omega
      have FIN : Hid (∀ d' : Array α, (∀ x, d'[x]! = rotF a (a + 1) i (fun y => dk[y]!) x) → SortedIn (ltOf cf) a b d') := fun d' hd => ins_up HSW.out a b i dk d' hai hjb H2.out HLo.out HHi.out hd
      have w1 : IntKind.i64.wrap ((i : Int) - 1) = (i : Int) - 1 := IntWalk.i64_in _ (by omega)
      go_wp2_with fail
      go_loopw [13] (fun v wr => ∃ (x : Nat) (d : Array α), v = .int .i64 x ∧ a ≤ x ∧ x + 1 ≤ i ∧ Hid (SWK enc k w0 blk off d wr) ∧ d.size = d0.size ∧ Hid (∀ y, d[y]! = rotF a (a + 1) (x + 1) (fun y => dk[y]!) y) ∧ Hid (PermIn a b dk d)) (fun v _ => i - (intOf v).toNat)
      case atStart => exact ⟨a, dk, rfl, Nat.le_refl _, hai, HS, hs, fun y => (rot_one a _ y).symm, permIn_refl _ _ _⟩
      case round =>
        rename_i wq
        clear HS
        obtain ⟨x, d, rfl, hax, hxi, HS, hds, HF, HP⟩ := hrel
        by_cases hp : x + 1 < i
        · have hpz : (x : Int) < (i : Int) - 1 := by omega
          have sa := swp_get d (i := x) (j := x + 1) (by omega) (by omega)
          have sp : PermIn a b d (swp d x (x + 1)) := swp_permIn d a b x (x + 1) (by omega) (by omega) (by omega) (by omega) (by omega)
          have HF2 : Hid (∀ y, (swp d x (x + 1))[y]! = rotF a (a + 1) (x + 2) (fun y => dk[y]!) y) := by
            intro y
            rw [sa y, HF.out, HF.out, HF.out]
            exact shift_up a x hax _ y
          have HP2 : Hid (PermIn a b dk (swp d x (x + 1))) := permIn_trans _ _ _ _ _ HP.out sp
          clear sa sp
          obtain ⟨xa, hxa⟩ : ∃ z, d[x]! = z := ⟨_, rfl⟩
          obtain ⟨xb, hxb⟩ : ∃ z, d[x + 1]! = z := ⟨_, rfl⟩
          have la := HS.out.ld1 HR.out hds P x (by omega)
          have lb := HS.out.ld1 HR.out hds P (x + 1) (by omega)
          have s1 := HS.out.st1 HR.out hds P x (by omega) (d[x + 1]!)
          have s2 := HS.out.st2 HR.out hds P x (x + 1) (by omega) (by omega) (d[x + 1]!) (d[x]!)
          have sw := HS.out.swapped HR.out x (x + 1) (by omega) (by omega)
          have kA : (enc (d[x]!)).length = k := HR.out.hk _
          have kB : (enc (d[x + 1]!)).length = k := HR.out.hk _
          rw [hxa] at la s2 sw kA
          rw [hxb] at lb s1 s2 sw kB
          clear hxa hxb
          obtain ⟨cA, hcA⟩ : ∃ c, enc xa = c := ⟨_, rfl⟩
          obtain ⟨cB, hcB⟩ : ∃ c, enc xb = c := ⟨_, rfl⟩
          rw [hcA] at la s2 sw kA
          rw [hcB] at lb s1 s2 sw kB
          clear hcA hcB
          have SW := Lib.hid sw; clear sw
          have e1 : IntKind.i64.wrap ((x : Int) + 1) = (x : Int) + 1 := IntWalk.i64_in _ (by omega)
          have p1 : (0 : Int) ≤ (x : Int) + 1 := by omega
          have q1 : ((x : Int) + 1).toNat = x + 1 := by omega
          have r1 : (x : Int) + 1 < (d0.size : Int) := by omega
          have r2 : (x : Int) < (d0.size : Int) := by omega
          go_wp2_with fail
          go_big_region_o
          all_goals go_wp2
          go_roundw
          case rel => exact ⟨x + 1, _, by go_num, by omega, by omega, SW, by rw [swp_size]; exact hds, HF2, HP2⟩
          case measure => simp [intOf]; omega
        · have hpz : (i : Int) - 1 ≤ (x : Int) := by omega
          have hxe : x + 1 = i := by omega
          rw [hxe] at HF
          have hfin := FIN.out d HF.out
          have HFN := Lib.hid hfin; clear hfin
          clear HF FIN
          go_wp2
          (try simp only [Exit.inBlock, Exit.then])
          refine bodyPost_ret (results_none rfl _ _ _) rfl ?_
          exact ⟨rfl, d, HS.out, hds, HP.out, HFN.out⟩

set_option maxHeartbeats 8000000 in
set_option maxRecDepth 100000 in
theorem merge2_is (L : Stb P k) (R : RowK enc k w0 blk off d0) (cf : α → α → Int) (g : Nat) (cb : Array Value) (eg : ∀ args w, (callFunc g args).run P w = .ok (.enter g args) w) (hC : CmpLays P g cb enc k cf blk off d0.size w0) (hS : SWO (ltOf cf))
    (h : SWK enc k w0 blk off dk W) (hs : dk.size = d0.size) (hsz : d0.size < 4611686018427387904) (cap a m : Nat) (ham : a + 1 < m) (hb : m + 1 ≤ d0.size) (h1 : SortedIn (ltOf cf) a m dk) :
    Calls P 100 #[.slice (some ⟨blk, off, none⟩) d0.size cap, .int .i64 a, .int .i64 m, .int .i64 ((m : Int) + 1), .func (.func g) #[] cb] W fun e w' => e = .returned (.tuple #[]) ∧
      ∃ d' : Array α, SWK enc k w0 blk off d' w' ∧ d'.size = d0.size ∧ PermIn a (m + 1) dk d' ∧ SortedIn (ltOf cf) a (m + 1) d' := by
  have mixed := L.mixed; have t0 := L.t0; have a0 := L.a0; have z0 := L.z0; have v0 := L.v0; have t3 := L.t3; have a3 := L.a3; have z3 := L.z3; have v3 := L.v3; have t4 := L.t4; have a4 := L.a4; have z4 := L.z4; have v4 := L.v4; have t41 := L.t41; have a41 := L.a41; have z41 := L.z41; have v41 := L.v41; have t75 := L.t75; have a75 := L.a75; have z75 := L.z75; have v75 := L.v75; have t68 := L.t68; have a68 := L.a68; have z68 := L.z68; have v68 := L.v68; have aE := L.aE; have zE := L.zE; have u41 := run_underlying L.t41
  have HR := Lib.hid R; clear R
  have HS0 := Lib.hid h; clear h
  have HC := Lib.hid hC; clear hC
  have H1 := Lib.hid h1; clear h1
  have HSW := Lib.hid hS; clear hS
  go_enter L.fM, Tryd.ntmps100
  have e1 : IntKind.i64.wrap ((m : Int) + 1 - (m : Int)) = 1 := by rw [IntWalk.i64_in _ (by omega)]; omega
  have e2 : IntKind.i64.wrap ((m : Int) - (a : Int)) = (m : Int) - (a : Int) := IntWalk.i64_in _ (by omega)
  have e3 : ((m : Int) - (a : Int) == 1) = false := by rw [beq_eq_false_iff_ne]; omega
  go_wp2_with fail
  clear e1 e2 e3
  go_loopw [14, 15] (fun v1 v2 wr => ∃ (i j : Nat), v1 = .int .i64 i ∧ v2 = .int .i64 j ∧ a ≤ i ∧ i ≤ j ∧ j ≤ m ∧ Hid (SWK enc k w0 blk off dk wr) ∧
      Hid (∀ x, a ≤ x → x < i → ltOf cf dk[m]! dk[x]! = false) ∧ Hid (∀ x, j ≤ x → x < m → ltOf cf dk[m]! dk[x]! = true)) (fun v1 v2 _ => (intOf v2).toNat - (intOf v1).toNat)
  case atStart => exact ⟨a, m, rfl, rfl, Nat.le_refl _, by omega, Nat.le_refl _, HS0, fun x h1 h2 => by omega, fun x h1 h2 => by omega⟩
  case round =>
    rename_i wr
    obtain ⟨i, j, rfl, rfl, hai, hij, hjb, HS, HLo, HHi⟩ := hrel
    by_cases hlt : i < j
    · have hltz : (i : Int) < (j : Int) := by omega
      obtain ⟨c, hc⟩ : ∃ c, (i + j) / 2 = c := ⟨_, rfl⟩
      have hci : i ≤ c := by omega
      have hcj : c < j := by omega
      have g1 : IntKind.i64.wrap ((i : Int) + (j : Int)) = (i : Int) + (j : Int) := IntWalk.i64_in _ (by omega)
      have g2 : IntKind.u64.wrap ((i : Int) + (j : Int)) = (i : Int) + (j : Int) := IntWalk.u64_in _ (by omega)
      have g3 : ((i : Int) + (j : Int)) / 2 = (c : Int) := by omega
      have g4 : IntKind.i64.wrap (c : Int) = (c : Int) := IntWalk.i64_in _ (by omega)
      have g5 : IntKind.u64.wrap (c : Int) = (c : Int) := IntWalk.u64_in _ (by omega)
      have g6 : IntKind.i64.wrap ((c : Int) + 1) = (c : Int) + 1 := IntWalk.i64_in _ (by omega)
      have r1 : (c : Int) < (d0.size : Int) := by omega
      have r2 : (m : Int) < (d0.size : Int) := by omega
      obtain ⟨xc, hxc⟩ : ∃ x, dk[c]! = x := ⟨_, rfl⟩
      obtain ⟨xa, hxa⟩ : ∃ x, dk[m]! = x := ⟨_, rfl⟩
      have lc : ∀ n os, Sem.run P (loadCellsFrom ⟨blk, off + c * k, none⟩ 0 k #[]) (grow (wr.drewN n) os) = .ok (enc xc).toArray (grow (wr.drewN n) os) := fun n os => by rw [← hxc]; exact HS.out.ld HR.out hs P c (by omega) n os
      have la : ∀ n os, Sem.run P (loadCellsFrom ⟨blk, off + m * k, none⟩ 0 k #[]) (grow (wr.drewN n) os) = .ok (enc xa).toArray (grow (wr.drewN n) os) := fun n os => by rw [← hxa]; exact HS.out.ld HR.out hs P m (by omega) n os
      have hcg : ∀ n' os', Calls P g (#[.agg (enc xa).toArray, .agg (enc xc).toArray] ++ cb) (grow (wr.drewN n') os') fun e w' => e = .returned (.int .i64 (cf xa xc)) ∧ ∃ q os'', w' = grow ((grow (wr.drewN n') os').drewN q) os'' := fun n' os' => HS.out.cmp HC.out hs xa xc n' os'
      have GR : Hid (∀ n os, SWK enc k w0 blk off dk (grow (wr.drewN n) os)) := fun n os => HS.out.grown n os
      have HC2 := Lib.hid hc; clear hc
      have HXC := Lib.hid hxc; clear hxc
      have HXA := Lib.hid hxa; clear hxa
      by_cases hlv : cf xa xc < 0
      · have HN : Hid (∀ x, c ≤ x → x < m → ltOf cf dk[m]! dk[x]! = true) := by
          intro x h1 h2
          have q : ltOf cf dk[m]! dk[c]! = true := by rw [HXC.out, HXA.out]; exact decide_eq_true hlv
          by_cases e : x = c
          · rw [e]; exact q
          · exact lt_of_lt_le HSW.out q (H1.out c x (by omega) (by omega) (by omega))
        have hbn : (!decide (cf xa xc < 0)) = false := by rw [decide_eq_true hlv]; rfl
        go_wp2_with fail
        go_quiet_grown (first | (go_at_fn g; refine Calls.grown_of (hcg _ _)))
        clear lc la hcg
        go_wp2
        go_roundw
        case rel => exact ⟨i, c, rfl, rfl, by omega, by omega, by omega, GR.out _ _, HLo, HN⟩
        case measure => simp [intOf]; omega
      · have HN : Hid (∀ x, a ≤ x → x < c + 1 → ltOf cf dk[m]! dk[x]! = false) := by
          intro x h1 h2
          have q : ltOf cf dk[m]! dk[c]! = false := by rw [HXC.out, HXA.out]; exact decide_eq_false hlv
          by_cases e : x = c
          · rw [e]; exact q
          · exact HSW.out.ntrans _ _ _ q (H1.out x c h1 (by omega) (by omega))
        have hbn : (!decide (cf xa xc < 0)) = true := by rw [decide_eq_false hlv]; rfl
        go_wp2_with fail
        go_quiet_grown (first | (go_at_fn g; refine Calls.grown_of (hcg _ _)))
        clear lc la hcg
        go_wp2
        go_roundw
        case rel => exact ⟨c + 1, j, by go_num, rfl, by omega, by omega, hjb, GR.out _ _, HN, HHi⟩
        case measure => simp [intOf]; omega
    · have hltz : (j : Int) ≤ (i : Int) := by omega
      obtain rfl : i = j := by omega
      clear hltz
      have nlt : ¬ ((i : Int) < (i : Int)) := by omega
      have FIN : Hid (∀ d' : Array α, (∀ x, d'[x]! = rotF i m (m + 1) (fun y => dk[y]!) x) → SortedIn (ltOf cf) a (m + 1) d') := fun d' hd => ins_down HSW.out a m i dk d' hai hjb H1.out HLo.out HHi.out hd
      go_wp2_with fail
      go_loopw [17] (fun v wr => ∃ (x : Nat) (d : Array α), v = .int .i64 x ∧ i ≤ x ∧ x ≤ m ∧ Hid (SWK enc k w0 blk off d wr) ∧ d.size = d0.size ∧ Hid (∀ y, d[y]! = rotF x m (m + 1) (fun y => dk[y]!) y) ∧ Hid (PermIn a (m + 1) dk d)) (fun v _ => (intOf v).toNat)
      case atStart => exact ⟨m, dk, rfl, hjb, Nat.le_refl _, HS, hs, fun y => (rot_none m _ _ y).symm, permIn_refl _ _ _⟩
      case round =>
        rename_i wq
        clear HS
        obtain ⟨x, d, rfl, hax, hxi, HS, hds, HF, HP⟩ := hrel
        by_cases hp : i < x
        · obtain ⟨y, rfl⟩ : ∃ y, x = y + 1 := ⟨x - 1, by omega⟩
          have hpz : (i : Int) < (y : Int) + 1 := by omega
          have sa := swp_get d (i := y + 1) (j := y) (by omega) (by omega)
          have sp : PermIn a (m + 1) d (swp d (y + 1) y) := swp_permIn d a (m + 1) (y + 1) y (by omega) (by omega) (by omega) (by omega) (by omega)
          have HF2 : Hid (∀ z, (swp d (y + 1) y)[z]! = rotF y m (m + 1) (fun y => dk[y]!) z) := by
            intro z
            rw [sa z, HF.out, HF.out, HF.out]
            exact shift_down m y (by omega) _ z
          have HP2 : Hid (PermIn a (m + 1) dk (swp d (y + 1) y)) := permIn_trans _ _ _ _ _ HP.out sp
          clear sa sp
          obtain ⟨xa, hxa⟩ : ∃ z, d[y + 1]! = z := ⟨_, rfl⟩
          obtain ⟨xb, hxb⟩ : ∃ z, d[y]! = z := ⟨_, rfl⟩
          have la := HS.out.ld1 HR.out hds P (y + 1) (by omega)
          have lb := HS.out.ld1 HR.out hds P y (by omega)
          have s1 := HS.out.st1 HR.out hds P (y + 1) (by omega) (d[y]!)
          have s2 := HS.out.st2 HR.out hds P (y + 1) y (by omega) (by omega) (d[y]!) (d[y + 1]!)
          have sw := HS.out.swapped HR.out (y + 1) y (by omega) (by omega)
          have kA : (enc (d[y + 1]!)).length = k := HR.out.hk _
          have kB : (enc (d[y]!)).length = k := HR.out.hk _
          rw [hxa] at la s2 sw kA
          rw [hxb] at lb s1 s2 sw kB
          clear hxa hxb
          obtain ⟨cA, hcA⟩ : ∃ c, enc xa = c := ⟨_, rfl⟩
          obtain ⟨cB, hcB⟩ : ∃ c, enc xb = c := ⟨_, rfl⟩
          rw [hcA] at la s2 sw kA
          rw [hcB] at lb s1 s2 sw kB
          clear hcA hcB
          have SW := Lib.hid sw; clear sw
          have e1 : IntKind.i64.wrap (y : Int) = (y : Int) := IntWalk.i64_in _ (by omega)
          have p1 : (0 : Int) ≤ (y : Int) + 1 := by omega
          have q1 : ((y : Int) + 1).toNat = y + 1 := by omega
          have r1 : (y : Int) + 1 < (d0.size : Int) := by omega
          have r2 : (y : Int) < (d0.size : Int) := by omega
          go_wp2_with fail
          go_big_region_o
          all_goals go_wp2
          go_roundw
          case rel => exact ⟨y, _, by go_num, by omega, by omega, SW, by rw [swp_size]; exact hds, HF2, HP2⟩
          case measure => simp [intOf]
        · have hpz : (x : Int) ≤ (i : Int) := by omega
          obtain rfl : x = i := by omega
          have hfin := FIN.out d HF.out
          have HFN := Lib.hid hfin; clear hfin
          clear HF FIN
          go_wp2
          (try simp only [Exit.inBlock, Exit.then])
          refine bodyPost_ret (results_none rfl _ _ _) rfl ?_
          exact ⟨rfl, d, HS.out, hds, HP.out, HFN.out⟩
end
end Go.Proofs.YtjbjcfnbgcloiaaDoor

/- The library's stable sort over rows of k cells: the symmetric merge. -/
namespace Go.Proofs.YtjbjcfnbgcloiaaDoor
open Go.Shelf Go.RowKit Go.Lib Go.Sort Srt

section
variable {P : Program} {k : Nat} {α : Type} [Inhabited α] {enc : α → List Value} {w0 : World} {blk off : Nat} {d0 : Array α}

set_option maxHeartbeats 8000000 in
set_option maxRecDepth 100000 in
theorem merge_is (L : Stb P k) (R : RowK enc k w0 blk off d0) (cf : α → α → Int) (g : Nat) (cb : Array Value) (eg : ∀ args w, (callFunc g args).run P w = .ok (.enter g args) w) (hC : CmpLays P g cb enc k cf blk off d0.size w0) (hS : SWO (ltOf cf))
    (hsz : d0.size < 2305843009213693952) (cap : Nat) : ∀ (N a m b : Nat) (dk : Array α) (W : World), b - a ≤ N → SWK enc k w0 blk off dk W → dk.size = d0.size → a < m → m < b → b ≤ d0.size → SortedIn (ltOf cf) a m dk → SortedIn (ltOf cf) m b dk →
    Calls P 100 #[.slice (some ⟨blk, off, none⟩) d0.size cap, .int .i64 a, .int .i64 m, .int .i64 b, .func (.func g) #[] cb] W fun e w' => e = .returned (.tuple #[]) ∧
      ∃ d' : Array α, SWK enc k w0 blk off d' w' ∧ d'.size = d0.size ∧ PermIn a b dk d' ∧ SortedIn (ltOf cf) a b d' := by
  intro N
  induction N with
  | zero => intro a m b dk W hN _ _ ham hmb _ _ _; omega
  | succ N ih =>
  intro a m b dk W hN h hs ham hmb hb h1 h2
  by_cases c1 : m = a + 1
  · subst c1
    have := merge1_is L R cf g cb eg hC hS h hs (by omega) cap a b hmb hb h2
    simpa using this
  by_cases c2 : b = m + 1
  · subst c2
    have := merge2_is L R cf g cb eg hC hS h hs (by omega) cap a m (by omega) hb h1
    simpa using this
  have mixed := L.mixed; have t0 := L.t0; have a0 := L.a0; have z0 := L.z0; have v0 := L.v0; have t3 := L.t3; have a3 := L.a3; have z3 := L.z3; have v3 := L.v3; have t4 := L.t4; have a4 := L.a4; have z4 := L.z4; have v4 := L.v4; have t41 := L.t41; have a41 := L.a41; have z41 := L.z41; have v41 := L.v41; have t75 := L.t75; have a75 := L.a75; have z75 := L.z75; have v75 := L.v75; have t68 := L.t68; have a68 := L.a68; have z68 := L.z68; have v68 := L.v68; have aE := L.aE; have zE := L.zE; have u41 := run_underlying L.t41
  have eR : ∀ args w, (callFunc 102 args).run P w = .ok (.enter 102 args) w := enters_of L.fR (by kernel_rfl) rfl
  have eM : ∀ args w, (callFunc 100 args).run P w = .ok (.enter 100 args) w := enters_of L.fM (by kernel_rfl) rfl
  have HL := Lib.hid L
  have HR := Lib.hid R; clear R
  have HS0 := Lib.hid h; clear h
  have HC := Lib.hid hC; clear hC
  have H1 := Lib.hid h1; clear h1
  have H2 := Lib.hid h2; clear h2
  have HSW := Lib.hid hS; clear hS
  have IH := Lib.hid ih; clear ih
  obtain ⟨mid, hmid⟩ : ∃ mid, mid = (a + b) / 2 := ⟨_, rfl⟩
  obtain ⟨s0, hs0⟩ : ∃ s0, s0 = if mid < m then mid + m - b else a := ⟨_, rfl⟩
  obtain ⟨r0, hr0⟩ : ∃ r0, r0 = if mid < m then mid else m := ⟨_, rfl⟩
  have b0 : a ≤ s0 ∧ s0 ≤ r0 ∧ r0 ≤ m ∧ r0 ≤ mid ∧ mid + m - s0 ≤ b ∧ m < mid + m - r0 + 1 := by
    rw [hs0, hr0]
    split <;> omega
  obtain ⟨b1, b2, b3, b4, b5, b6⟩ := b0
  have hma : a < mid := by omega
  have hmb' : mid < b := by omega
  have HH : ∀ (s : Nat) (d1 : Array α), s0 ≤ s → s ≤ r0 → (∀ x, s0 ≤ x → x < s → ltOf cf dk[mid + m - 1 - x]! dk[x]! = false) → (∀ x, s ≤ x → x < r0 → ltOf cf dk[mid + m - 1 - x]! dk[x]! = true) →
      (∀ x, d1[x]! = rotF s m (mid + m - s) (fun y => dk[y]!) x) → _ := fun s d1 q1 q2 q3 q4 q5 => rot_halves HSW.out a m b mid s s0 r0 dk d1 ham hmb hmid hs0 hr0 q1 q2 H1.out H2.out q3 q4 q5
  have HRH := Lib.hid HH; clear HH
  have MONO : Hid (∀ x y, s0 ≤ x → x ≤ y → y < r0 → (ltOf cf dk[mid + m - 1 - y]! dk[y]! = false → ltOf cf dk[mid + m - 1 - x]! dk[x]! = false) ∧ (ltOf cf dk[mid + m - 1 - x]! dk[x]! = true → ltOf cf dk[mid + m - 1 - y]! dk[y]! = true)) := by
    intro x y hx hxy hy
    by_cases e : x = y
    · subst e; exact ⟨id, id⟩
    have u1 : ltOf cf dk[y]! dk[x]! = false := H1.out x y (by omega) (by omega) (by omega)
    have u2 : ltOf cf dk[mid + m - 1 - x]! dk[mid + m - 1 - y]! = false := H2.out _ _ (by omega) (by omega) (by omega)
    refine ⟨fun h => ?_, fun h => ?_⟩
    · exact HSW.out.ntrans _ _ _ (HSW.out.ntrans _ _ _ u2 h) u1
    · exact lt_of_le_lt HSW.out u2 (lt_of_lt_le HSW.out h u1)
  have g1 : IntKind.i64.wrap ((a : Int) + (b : Int)) = (a : Int) + (b : Int) := IntWalk.i64_in _ (by omega)
  have g2 : IntKind.u64.wrap ((a : Int) + (b : Int)) = (a : Int) + (b : Int) := IntWalk.u64_in _ (by omega)
  have g3 : ((a : Int) + (b : Int)) / 2 = (mid : Int) := by omega
  have g4 : IntKind.i64.wrap (mid : Int) = (mid : Int) := IntWalk.i64_in _ (by omega)
  have g5 : IntKind.u64.wrap (mid : Int) = (mid : Int) := IntWalk.u64_in _ (by omega)
  have g6 : IntKind.i64.wrap ((mid : Int) + (m : Int)) = (mid : Int) + (m : Int) := IntWalk.i64_in _ (by omega)
  have g7 : IntKind.i64.wrap ((m : Int) - (a : Int)) = (m : Int) - (a : Int) := IntWalk.i64_in _ (by omega)
  have g8 : ((m : Int) - (a : Int) == 1) = false := by rw [beq_eq_false_iff_ne]; omega
  have g9 : IntKind.i64.wrap ((b : Int) - (m : Int)) = (b : Int) - (m : Int) := IntWalk.i64_in _ (by omega)
  have g10 : ((b : Int) - (m : Int) == 1) = false := by rw [beq_eq_false_iff_ne]; omega
  have g11 : IntKind.i64.wrap ((mid : Int) + (m : Int) - 1) = (mid : Int) + (m : Int) - 1 := IntWalk.i64_in _ (by omega)
  have g12 : IntKind.i64.wrap ((mid : Int) + (m : Int) - (b : Int)) = (mid : Int) + (m : Int) - (b : Int) := IntWalk.i64_in _ (by omega)
  have E1 : Hid (mid < m → (mid : Int) + (m : Int) - (b : Int) = (s0 : Int) ∧ (mid : Int) = (r0 : Int)) := fun q => by
    rw [hs0, hr0, if_pos q, if_pos q]; omega
  have E2 : Hid (¬ mid < m → (a : Int) = (s0 : Int) ∧ (m : Int) = (r0 : Int)) := fun q => by
    rw [hs0, hr0, if_neg q, if_neg q]; exact ⟨rfl, rfl⟩
  have HMID := Lib.hid hmid; clear hmid
  have Hs0 := Lib.hid hs0; clear hs0
  have Hr0 := Lib.hid hr0; clear hr0
  go_enter L.fM, Tryd.ntmps100
  clear L
  go_upto_if 140 with (fail)
  go_cut [20, 21] from 25 to 219 (fun v1 v2 wx => v1 = .int .i64 (s0 : Int) ∧ v2 = .int .i64 (r0 : Int) ∧ wx = W)
  case first =>
    as_aux_lemma =>
      by_cases q : mid < m
      · have qz : (mid : Int) < (m : Int) := by omega
        obtain ⟨q1, q2⟩ := E1.out q
        have Q1 := Lib.hid q1; clear q1
        have Q2 := Lib.hid q2; clear q2
        go_wp2_with fail
        go_meet
        case rel => exact ⟨congrArg (Value.int .i64) Q1.out, congrArg (Value.int .i64) Q2.out, rfl⟩
      · have qz : (m : Int) ≤ (mid : Int) := by omega
        obtain ⟨q1, q2⟩ := E2.out q
        have Q1 := Lib.hid q1; clear q1
        have Q2 := Lib.hid q2; clear q2
        go_wp2_with fail
        go_meet
        case rel => exact ⟨congrArg (Value.int .i64) Q1.out, congrArg (Value.int .i64) Q2.out, rfl⟩
  case rest =>
  obtain ⟨rfl, rfl, rfl⟩ := hcut
  clear g1 g2 g3 g4 g5 g6 g7 g8 g9 g10 g12 E1 E2
  go_wp2_with fail
  go_loopw [20, 21] (fun v1 v2 wr => ∃ (s r : Nat), v1 = .int .i64 s ∧ v2 = .int .i64 r ∧ s0 ≤ s ∧ s ≤ r ∧ r ≤ r0 ∧ Hid (SWK enc k w0 blk off dk wr) ∧
      Hid (∀ x, s0 ≤ x → x < s → ltOf cf dk[mid + m - 1 - x]! dk[x]! = false) ∧ Hid (∀ x, r ≤ x → x < r0 → ltOf cf dk[mid + m - 1 - x]! dk[x]! = true)) (fun v1 v2 _ => (intOf v2).toNat - (intOf v1).toNat)
  case atStart => exact ⟨s0, r0, rfl, rfl, Nat.le_refl _, b2, Nat.le_refl _, HS0, fun x h1 h2 => by omega, fun x h1 h2 => by omega⟩
  case round =>
    rename_i wr
    obtain ⟨s, r, rfl, rfl, hs1, hsr, hr1, HS, HLo, HHi⟩ := hrel
    clear HS0
    by_cases hlt : s < r
    · as_aux_lemma =>
        have hltz : (s : Int) < (r : Int) := by omega
        obtain ⟨c, hc⟩ : ∃ c, (s + r) / 2 = c := ⟨_, rfl⟩
        have hci : s ≤ c := by omega
        have hcj : c < r := by omega
        obtain ⟨pc, hpc⟩ : ∃ pc, mid + m - 1 - c = pc := ⟨_, rfl⟩
        have hpc1 : pc < b := by omega
        have g1 : IntKind.i64.wrap ((s : Int) + (r : Int)) = (s : Int) + (r : Int) := IntWalk.i64_in _ (by omega)
        have g2 : IntKind.u64.wrap ((s : Int) + (r : Int)) = (s : Int) + (r : Int) := IntWalk.u64_in _ (by omega)
        have g3 : ((s : Int) + (r : Int)) / 2 = (c : Int) := by omega
        have g4 : IntKind.i64.wrap (c : Int) = (c : Int) := IntWalk.i64_in _ (by omega)
        have g5 : IntKind.u64.wrap (c : Int) = (c : Int) := IntWalk.u64_in _ (by omega)
        have g6 : IntKind.i64.wrap ((c : Int) + 1) = (c : Int) + 1 := IntWalk.i64_in _ (by omega)
        have g7 : IntKind.i64.wrap ((mid : Int) + (m : Int) - 1 - (c : Int)) = (pc : Int) := by rw [IntWalk.i64_in _ (by omega)]; omega
        have r1 : (c : Int) < (d0.size : Int) := by omega
        have r2 : (pc : Int) < (d0.size : Int) := by omega
        obtain ⟨xc, hxc⟩ : ∃ x, dk[c]! = x := ⟨_, rfl⟩
        obtain ⟨xa, hxa⟩ : ∃ x, dk[pc]! = x := ⟨_, rfl⟩
        have lc : ∀ n os, Sem.run P (loadCellsFrom ⟨blk, off + c * k, none⟩ 0 k #[]) (grow (wr.drewN n) os) = .ok (enc xc).toArray (grow (wr.drewN n) os) := fun n os => by rw [← hxc]; exact HS.out.ld HR.out hs P c (by omega) n os
        have la : ∀ n os, Sem.run P (loadCellsFrom ⟨blk, off + pc * k, none⟩ 0 k #[]) (grow (wr.drewN n) os) = .ok (enc xa).toArray (grow (wr.drewN n) os) := fun n os => by rw [← hxa]; exact HS.out.ld HR.out hs P pc (by omega) n os
        have hcg : ∀ n' os', Calls P g (#[.agg (enc xa).toArray, .agg (enc xc).toArray] ++ cb) (grow (wr.drewN n') os') fun e w' => e = .returned (.int .i64 (cf xa xc)) ∧ ∃ q os'', w' = grow ((grow (wr.drewN n') os').drewN q) os'' := fun n' os' => HS.out.cmp HC.out hs xa xc n' os'
        have GR : Hid (∀ n os, SWK enc k w0 blk off dk (grow (wr.drewN n) os)) := fun n os => HS.out.grown n os
        have HC2 := Lib.hid hc; clear hc
        have HPC := Lib.hid hpc; clear hpc
        have HXC := Lib.hid hxc; clear hxc
        have HXA := Lib.hid hxa; clear hxa
        by_cases hlv : cf xa xc < 0
        · have HN : Hid (∀ x, c ≤ x → x < r0 → ltOf cf dk[mid + m - 1 - x]! dk[x]! = true) := by
            intro x h1 h2
            have q : ltOf cf dk[mid + m - 1 - c]! dk[c]! = true := by rw [HPC.out, HXC.out, HXA.out]; exact decide_eq_true hlv
            exact (MONO.out c x (by omega) h1 h2).2 q
          have hbn : (!decide (cf xa xc < 0)) = false := by rw [decide_eq_true hlv]; rfl
          go_wp2_with fail
          go_quiet_grown (first | (go_at_fn g; refine Calls.grown_of (hcg _ _)))
          clear lc la hcg
          go_wp2
          go_roundw
          case rel => exact ⟨s, c, rfl, rfl, by omega, by omega, by omega, GR.out _ _, HLo, HN⟩
          case measure => simp [intOf]; omega
        · have HN : Hid (∀ x, s0 ≤ x → x < c + 1 → ltOf cf dk[mid + m - 1 - x]! dk[x]! = false) := by
            intro x h1 h2
            have q : ltOf cf dk[mid + m - 1 - c]! dk[c]! = false := by rw [HPC.out, HXC.out, HXA.out]; exact decide_eq_false hlv
            exact (MONO.out x c h1 (by omega) (by omega)).1 q
          have hbn : (!decide (cf xa xc < 0)) = true := by rw [decide_eq_false hlv]; rfl
          go_wp2_with fail
          go_quiet_grown (first | (go_at_fn g; refine Calls.grown_of (hcg _ _)))
          clear lc la hcg
          go_wp2
          go_roundw
          case rel => exact ⟨c + 1, r, by go_num, rfl, by omega, by omega, by omega, GR.out _ _, HN, HHi⟩
          case measure => simp [intOf]; omega
    · obtain rfl : s = r := by omega
      have nlt : ¬ ((s : Int) < (s : Int)) := by omega
      obtain ⟨e, he⟩ : ∃ e, mid + m - s = e := ⟨_, rfl⟩
      have hme : m ≤ e := by omega
      have heb : e ≤ b := by omega
      have hmide : mid ≤ e := by omega
      have hsm : s ≤ m := by omega
      have hsmid : s ≤ mid := by omega
      have has : a ≤ s := by omega
      have g7 : IntKind.i64.wrap ((mid : Int) + (m : Int) - (s : Int)) = (e : Int) := by rw [IntWalk.i64_in _ (by omega)]; omega
      have FIN : Hid (∀ d1 : Array α, (∀ x, d1[x]! = rotF s m e (fun y => dk[y]!) x) → SortedIn (ltOf cf) a s d1 ∧ SortedIn (ltOf cf) s mid d1 ∧ SortedIn (ltOf cf) mid e d1 ∧ SortedIn (ltOf cf) e b d1 ∧ (∀ i j, a ≤ i → i < mid → mid ≤ j → j < b → ltOf cf d1[j]! d1[i]! = false)) := by
        intro d1 hd1
        have := HRH.out s d1 hs1 hr1 HLo.out HHi.out (by rw [he]; exact hd1)
        rw [he] at this
        exact this.2.2.2.2.2
      have HE := Lib.hid he; clear he
      clear HLo HHi MONO
      go_upto_region 39 with (fail)
      go_cut [185] from 25 to 219 (fun v wx => v = .bool (decide (s < m) && decide (m < e)) ∧ wx = wr)
      case first =>
        as_aux_lemma =>
          by_cases q1 : s < m
          · have z1 : (s : Int) < (m : Int) := by omega
            by_cases q2 : m < e
            · have z2 : (m : Int) < (e : Int) := by omega
              go_wp2_with fail
              go_meet
              case rel => exact ⟨by rw [decide_eq_true q1, decide_eq_true q2]; rfl, rfl⟩
            · have z2 : (e : Int) ≤ (m : Int) := by omega
              go_wp2_with fail
              go_meet
              case rel => exact ⟨by rw [decide_eq_true q1, decide_eq_false q2]; rfl, rfl⟩
          · have z1 : (m : Int) ≤ (s : Int) := by omega
            go_wp2_with fail
            go_meet
            case rel => exact ⟨by rw [decide_eq_false q1]; rfl, rfl⟩
      case rest =>
      obtain ⟨rfl, rfl⟩ := hcut
      go_upto_if 185 with (fail)
      go_cut [] from 25 to 219 (fun wx => ∃ d1 : Array α, Hid (SWK enc k w0 blk off d1 wx) ∧ d1.size = d0.size ∧ Hid (∀ x, d1[x]! = rotF s m e (fun y => dk[y]!) x) ∧ Hid (PermIn a b dk d1))
      case first =>
        as_aux_lemma =>
          by_cases q : s < m ∧ m < e
          · have qz1 : (s : Int) < (m : Int) := by omega
            have qz2 : (m : Int) < (e : Int) := by omega
            have qb : (decide (s < m) && decide (m < e)) = true := by rw [decide_eq_true q.1, decide_eq_true q.2]; rfl
            have C := Lib.hid (rotate_is HL.out HR.out HS.out hs (by omega) cap s m e g cb q.1 q.2 (by omega))
            go_wp2_with (go_at_fn 102; refine C.out.mono ?_; rintro e w' ⟨rfl, d1, hS1, hz1, hf1, hp1⟩)
            go_meet
            case rel => exact ⟨d1, hS1, hz1, hf1, permIn_mono _ _ _ _ _ _ has heb (by omega) hp1⟩
          · have hrot : Hid (∀ x, dk[x]! = rotF s m e (fun y => dk[y]!) x) := by
              intro x
              by_cases q1 : s = m
              · rw [q1, rot_none]
              · have q2 : e = m := by omega
                rw [q2, rot_none']
            have qb : (decide (s < m) && decide (m < e)) = false := by rw [Bool.and_eq_false_iff]; simp only [decide_eq_false_iff_not]; omega
            go_wp2_with fail
            all_goals first
              | (exfalso; omega)
              | (go_meet
                 case rel => exact ⟨dk, HS, hs, hrot, permIn_refl _ _ _⟩)
      case rest =>
      clear HS
      obtain ⟨d1, HS1, hz1, HF1, HP1⟩ := hcut
      obtain ⟨k1, k2, k3, k4, k5⟩ := FIN.out d1 HF1.out
      have K1 := Lib.hid k1; clear k1
      have K2 := Lib.hid k2; clear k2
      have K3 := Lib.hid k3; clear k3
      have K4 := Lib.hid k4; clear k4
      have K5 := Lib.hid k5; clear k5
      clear FIN HF1
      go_upto_region 41 with (fail)
      go_cut [199] from 25 to 219 (fun v wx => v = .bool (decide (a < s) && decide (s < mid)) ∧ wx = wc)
      case first =>
        as_aux_lemma =>
          by_cases q1 : a < s
          · have z1 : (a : Int) < (s : Int) := by omega
            by_cases q2 : s < mid
            · have z2 : (s : Int) < (mid : Int) := by omega
              go_wp2_with fail
              go_meet
              case rel => exact ⟨by rw [decide_eq_true q1, decide_eq_true q2]; rfl, rfl⟩
            · have z2 : (mid : Int) ≤ (s : Int) := by omega
              go_wp2_with fail
              go_meet
              case rel => exact ⟨by rw [decide_eq_true q1, decide_eq_false q2]; rfl, rfl⟩
          · have z1 : (s : Int) ≤ (a : Int) := by omega
            go_wp2_with fail
            go_meet
            case rel => exact ⟨by rw [decide_eq_false q1]; rfl, rfl⟩
      case rest =>
      obtain ⟨rfl, rfl⟩ := hcut
      go_upto_if 199 with (fail)
      go_cut [] from 25 to 219 (fun wx => ∃ d2 : Array α, Hid (SWK enc k w0 blk off d2 wx) ∧ d2.size = d0.size ∧ Hid (PermIn a mid d1 d2) ∧ Hid (SortedIn (ltOf cf) a mid d2))
      case first =>
        as_aux_lemma =>
          by_cases q : a < s ∧ s < mid
          · have qz1 : (a : Int) < (s : Int) := by omega
            have qz2 : (s : Int) < (mid : Int) := by omega
            have qb : (decide (a < s) && decide (s < mid)) = true := by rw [decide_eq_true q.1, decide_eq_true q.2]; rfl
            have C := Lib.hid (IH.out a s mid d1 _ (by omega) HS1.out hz1 q.1 q.2 (by omega) K1.out K2.out)
            go_wp2_with (go_at_fn 100; refine C.out.mono ?_; rintro e w' ⟨rfl, d2, hS2, hz2, hp2, hs2⟩)
            go_meet
            case rel => exact ⟨d2, hS2, hz2, hp2, hs2⟩
          · have hsrt : Hid (SortedIn (ltOf cf) a mid d1) := by
              show SortedIn _ _ _ _
              by_cases q1 : a = s
              · rw [q1]; exact K2.out
              · have q2 : s = mid := by omega
                rw [← q2]; exact K1.out
            have qb : (decide (a < s) && decide (s < mid)) = false := by rw [Bool.and_eq_false_iff]; simp only [decide_eq_false_iff_not]; omega
            go_wp2_with fail
            all_goals first
              | (exfalso; omega)
              | (go_meet
                 case rel => exact ⟨d1, HS1, hz1, permIn_refl _ _ _, hsrt⟩)
      case rest =>
      clear HS1
      obtain ⟨d2, HS2, hz2, HP2, HD2⟩ := hcut
      have K3' : Hid (SortedIn (ltOf cf) mid e d2) := fun i j h1 h2 h3 => by
        rw [HP2.out.2.1 i (.inr h1), HP2.out.2.1 j (.inr (by omega))]; exact K3.out i j h1 h2 h3
      have K4' : Hid (SortedIn (ltOf cf) e b d2) := fun i j h1 h2 h3 => by
        rw [HP2.out.2.1 i (.inr (by omega)), HP2.out.2.1 j (.inr (by omega))]; exact K4.out i j h1 h2 h3
      have FIN2 : Hid (∀ d3 : Array α, PermIn mid b d2 d3 → SortedIn (ltOf cf) mid b d3 → PermIn a b dk d3 ∧ SortedIn (ltOf cf) a b d3) := by
        intro d3 p3 s3
        have := merge_halves a mid b d1 d2 d3 (by omega) (by omega) (by omega) K5.out HP2.out HD2.out p3 s3
        exact ⟨permIn_trans _ _ _ _ _ HP1.out this.1, this.2⟩
      clear K1 K2 K3 K4 K5
      by_cases q : mid < e ∧ e < b
      · as_aux_lemma =>
          have qz1 : (mid : Int) < (e : Int) := by omega
          have qz2 : (e : Int) < (b : Int) := by omega
          have C := Lib.hid (IH.out mid e b d2 _ (by omega) HS2.out hz2 q.1 q.2 hb K3'.out K4'.out)
          go_wp2_with (go_at_fn 100; refine C.out.mono ?_; rintro e w' ⟨rfl, d3, hS3, hz3, hp3, hs3⟩)
          go_end0
          exact ⟨rfl, d3, hS3, hz3, FIN2.out d3 hp3 hs3⟩
      · have hsrt : Hid (SortedIn (ltOf cf) mid b d2) := by
          show SortedIn _ _ _ _
          by_cases q1 : mid = e
          · rw [q1]; exact K4'.out
          · have q2 : e = b := by omega
            rw [← q2]; exact K3'.out
        go_wp2_with fail
        all_goals first
          | (exfalso; omega)
          | (go_end0
             exact ⟨rfl, d2, HS2.out, hz2, FIN2.out d2 (permIn_refl _ _ _) hsrt.out⟩)
end
end Go.Proofs.YtjbjcfnbgcloiaaDoor

/- The stable sort's blocks: plain laws. -/
namespace Go.Proofs.YtjbjcfnbgcloiaaDoor.Srt
open Go.Sort
variable {α : Type} [Inhabited α] {lt : α → α → Bool}

/-- The runs of s places below hi are sorted. -/
def RunsTo (lt : α → α → Bool) (s hi : Nat) (d : Array α) : Prop := ∀ q, q * s + s ≤ hi → SortedIn lt (q * s) (q * s + s) d
/-- Those from lo on are, the last one as long as there is room. -/
def Runs (lt : α → α → Bool) (s n lo : Nat) (d : Array α) : Prop := ∀ q, lo ≤ q * s → SortedIn lt (q * s) (min (q * s + s) n) d

theorem sorted_kept {a b x y : Nat} {d d' : Array α} (h : SortedIn lt x y d) (hp : PermIn a b d d') (ha : y ≤ a ∨ b ≤ x) : SortedIn lt x y d' := by
  intro i j hi hij hj
  rw [hp.2.1 i (by omega), hp.2.1 j (by omega)]
  exact h i j hi hij hj

theorem mul_cases (s : Nat) (q j : Nat) : q * s + s ≤ j * s ∨ q = j ∨ j * s + s ≤ q * s := by
  rcases Nat.lt_trichotomy q j with h | h | h
  · left
    have := Nat.mul_le_mul_right s h
    rwa [Nat.succ_mul] at this
  · exact .inr (.inl h)
  · right; right
    have := Nat.mul_le_mul_right s h
    rwa [Nat.succ_mul] at this

theorem runsTo_zero (s : Nat) (hs : 0 < s) (d : Array α) : RunsTo lt s 0 d := fun q h => by omega

theorem runsTo_step {s j : Nat} {d d' : Array α} (hs : 0 < s) (h : RunsTo lt s (j * s) d) (hp : PermIn (j * s) (j * s + s) d d') (hd : SortedIn lt (j * s) (j * s + s) d') : RunsTo lt s (j * s + s) d' := by
  intro q hq
  rcases mul_cases s q j with c | c | c
  · exact sorted_kept (h q c) hp (.inl c)
  · subst c; exact hd
  · exfalso; omega

theorem runs_of {s j n : Nat} {d d' : Array α} (h : RunsTo lt s (j * s) d) (hn : j * s ≤ n) (hn2 : n < j * s + s) (hp : PermIn (j * s) n d d') (hd : SortedIn lt (j * s) n d') : Runs lt s n 0 d' := by
  intro q _
  rcases mul_cases s q j with c | c | c
  · rw [Nat.min_eq_left (by omega)]
    exact sorted_kept (h q c) hp (.inl c)
  · subst c
    rw [Nat.min_eq_right (by omega)]
    exact hd
  · intro x y hx hxy hy
    exfalso
    have : min (q * s + s) n ≤ n := Nat.min_le_right _ _
    omega

theorem two_mul_run (s j : Nat) : j * (2 * s) = 2 * j * s := by rw [← Nat.mul_assoc, Nat.mul_comm j 2]
theorem two_mul_run' (s j : Nat) : j * (2 * s) + s = (2 * j + 1) * s := by rw [two_mul_run, Nat.add_mul (2 * j) 1 s, Nat.one_mul]

theorem runs_left {s j n : Nat} {d : Array α} (h : Runs lt s n (j * (2 * s)) d) (hn : j * (2 * s) + s ≤ n) : SortedIn lt (j * (2 * s)) (j * (2 * s) + s) d := by
  have := h (2 * j) (by rw [two_mul_run]; exact Nat.le_refl _)
  rw [← two_mul_run, Nat.min_eq_left hn] at this
  exact this
theorem runs_right {s j n : Nat} {d : Array α} (h : Runs lt s n (j * (2 * s)) d) : SortedIn lt (j * (2 * s) + s) (min (j * (2 * s) + s + s) n) d := by
  have := h (2 * j + 1) (by rw [← two_mul_run']; omega)
  rw [← two_mul_run'] at this
  exact this
theorem runs_last {s j n : Nat} {d : Array α} (h : Runs lt s n (j * (2 * s)) d) (hn : n ≤ j * (2 * s) + s) : SortedIn lt (j * (2 * s)) n d := by
  have := h (2 * j) (by rw [two_mul_run]; exact Nat.le_refl _)
  rw [← two_mul_run, Nat.min_eq_right hn] at this
  exact this
theorem runs_rest {s lo hi n b : Nat} {d d' : Array α} (h : Runs lt s n lo d) (hl : lo ≤ hi) (hp : PermIn b hi d d') : Runs lt s n hi d' := by
  intro q hq
  exact sorted_kept (h q (by omega)) hp (.inr hq)
theorem runs_end {s n : Nat} {d : Array α} (h : Runs lt s n 0 d) (hn : n ≤ s) : SortedIn lt 0 n d := by
  have := h 0 (Nat.zero_le _)
  rw [Nat.zero_mul, Nat.zero_add, Nat.min_eq_right hn] at this
  exact this
theorem runs_mono {s n lo : Nat} {d : Array α} (h : Runs lt s n 0 d) : Runs lt s n lo d := fun q _ => h q (Nat.zero_le _)
end Go.Proofs.YtjbjcfnbgcloiaaDoor.Srt

/- The library's stable sort over rows of k cells: blocks of twenty, then merges. -/
namespace Go.Proofs.YtjbjcfnbgcloiaaDoor
open Go.Shelf Go.RowKit Go.Lib Go.Sort Srt

section
variable {P : Program} {k : Nat} {α : Type} [Inhabited α] {enc : α → List Value} {w0 W : World} {blk off : Nat} {d0 dk : Array α}

set_option maxHeartbeats 8000000 in
set_option maxRecDepth 100000 in
theorem stable_is (L : Stb P k) (R : RowK enc k w0 blk off d0) (cf : α → α → Int) (g : Nat) (cb : Array Value) (eg : ∀ args w, (callFunc g args).run P w = .ok (.enter g args) w) (hC : CmpLays P g cb enc k cf blk off d0.size w0) (hS : SWO (ltOf cf))
    (hsz : d0.size < 1152921504606846976) (cap : Nat) (eI : ∀ args w, (callFunc 99 args).run P w = .ok (.enter 99 args) w)
    (hI : ∀ (a b : Nat) (d : Array α) (W : World), SWK enc k w0 blk off d W → d.size = d0.size → a ≤ b → b ≤ d0.size → Calls P 99 #[.slice (some ⟨blk, off, none⟩) d0.size cap, .int .i64 a, .int .i64 b, .func (.func g) #[] cb] W fun e w' => e = .returned (.tuple #[]) ∧
      ∃ d' : Array α, SWK enc k w0 blk off d' w' ∧ d'.size = d0.size ∧ PermIn a b d d' ∧ SortedIn (ltOf cf) a b d')
    (h : SWK enc k w0 blk off dk W) (hs : dk.size = d0.size) :
    Calls P 90 #[.slice (some ⟨blk, off, none⟩) d0.size cap, .int .i64 d0.size, .func (.func g) #[] cb] W fun e w' => e = .returned (.tuple #[]) ∧
      ∃ d' : Array α, SWK enc k w0 blk off d' w' ∧ d'.size = d0.size ∧ PermIn 0 d0.size dk d' ∧ SortedIn (ltOf cf) 0 d0.size d' := by
  have mixed := L.mixed; have t0 := L.t0; have a0 := L.a0; have z0 := L.z0; have v0 := L.v0; have t3 := L.t3; have a3 := L.a3; have z3 := L.z3; have v3 := L.v3; have t4 := L.t4; have a4 := L.a4; have z4 := L.z4; have v4 := L.v4; have t41 := L.t41; have a41 := L.a41; have z41 := L.z41; have v41 := L.v41; have t75 := L.t75; have a75 := L.a75; have z75 := L.z75; have v75 := L.v75; have t68 := L.t68; have a68 := L.a68; have z68 := L.z68; have v68 := L.v68; have aE := L.aE; have zE := L.zE; have u41 := run_underlying L.t41
  have eM : ∀ args w, (callFunc 100 args).run P w = .ok (.enter 100 args) w := enters_of L.fM (by kernel_rfl) rfl
  have HI := Lib.hid hI; clear hI
  have HM : Hid (∀ (a m b : Nat) (d : Array α) (W : World), SWK enc k w0 blk off d W → d.size = d0.size → a < m → m < b → b ≤ d0.size → SortedIn (ltOf cf) a m d → SortedIn (ltOf cf) m b d →
    Calls P 100 #[.slice (some ⟨blk, off, none⟩) d0.size cap, .int .i64 a, .int .i64 m, .int .i64 b, .func (.func g) #[] cb] W fun e w' => e = .returned (.tuple #[]) ∧
      ∃ d' : Array α, SWK enc k w0 blk off d' w' ∧ d'.size = d0.size ∧ PermIn a b d d' ∧ SortedIn (ltOf cf) a b d') := fun a m b d W => merge_is L R cf g cb eg hC hS (by omega) cap (b - a) a m b d W (Nat.le_refl _)
  have HS0 := Lib.hid h; clear h
  clear hC hS R eg
  go_enter L.fT, Tryd.ntmps90
  clear L
  obtain ⟨n, hn⟩ : ∃ n, d0.size = n := ⟨_, rfl⟩
  rw [hn] at hs hsz HI HM ⊢
  clear hn
  go_wp2_with fail
  go_loopw [7, 8] (fun v1 v2 wr => ∃ (j a : Nat) (d : Array α), Hid (a = j * 20) ∧ v1 = .int .i64 (a : Int) ∧ v2 = .int .i64 ((a : Int) + 20) ∧ a ≤ n ∧ Hid (SWK enc k w0 blk off d wr) ∧ d.size = n ∧ Hid (RunsTo (ltOf cf) 20 a d) ∧ Hid (PermIn 0 n dk d)) (fun v1 _ _ => n - (intOf v1).toNat)
  case atStart => exact ⟨0, 0, dk, rfl, rfl, rfl, Nat.zero_le _, HS0, hs, runsTo_zero 20 (by omega) dk, permIn_refl _ _ _⟩
  case round =>
    rename_i wr
    clear HS0
    obtain ⟨j, a, d, HA, rfl, rfl, han, HS, hds, HT, HP⟩ := hrel
    by_cases hp : a + 20 ≤ n
    · as_aux_lemma =>
        have hpz : (a : Int) + 20 ≤ (n : Int) := by omega
        have c := HI.out a (a + 20) d _ HS.out hds (by omega) hp
        rw [show ((a + 20 : Nat) : Int) = (a : Int) + 20 from by omega] at c
        have C := Lib.hid c; clear c
        have e1 : IntKind.i64.wrap ((a : Int) + 20 + 20) = (a : Int) + 20 + 20 := IntWalk.i64_in _ (by omega)
        go_wp2_with (go_at_fn 99; refine C.out.mono ?_; rintro e w' ⟨rfl, d', hS', hz', hp', hd'⟩)
        have HT' : Hid (RunsTo (ltOf cf) 20 (a + 20) d') := by
          show RunsTo _ _ _ _
          have h1 := HT.out
          rw [HA.out] at h1 hp' hd' ⊢
          exact runsTo_step (by omega) h1 hp' hd'
        have HP' : Hid (PermIn 0 n dk d') := permIn_trans _ _ _ _ _ HP.out (permIn_mono _ _ a (a + 20) 0 n (Nat.zero_le _) hp (by omega) hp')
        clear hp' hd'
        go_roundw
        case rel => exact ⟨j + 1, a + 20, d', (show a + 20 = (j + 1) * 20 by rw [HA.out]; omega), by go_num, by go_num, hp, hS', hz', HT', HP'⟩
        case measure => simp [intOf]; omega
    · have hpz : (n : Int) < (a : Int) + 20 := by omega
      have c := HI.out a n d _ HS.out hds han (Nat.le_refl _)
      have C := Lib.hid c; clear c
      go_wp2_with (go_at_fn 99; refine C.out.mono ?_; rintro e w' ⟨rfl, d1, hS1, hz1, hp1, hd1⟩)
      have HR1 : Hid (Runs (ltOf cf) 20 n 0 d1) := by
        show Runs _ _ _ _ _
        have h1 := HT.out
        have h2 := HA.out
        rw [h2] at h1 hp1 hd1
        exact runs_of h1 (by omega) (by omega) hp1 hd1
      have HP1 : Hid (PermIn 0 n dk d1) := permIn_trans _ _ _ _ _ HP.out (permIn_mono _ _ a n 0 n (Nat.zero_le _) (Nat.le_refl _) (by omega) hp1)
      have HS1 := Lib.hid hS1
      clear hp1 hd1 HT HP HS hds hS1 hpz C
      go_loopw [6] (fun v wr => ∃ (s : Nat) (d : Array α), v = .int .i64 (s : Int) ∧ 0 < s ∧ s ≤ 2 * n + 20 ∧ Hid (SWK enc k w0 blk off d wr) ∧ d.size = n ∧ Hid (Runs (ltOf cf) s n 0 d) ∧ Hid (PermIn 0 n dk d)) (fun v _ => n - (intOf v).toNat)
      case atStart => exact ⟨20, d1, rfl, by omega, by omega, HS1, hz1, HR1, HP1⟩
      case round =>
        rename_i wq
        clear HS1 HR1 HP1 hz1
        obtain ⟨s, d2, rfl, hs0, hsn, HS2, hz2, HR2, HP2⟩ := hrel
        by_cases hq : s < n
        · have hqz : (s : Int) < (n : Int) := by omega
          have e1 : IntKind.i64.wrap (2 * (s : Int)) = 2 * (s : Int) := IntWalk.i64_in _ (by omega)
          have e2 : IntKind.i64.wrap ((s : Int) * 2) = (s : Int) * 2 := IntWalk.i64_in _ (by omega)
          go_wp2_with fail
          go_loopw [7, 8] (fun v1 v2 wr => ∃ (j a : Nat) (d : Array α), Hid (a = j * (2 * s)) ∧ v1 = .int .i64 (a : Int) ∧ v2 = .int .i64 ((a : Int) + 2 * (s : Int)) ∧ a ≤ n ∧ Hid (SWK enc k w0 blk off d wr) ∧ d.size = n ∧ Hid (RunsTo (ltOf cf) (2 * s) a d) ∧ Hid (Runs (ltOf cf) s n a d) ∧ Hid (PermIn 0 n dk d)) (fun v1 _ _ => n - (intOf v1).toNat)
          case atStart => exact ⟨0, 0, d2, (by show 0 = 0 * (2 * s); rw [Nat.zero_mul]), rfl, congrArg (Value.int .i64) (by omega), Nat.zero_le _, HS2, hz2, runsTo_zero _ (by omega) d2, runs_mono HR2.out, HP2⟩
          case round =>
            rename_i wi
            clear HS2 HR2 HP2 hz2
            clear d2
            obtain ⟨j, a, d, HA, rfl, rfl, han, HS, hds, HT, HR, HP⟩ := hrel
            have e3 : IntKind.i64.wrap ((a : Int) + (s : Int)) = (a : Int) + (s : Int) := IntWalk.i64_in _ (by omega)
            by_cases hi : a + 2 * s ≤ n
            · as_aux_lemma =>
                have hiz : (a : Int) + 2 * (s : Int) ≤ (n : Int) := by omega
                have q1 : SortedIn (ltOf cf) a (a + s) d := by
                  have h1 := HR.out
                  rw [HA.out] at h1 ⊢
                  exact runs_left h1 (by rw [← HA.out]; omega)
                have q2 : SortedIn (ltOf cf) (a + s) (a + 2 * s) d := by
                  have h1 := HR.out
                  rw [HA.out] at h1
                  have h2 := runs_right h1
                  rw [← HA.out, Nat.min_eq_left (by omega)] at h2
                  rwa [show a + 2 * s = a + s + s by omega]
                have c := HM.out a (a + s) (a + 2 * s) d _ HS.out hds (by omega) (by omega) hi q1 q2
                rw [show ((a + s : Nat) : Int) = (a : Int) + (s : Int) from by omega, show ((a + 2 * s : Nat) : Int) = (a : Int) + 2 * (s : Int) from by omega] at c
                have C := Lib.hid c; clear c q1 q2
                have e4 : IntKind.i64.wrap ((a : Int) + 2 * (s : Int) + 2 * (s : Int)) = (a : Int) + 2 * (s : Int) + 2 * (s : Int) := IntWalk.i64_in _ (by omega)
                go_wp2_with (go_at_fn 100; refine C.out.mono ?_; rintro e w' ⟨rfl, d', hS', hz', hp', hd'⟩)
                have HT' : Hid (RunsTo (ltOf cf) (2 * s) (a + 2 * s) d') := by
                  show RunsTo _ _ _ _
                  have h1 := HT.out
                  rw [HA.out] at h1 hp' hd' ⊢
                  exact runsTo_step (by omega) h1 hp' hd'
                have HR' : Hid (Runs (ltOf cf) s n (a + 2 * s) d') := runs_rest HR.out (by omega) hp'
                have HP' : Hid (PermIn 0 n dk d') := permIn_trans _ _ _ _ _ HP.out (permIn_mono _ _ a (a + 2 * s) 0 n (Nat.zero_le _) hi (by omega) hp')
                clear hp' hd'
                go_roundw
                case rel => exact ⟨j + 1, a + 2 * s, d', (show a + 2 * s = (j + 1) * (2 * s) by rw [HA.out, Nat.add_mul j 1 (2 * s), Nat.one_mul]), congrArg (Value.int .i64) (by omega), congrArg (Value.int .i64) (by omega), hi, hS', hz', HT', HR', HP'⟩
                case measure => simp [intOf]; omega
            · have hiz : (n : Int) < (a : Int) + 2 * (s : Int) := by omega
              by_cases hm : a + s < n
              · as_aux_lemma =>
                  have hmz : (a : Int) + (s : Int) < (n : Int) := by omega
                  have q1 : SortedIn (ltOf cf) a (a + s) d := by
                    have h1 := HR.out
                    rw [HA.out] at h1 ⊢
                    exact runs_left h1 (by rw [← HA.out]; omega)
                  have q2 : SortedIn (ltOf cf) (a + s) n d := by
                    have h1 := HR.out
                    rw [HA.out] at h1
                    have h2 := runs_right h1
                    rwa [← HA.out, Nat.min_eq_right (by omega)] at h2
                  have c := HM.out a (a + s) n d _ HS.out hds (by omega) hm (Nat.le_refl _) q1 q2
                  rw [show ((a + s : Nat) : Int) = (a : Int) + (s : Int) from by omega] at c
                  have C := Lib.hid c; clear c q1 q2
                  go_wp2_with (go_at_fn 100; refine C.out.mono ?_; rintro e w' ⟨rfl, d', hS', hz', hp', hd'⟩)
                  have HR' : Hid (Runs (ltOf cf) (2 * s) n 0 d') := by
                    show Runs _ _ _ _ _
                    have h1 := HT.out
                    have h2 := HA.out
                    rw [h2] at h1 hp' hd'
                    exact runs_of h1 (by omega) (by omega) hp' hd'
                  have HP' : Hid (PermIn 0 n dk d') := permIn_trans _ _ _ _ _ HP.out (permIn_mono _ _ a n 0 n (Nat.zero_le _) (Nat.le_refl _) (by omega) hp')
                  clear hp' hd'
                  go_roundw
                  case rel => exact ⟨2 * s, d', congrArg (Value.int .i64) (by omega), by omega, by omega, hS', hz', HR', HP'⟩
                  case measure => simp [intOf]; omega
              · as_aux_lemma =>
                  have hmz : (n : Int) ≤ (a : Int) + (s : Int) := by omega
                  have HR' : Hid (Runs (ltOf cf) (2 * s) n 0 d) := by
                    show Runs _ _ _ _ _
                    have h1 := HT.out
                    have h2 := HA.out
                    have h3 := HR.out
                    rw [h2] at h1 h3
                    exact runs_of h1 (by omega) (by omega) (permIn_refl _ _ _) (runs_last h3 (by omega))
                  go_wp2_with fail
                  go_roundw
                  case rel => exact ⟨2 * s, d, congrArg (Value.int .i64) (by omega), by omega, by omega, HS, hds, HR', HP⟩
                  case measure => simp [intOf]; omega
        · as_aux_lemma =>
            have hqz : (n : Int) ≤ (s : Int) := by omega
            have hfin := runs_end HR2.out (by omega)
            have HF := Lib.hid hfin; clear hfin
            go_wp2
            go_end0
            exact ⟨rfl, d2, HS2.out, hz2, HP2.out, HF.out⟩
end
end Go.Proofs.YtjbjcfnbgcloiaaDoor
