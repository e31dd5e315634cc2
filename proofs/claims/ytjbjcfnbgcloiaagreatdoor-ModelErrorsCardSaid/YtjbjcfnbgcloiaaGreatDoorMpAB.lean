/- One choice on a model, its names' verbs together; models beside each other. -/
import Derived.Test.YtjbjcfnbgcloiaaGreatDoorMoYZ
import Derived.Test.YtjbjcfnbgcloiaaGreatDoorMoTU
import Derived.Test.YtjbjcfnbgcloiaaGreatDoorMoSW
import Derived.Test.YtjbjcfnbgcloiaaGreatDoorMoK
import Derived.Lib.SlBytesConst

namespace Go.Proofs.YtjbjcfnbgcloiaaGreatDoor
open Go.RowKit Nam YtjbjcfnbgcloiaaGreatDoorW.PrintWords

/-! ### states stay small -/
structure St.Fine (S : St) : Prop where
  len : ∀ b k, (S.V b k).length ≤ 64
  dt : ∀ b k, ∀ y ∈ S.V b k, y.dt.length ≤ 65536
theorem fine_new : St.Fine St.new := ⟨fun _ _ => Nat.zero_le _, fun _ _ y h => by cases h⟩
theorem fine_put {S : St} (h : S.Fine) (b k : List UInt8) (l : List Kp) (hl : l.length ≤ 64) (hd : ∀ y ∈ l, y.dt.length ≤ 65536) : (S.put b k l).Fine := by
  refine ⟨fun b' k' => ?_, fun b' k' y hy => ?_⟩
  · show (if b' = b ∧ k' = k then l else S.V b' k').length ≤ 64
    split
    · exact hl
    · exact h.len _ _
  · have hy' : y ∈ (if b' = b ∧ k' = k then l else S.V b' k') := hy
    split at hy'
    · exact hd y hy'
    · exact h.dt _ _ y hy'
theorem moreE_len {l : List Kp} {x : Kp} (h : moreE l x = 0) : l.length < 64 := by
  unfold moreE at h
  split at h
  · cases h
  · omega
theorem fine_snoc {S : St} (h : S.Fine) (b k : List UInt8) (x : Kp) (hm : moreE (S.V b k) x = 0) (hd : x.dt.length ≤ 65536) : (S.put b k (S.V b k ++ [x])).Fine := by
  have := moreE_len hm
  refine fine_put h b k _ (by simp; omega) fun y hy => ?_
  rcases List.mem_append.1 hy with hy | hy
  · exact h.dt _ _ y hy
  · rw [List.mem_singleton] at hy
    subst hy
    exact hd
theorem putE_more {S : St} {id : Int} {b k d : List UInt8} (h : S.putE id b k d = 0) : moreE (S.V b k) (kpOf id d) = 0 ∧ d.length ≤ 65536 ∧ b ∈ S.B ∧ namedB b k = true := by
  unfold St.putE at h
  split at h
  · cases h
  · rename_i h1
    split at h
    · cases h
    · split at h
      · cases h
      · rename_i h2 h3
        exact ⟨h, by omega, Classical.not_not.1 h3, by simpa using h1⟩
theorem fine_doPut {S : St} (h : S.Fine) (id : Int) (b k d : List UInt8) : (S.doPut id b k d).Fine := by
  unfold St.doPut
  split
  · rename_i hp
    obtain ⟨h1, h2, _⟩ := putE_more hp
    exact fine_snoc h b k _ h1 h2
  · exact h
theorem delE_more {S : St} {id : Int} {b k : List UInt8} (h : S.delE id b k = 0) : S.findE b k 0 0 = 0 ∧ moreE (S.V b k) (kpDel id) = 0 := by
  unfold St.delE at h
  by_cases hf : S.findE b k 0 0 = 0
  · rw [if_neg (by simp [hf])] at h
    exact ⟨hf, h⟩
  · rw [if_pos hf] at h
    exact absurd h hf
theorem fine_doDel {S : St} (h : S.Fine) (id : Int) (b k : List UInt8) : (S.doDel id b k).Fine := by
  unfold St.doDel
  split
  · rename_i hp
    exact fine_snoc h b k _ (delE_more hp).2 (by simp [kpDel])
  · exact h
theorem fine_doEra {S : St} (h : S.Fine) (b k : List UInt8) (id : Int) : (S.doEra b k id).Fine := by
  unfold St.doEra
  split
  · refine fine_put h b k _ ?_ fun y hy => ?_
    · unfold St.eraL
      have := h.len b k
      simp
      omega
    · unfold St.eraL at hy
      rcases List.mem_append.1 hy with hy | hy
      · exact h.dt _ _ y (List.mem_of_mem_take hy)
      · exact h.dt _ _ y (List.mem_of_mem_drop hy)
  · exact h

/-! ### a choice of a name's verbs -/
def St.callE (S : St) (x : Ch) (id : Int) : Int :=
  if x.d = 4 then S.putE id x.bk x.ky x.dt else if x.d = 7 then S.delE id x.bk x.ky else if x.d = 8 then S.findE x.bk x.ky x.n 1 else S.getE x.bk x.ky x.n
def St.callS (S : St) (x : Ch) (id : Int) : St :=
  if x.d = 4 then S.doPut id x.bk x.ky x.dt else if x.d = 7 then S.doDel id x.bk x.ky else if x.d = 8 then S.doEra x.bk x.ky x.n else S
theorem fine_callS {S : St} (h : S.Fine) (x : Ch) (id : Int) : (S.callS x id).Fine := by
  unfold St.callS
  split
  · exact fine_doPut h _ _ _ _
  · split
    · exact fine_doDel h _ _ _
    · split
      · exact fine_doEra h _ _ _
      · exact h
def Named (x : Ch) : Prop := x.d = 4 ∨ x.d = 5 ∨ x.d = 6 ∨ x.d = 7 ∨ x.d = 8
theorem call5_is (w : World) (g : Nat) (S : St) (n : Nat) (Q F : Nat → Prop) (x : Ch) (A : Option Addr) (c : Nat) (id : Int) (hd : Named x) (hb : x.bk.length ≤ 100000) (hk : x.ky.length ≤ 100000) (hdt : x.dt.length ≤ 1000000) (hn : n ≤ 100000) (hS : S.Fine) (hm : HasM w g S n Q F)
    (hC : ∀ V, Below w.heap.size w V → (Kd.int .u8).C V A (byN x.dt).length (byN x.dt)) (hT : Tabs w) :
    Calls Tryz.prog 13 #[.pointer (some ⟨g, 0, none⟩), .agg (chCells x (.slice A (byN x.dt).length c)).toArray, .int .i64 id] w fun e w' =>
      (∃ y dv, e = .returned (.agg (ansL (S.callE x id) y dv).toArray)) ∧ (∃ F', HasM w' g (S.callS x id) (n + 1) Q F') ∧ Moved Q w w' := by
  have hl := hS.len x.bk x.ky
  have hdd : ∀ y ∈ S.V x.bk x.ky, y.dt.length ≤ 1000000 := fun y hy => by have := hS.dt _ _ y hy; omega
  obtain ⟨d, bk, ky, dt, nn, a, pf, fr, fi, mo⟩ := x
  unfold St.callE St.callS Named at *
  simp only at hd hb hk hdt hC hl hdd ⊢
  rw [byN_length] at hC ⊢
  rcases hd with rfl | rfl | rfl | rfl | rfl
  · exact (call_put w g S n Q F bk ky dt pf fr A c id nn a fi mo hb hk hdt hn hm hC hT).mono fun e w' ⟨⟨y, dv, he, _⟩, ⟨F', h1, _⟩, h2⟩ => ⟨⟨y, dv, he⟩, ⟨F', h1⟩, h2⟩
  · exact (call_get w g S n Q F bk ky pf fr _ id nn a fi mo hb hk (by omega) hdd hm hT).mono fun e w' ⟨⟨y, dv, he, _⟩, ⟨F', h1, _⟩, h2⟩ => ⟨⟨y, dv, he⟩, ⟨F', h1⟩, h2⟩
  · exact (call_head w g S n Q F bk ky pf fr _ id nn a fi mo hb hk (by omega) hdd hm hT).mono fun e w' ⟨⟨y, dv, he, _⟩, ⟨F', h1, _⟩, h2⟩ => ⟨⟨y, dv, he⟩, ⟨F', h1⟩, h2⟩
  · exact (call_del w g S n Q F bk ky pf fr _ id nn a fi mo hb hk (by omega) hn hm hT).mono fun e w' ⟨⟨y, dv, he, _⟩, ⟨F', h1, _⟩, h2⟩ => ⟨⟨y, dv, he⟩, ⟨F', h1⟩, h2⟩
  · exact (call_era w g S n Q F bk ky pf fr _ id nn a fi mo hb hk (by omega) hn hm hT).mono fun e w' ⟨⟨y, dv, he, _⟩, ⟨F', h1, _⟩, h2⟩ => ⟨⟨y, dv, he⟩, ⟨F', h1⟩, h2⟩

/-! ### one model, two models, beside a first world -/
def One (w0 W : World) (g : Nat) (S : St) (n : Nat) : Prop := Below w0.heap.size w0 W ∧ ∃ Q F, HasM W g S n Q F ∧ ∀ k, Q k → w0.heap.size ≤ k
def Two (w0 W : World) (g : Nat) (S : St) (n : Nat) (g' : Nat) (S' : St) (n' : Nat) : Prop :=
  Below w0.heap.size w0 W ∧ ∃ Q F Q' F', HasM W g S n Q F ∧ HasM W g' S' n' Q' F' ∧ (∀ k, Q k → w0.heap.size ≤ k) ∧ (∀ k, Q' k → w0.heap.size ≤ k) ∧ ∀ k, Q k → ¬ Q' k
theorem One.below {w0 W V : World} {g n : Nat} {S : St} (h : One w0 W g S n) (hb : Below W.heap.size W V) : One w0 V g S n := by
  obtain ⟨h1, Q, F, h2, h3⟩ := h
  exact ⟨h1.trans (hb.mono h1.size), Q, F, h2.below hb, h3⟩
theorem Two.below {w0 W V : World} {g n g' n' : Nat} {S S' : St} (h : Two w0 W g S n g' S' n') (hb : Below W.heap.size W V) : Two w0 V g S n g' S' n' := by
  obtain ⟨h1, Q, F, Q', F', h2, h3, h4⟩ := h
  exact ⟨h1.trans (hb.mono h1.size), Q, F, Q', F', h2.below hb, h3.below hb, h4⟩
theorem Two.symm {w0 W : World} {g n g' n' : Nat} {S S' : St} (h : Two w0 W g S n g' S' n') : Two w0 W g' S' n' g S n := by
  obtain ⟨h1, Q, F, Q', F', h2, h3, h4, h5, h6⟩ := h
  exact ⟨h1, Q', F', Q, F, h3, h2, h5, h4, fun k hk hq => h6 k hq hk⟩
theorem Two.left {w0 W : World} {g n g' n' : Nat} {S S' : St} (h : Two w0 W g S n g' S' n') : One w0 W g S n := by
  obtain ⟨h1, Q, F, Q', F', h2, h3, h4, h5, h6⟩ := h
  exact ⟨h1, Q, F, h2, h4⟩
theorem One.bound {w0 W : World} {g n m : Nat} {S : St} (h : One w0 W g S n) (hn : n ≤ m) : One w0 W g S m := by
  obtain ⟨h1, Q, F, h2, h3⟩ := h
  exact ⟨h1, Q, F, h2.mono hn, h3⟩
/-- A call on the one of two. -/
theorem Two.turn {w0 W V : World} {g n n2 g' n' : Nat} {S S2 S' : St} {Q F Q' F' Q2 F2 : Nat → Prop} (h1 : Below w0.heap.size w0 W) (h2 : HasM W g S n Q F) (h3 : HasM W g' S' n' Q' F') (h4 : ∀ k, Q k → w0.heap.size ≤ k) (h5 : ∀ k, Q' k → w0.heap.size ≤ k) (h6 : ∀ k, Q k → ¬ Q' k)
    (hm : HasM V g S2 n2 Q2 F2) (hmv : Moved Q W V) (hq : ∀ k, Q2 k → Q k ∨ W.heap.size ≤ k) : Two w0 V g S2 n2 g' S' n' := by
  refine ⟨hmv.below h1 h1.size h4, Q2, F2, Q', F', hm, h3.apart hmv h2.q fun k hk hk2 => h6 k hk2 hk, fun k hk => ?_, h5, fun k hk hk2 => ?_⟩
  · rcases hq k hk with h | h
    · exact h4 k h
    · exact Nat.le_trans h1.size h
  · rcases hq k hk with h | h
    · exact h6 k h hk2
    · have := isM_lt (h3.q k hk2)
      omega
theorem one_new (w0 W : World) (hb : Below w0.heap.size w0 W) : Calls Tryz.prog 7 #[] W fun e w' => ∃ g, e = .returned (.pointer (some ⟨g, 0, none⟩)) ∧ One w0 w' g St.new 0 :=
  (new_is W).mono fun e w' ⟨⟨g, Q, F, he, h1, h2, _⟩, hb2⟩ => ⟨g, he, hb.trans (hb2.mono hb.size), Q, F, h1, fun k hk => Nat.le_trans hb.size (h2 k hk)⟩
/-- A second model. -/
theorem two_new {w0 W : World} {g n : Nat} {S : St} (h : One w0 W g S n) : Calls Tryz.prog 7 #[] W fun e w' => ∃ g', e = .returned (.pointer (some ⟨g', 0, none⟩)) ∧ Two w0 w' g S n g' St.new 0 := by
  obtain ⟨h1, Q, F, h2, h3⟩ := h
  refine (new_is W).mono fun e w' ⟨⟨g', Q', F', he, k1, k2, _⟩, hb2⟩ => ⟨g', he, h1.trans (hb2.mono h1.size), Q, F, Q', F', h2.below hb2, k1, h3, fun k hk => Nat.le_trans h1.size (k2 k hk), fun k hk hk2 => ?_⟩
  have := isM_lt (h2.q k hk)
  have := k2 k hk2
  omega
theorem one_make {w0 W : World} {g n : Nat} {S : St} (h : One w0 W g S n) (s : List UInt8) (hs : s.length ≤ 100000) (hn : n ≤ 100000) :
    Calls Tryz.prog 16 #[.pointer (some ⟨g, 0, none⟩), .string (mkS s)] W fun e w' => e = .returned (.int .i64 (S.make s).2) ∧ One w0 w' g (S.make s).1 (n + 1) := by
  obtain ⟨h1, Q, F, h2, h3⟩ := h
  refine (make_is W g S n Q F s hs hn h2).mono fun e w' ⟨Q', he, k1, k2, k3⟩ => ⟨he, k2.below h1 h1.size h3, Q', F, k1, fun k hk => ?_⟩
  rcases k3 k hk with h | h
  · exact h3 k h
  · exact Nat.le_trans h1.size h
theorem two_make {w0 W : World} {g n g' n' : Nat} {S S' : St} (h : Two w0 W g S n g' S' n') (s : List UInt8) (hs : s.length ≤ 100000) (hn : n ≤ 100000) :
    Calls Tryz.prog 16 #[.pointer (some ⟨g, 0, none⟩), .string (mkS s)] W fun e w' => e = .returned (.int .i64 (S.make s).2) ∧ Two w0 w' g (S.make s).1 (n + 1) g' S' n' := by
  obtain ⟨h1, Q, F, Q', F', h2, h3, h4, h5, h6⟩ := h
  exact (make_is W g S n Q F s hs hn h2).mono fun e w' ⟨Q2, he, k1, k2, k3⟩ => ⟨he, Two.turn h1 h2 h3 h4 h5 h6 k1 k2 k3⟩
theorem one_call {w0 W : World} {g n : Nat} {S : St} (h : One w0 W g S n) (x : Ch) (A : Option Addr) (c : Nat) (id : Int) (hd : Named x) (hb : x.bk.length ≤ 100000) (hk : x.ky.length ≤ 100000) (hdt : x.dt.length ≤ 1000000) (hn : n ≤ 100000) (hS : S.Fine)
    (hC : ∀ V, Below W.heap.size W V → (Kd.int .u8).C V A (byN x.dt).length (byN x.dt)) (hT : Tabs W) :
    Calls Tryz.prog 13 #[.pointer (some ⟨g, 0, none⟩), .agg (chCells x (.slice A (byN x.dt).length c)).toArray, .int .i64 id] W fun e w' =>
      (∃ y dv, e = .returned (.agg (ansL (S.callE x id) y dv).toArray)) ∧ One w0 w' g (S.callS x id) (n + 1) := by
  obtain ⟨h1, Q, F, h2, h3⟩ := h
  exact (call5_is W g S n Q F x A c id hd hb hk hdt hn hS h2 hC hT).mono fun e w' ⟨he, ⟨F', k1⟩, k2⟩ => ⟨he, k2.below h1 h1.size h3, Q, F', k1, h3⟩
theorem two_call {w0 W : World} {g n g' n' : Nat} {S S' : St} (h : Two w0 W g S n g' S' n') (x : Ch) (A : Option Addr) (c : Nat) (id : Int) (hd : Named x) (hb : x.bk.length ≤ 100000) (hk : x.ky.length ≤ 100000) (hdt : x.dt.length ≤ 1000000) (hn : n ≤ 100000) (hS : S.Fine)
    (hC : ∀ V, Below W.heap.size W V → (Kd.int .u8).C V A (byN x.dt).length (byN x.dt)) (hT : Tabs W) :
    Calls Tryz.prog 13 #[.pointer (some ⟨g, 0, none⟩), .agg (chCells x (.slice A (byN x.dt).length c)).toArray, .int .i64 id] W fun e w' =>
      (∃ y dv, e = .returned (.agg (ansL (S.callE x id) y dv).toArray)) ∧ Two w0 w' g (S.callS x id) (n + 1) g' S' n' := by
  obtain ⟨h1, Q, F, Q', F', h2, h3, h4, h5, h6⟩ := h
  exact (call5_is W g S n Q F x A c id hd hb hk hdt hn hS h2 hC hT).mono fun e w' ⟨he, ⟨F2, k1⟩, k2⟩ => ⟨he, Two.turn h1 h2 h3 h4 h5 h6 k1 k2 fun k hk => .inl hk⟩
theorem one_copy {w0 W : World} {g n : Nat} {S : St} (h : One w0 W g S n) (hS : S.Fine) (hn : n ≤ 300) :
    Calls Tryz.prog 9 #[.pointer (some ⟨g, 0, none⟩)] W fun e w' => ∃ g', e = .returned (.pointer (some ⟨g', 0, none⟩)) ∧ Two w0 w' g S n g' S (n * (n + 2)) := by
  obtain ⟨h1, Q, F, h2, h3⟩ := h
  refine (copy_is W g S n Q F hn (fun b k => by have := hS.len b k; omega) h2).mono fun e w' ⟨⟨g', Q', F', he, k1, k2, _⟩, hb⟩ => ⟨g', he, h1.trans (hb.mono h1.size), Q, F, Q', F', h2.below hb, k1, h3, fun k hk => Nat.le_trans h1.size (k2 k hk), fun k hk hk2 => ?_⟩
  have := isM_lt (h2.q k hk)
  have := k2 k hk2
  omega
theorem two_same {w0 W : World} {g n g' n' : Nat} {S S' : St} (h : Two w0 W g S n g' S' n') (hS : S.Fine) (hS' : S'.Fine) :
    Calls Tryz.prog 11 #[.pointer (some ⟨g, 0, none⟩), .pointer (some ⟨g', 0, none⟩)] W fun e w' => e = .returned (.bool (sameB S S')) ∧ Two w0 w' g S n g' S' n' := by
  obtain ⟨h1, Q, F, Q', F', h2, h3, h4, h5, h6⟩ := id h
  exact (same_is W g g' n n' S S' Q Q' F F' h2 h3 (fun b k => by have := hS.len b k; omega) (fun b k => by have := hS'.len b k; omega)).mono fun e w' ⟨he, hb⟩ => ⟨he, h.below hb⟩
theorem sameB_self (S : St) : sameB S S = true := (sameB_iff S S).2 ⟨fun _ => Iff.rfl, fun _ _ => rfl⟩
end Go.Proofs.YtjbjcfnbgcloiaaGreatDoor

/- The first sentence of each law of layer 22: a bucket, a key, its version. -/
namespace Go.Proofs.YtjbjcfnbgcloiaaGreatDoor
open Go.RowKit Nam YtjbjcfnbgcloiaaGreatDoorW.PrintWords

def abc : List UInt8 := [97, 98, 99]
def kx : List UInt8 := [107]
def S1 : St := ⟨[abc], fun _ _ => []⟩
theorem abc_bucket : bucketB abc = true := by decide
theorem abc_named : namedB abc kx = true := by decide
theorem make_abc : St.new.make abc = (S1, 0) := by
  unfold St.make
  rw [if_neg (by rw [abc_bucket]; simp), if_neg (by simp [St.new]), if_neg (by simp [St.new])]
  rfl
theorem fine_S1 : S1.Fine := ⟨fun _ _ => Nat.zero_le _, fun _ _ y h => by cases h⟩
theorem put_ok {S : St} {id : Int} {b k d : List UInt8} (h1 : namedB b k = true) (h2 : d.length ≤ 65536) (h3 : b ∈ S.B) (h4 : (S.V b k).length < 64) (h5 : 1 ≤ id) (h6 : id ≤ 2147483647) (h7 : ∀ y ∈ S.V b k, y.id < id) : S.putE id b k d = 0 := by
  unfold St.putE
  rw [if_neg (by rw [h1]; simp), if_neg (by omega), if_neg (fun e => e h3)]
  unfold moreE
  rw [if_neg (by omega), if_neg (by show ¬ (id < 1 ∨ 2147483647 < id); omega)]
  cases hl : (S.V b k).getLast? with
  | none => rfl
  | some y =>
    show (if id ≤ y.id then (1 : Int) else 0) = 0
    have := h7 y (List.mem_of_getLast? hl)
    rw [if_neg (by omega)]
theorem put_at (S : St) (b k : List UInt8) (l : List Kp) : (S.put b k l).V b k = l := if_pos ⟨rfl, rfl⟩
theorem doPut_ok {S : St} {id : Int} {b k d : List UInt8} (h : S.putE id b k d = 0) : S.doPut id b k d = S.put b k (S.V b k ++ [kpOf id d]) := if_pos h
theorem one_put {w0 W : World} {g n : Nat} {S : St} (h : One w0 W g S n) (id : Int) (b k d : List UInt8) (A : Option Addr) (c : Nat) (hb : b.length ≤ 100000) (hk : k.length ≤ 100000) (hd : d.length ≤ 1000000) (hn : n ≤ 100000) (hC : (Kd.int .u8).C W A d.length (byN d)) (hT : Tabs W) (hE : S.putE id b k d = 0) :
    Calls Tryz.prog 17 #[.pointer (some ⟨g, 0, none⟩), .int .i64 id, .string (mkS b), .string (mkS k), .slice A d.length c] W fun e w' =>
      e = .returned (.tuple #[.agg #[.int .i64 id, .bool false, .int .i64 (d.length : Int), .int .u32 (sumC d)], .int .i64 0]) ∧ One w0 w' g (S.put b k (S.V b k ++ [kpOf id d])) (n + 1) := by
  obtain ⟨h1, Q, F, h2, h3⟩ := h
  refine (put_is W g S n Q F id b k d A c hb hk hd hn h2 hC hT).mono fun e w' ⟨he, ⟨F', k1, _⟩, k2⟩ => ⟨?_, k2.below h1 h1.size h3, Q, F', ?_, h3⟩
  · rw [he, hE, if_pos rfl]
    rfl
  · rw [doPut_ok hE] at k1
    exact k1
/-- The last version, no marker. -/
theorem one_get {w0 W : World} {g n : Nat} {S : St} (h : One w0 W g S n) (b k : List UInt8) (y : Kp) (hb : b.length ≤ 100000) (hk : k.length ≤ 100000) (hS : S.Fine) (hT : Tabs W) (h1 : namedB b k = true) (h2 : b ∈ S.B) (h3 : (S.V b k).getLast? = some y) (h4 : y.mark = false) :
    Calls Tryz.prog 20 #[.pointer (some ⟨g, 0, none⟩), .string (mkS b), .string (mkS k), .int .i64 0] W fun e w' =>
      (∃ A c, e = .returned (.tuple #[.agg #[.int .i64 y.id, .bool y.mark, .int .i64 y.sz, .int .u32 y.sum], .slice A y.dt.length c, .int .i64 0]) ∧ ∀ V, Below w'.heap.size w' V → (Kd.int .u8).C V A y.dt.length (byN y.dt)) ∧ Below W.heap.size W w' := by
  obtain ⟨_, Q, F, hm, _⟩ := h
  have hne : S.V b k ≠ [] := fun e => by rw [e] at h3; cases h3
  have hpos := List.length_pos_iff.2 hne
  have hi : idxK 0 (S.V b k) = (((S.V b k).length - 1 : Nat) : Int) := by
    unfold idxK
    rw [if_pos rfl]
    omega
  have hf : S.findE b k 0 0 = 0 := by
    unfold St.findE
    rw [if_neg (by rw [h1]; simp), if_neg (by decide), if_neg (fun e => e h2), if_neg hne, if_neg (by rw [hi]; omega)]
  have hK : S.getK b k 0 = some y := by
    unfold St.getK
    rw [hi, Int.toNat_natCast, ← List.getLast?_eq_getElem?]
    exact h3
  have hE : S.getE b k 0 = 0 := by
    unfold St.getE
    rw [if_neg (by simp [hf]), hK]
    simp [h4]
  refine (get_is W g S n Q F b k 0 hb hk (by have := hS.len b k; omega) (fun y hy => by have := hS.dt _ _ y hy; omega) hm hT).mono fun e w' ⟨⟨y', v, he, hc⟩, hb'⟩ => ⟨?_, hb'⟩
  rw [hE] at he
  rcases hc with ⟨q, _⟩ | ⟨_, _, q, _⟩ | ⟨_, q2, _, _, A, c, rfl, _, Fb, q7, q8⟩
  · exact absurd hf q
  · rw [hE] at q; cases q
  · rw [hK] at q2
    injection q2 with q2
    subst q2
    exact ⟨A, c, he, fun V hV => (q7.kept fun j hj => hV.block j (isC_lt (q8 j hj).1)).now⟩
/-- Bytes that lie in a block of their own. -/
theorem lit_bytes {w : World} {b : Nat} {t : TypeId} {fr : Nat × Nat} (l : List UInt8) (hl : l.length ≤ 1000) (h : w.heap[b]? = some (.cells ((byN l).map (Value.int .u8)).toArray t fr)) : (Kd.int .u8).C w (some ⟨b, 0, none⟩) l.length (byN l) := by
  refine Kd.C_of_reads (enc := Value.int .u8) (d := (0 : Int)) (h1 := fun _ => rfl) ⟨byN_length l, by omega, fun _ => ⟨_, rfl, fun j hj => ?_⟩⟩
  have hj2 : j < (byN l).length := by rw [byN_length]; exact hj
  have : w.cell? ⟨b, j, none⟩ = ((byN l).map (Value.int .u8)).toArray[j]? := by simp [World.cell?, h]
  simp only [List.getElem?_toArray, List.getElem?_map, List.getElem?_eq_getElem hj2, Option.map_some] at this
  rw [show (⟨b, 0, none⟩ : Addr).add j = ⟨b, j, none⟩ by rw [Addr.add_mid, Nat.zero_add]]
  rw [this, List.getD_eq_getElem?_getD, List.getElem?_eq_getElem hj2, Option.getD_some]

def S2 : St := S1.put abc kx (S1.V abc kx ++ [kpOf 2 [120]])
def S3 : St := S2.put abc kx (S2.V abc kx ++ [kpOf 3 [121, 122]])
theorem s1_V : S1.V abc kx = [] := rfl
theorem s2_V : S2.V abc kx = [kpOf 2 [120]] := put_at _ _ _ _
theorem s3_V : S3.V abc kx = [kpOf 2 [120], kpOf 3 [121, 122]] := (put_at _ _ _ _).trans (by rw [s2_V]; rfl)
theorem p1_ok : S1.putE 2 abc kx [120] = 0 := put_ok abc_named (by decide) (by simp [S1]) (by rw [s1_V]; decide) (by decide) (by decide) (by rw [s1_V]; intro y h; cases h)
theorem p2_ok : S2.putE 3 abc kx [121, 122] = 0 := put_ok abc_named (by decide) (by simp [S2, S1, St.put]) (by rw [s2_V]; decide) (by decide) (by decide) (by
  rw [s2_V]
  intro y h
  rw [List.mem_singleton] at h
  subst h
  decide)
theorem fine_S2 : S2.Fine := by
  have := fine_doPut fine_S1 2 abc kx [120]
  rw [doPut_ok p1_ok] at this
  exact this
theorem fine_S3 : S3.Fine := by
  have := fine_doPut fine_S2 3 abc kx [121, 122]
  rw [doPut_ok p2_ok] at this
  exact this
theorem p3_last : (S3.V abc kx).getLast? = some (kpOf 3 [121, 122]) := by rw [s3_V]; rfl
theorem byN_1 (a : UInt8) : byN [a] = [(a.toNat : Int)] := rfl
theorem byN_2 (a b : UInt8) : byN [a, b] = [(a.toNat : Int), (b.toNat : Int)] := rfl

set_option maxHeartbeats 2000000 in
set_option maxRecDepth 100000 in
theorem awake_is (w : World) (hT : Tabs w) : Calls Tryz.prog 5 #[] w fun e w' => e = .returned (.bool true) ∧ Below w.heap.size w w' := by
  have HNew : Hid (Calls Tryz.prog 7 #[] w fun e w' => ∃ g, e = .returned (.pointer (some ⟨g, 0, none⟩)) ∧ Hid (One w w' g St.new 0)) := one_new w w (Below.refl _ _)
  have HMk : Hid (∀ W g, One w W g St.new 0 → Calls Tryz.prog 16 #[.pointer (some ⟨g, 0, none⟩), .string ⟨#[97, 98, 99]⟩] W fun e w' => e = .returned (.int .i64 0) ∧ Hid (One w w' g S1 1)) := fun W g h =>
    (one_make h abc (by decide) (by decide)).mono fun e w' ⟨he, ho⟩ => by
      rw [make_abc] at he ho
      exact ⟨he, ho⟩
  have HP1 : Hid (∀ W g, One w W g S1 1 → Calls Tryz.prog 17 #[.pointer (some ⟨g, 0, none⟩), .int .i64 2, .string ⟨#[97, 98, 99]⟩, .string ⟨#[107]⟩, .slice (some ⟨W.heap.size, 0, none⟩) 1 1] (W.alloc (.cells #[.int .u8 120] 5 (1, 2))) fun e w' => e = .returned (.tuple #[.agg #[.int .i64 2, .bool false, .int .i64 1, .int .u32 (sumC [120])], .int .i64 0]) ∧ Hid (One w w' g S2 2)) := fun W g h => by
    have hb := (Below.refl W.heap.size W).alloc (Nat.le_refl _) (.cells #[.int .u8 120] 5 (1, 2))
    exact one_put (h.below hb) 2 abc kx [120] (some ⟨W.heap.size, 0, none⟩) 1 (by decide) (by decide) (by decide) (by decide) (lit_bytes [120] (by decide) (blk_new W _)) (hT.below (h.1.trans (hb.mono h.1.size))) p1_ok
  have HP2 : Hid (∀ W g, One w W g S2 2 → Calls Tryz.prog 17 #[.pointer (some ⟨g, 0, none⟩), .int .i64 3, .string ⟨#[97, 98, 99]⟩, .string ⟨#[107]⟩, .slice (some ⟨W.heap.size, 0, none⟩) 2 2] (W.alloc (.cells #[.int .u8 121, .int .u8 122] 5 (2, 3))) fun e w' => e = .returned (.tuple #[.agg #[.int .i64 3, .bool false, .int .i64 2, .int .u32 (sumC [121, 122])], .int .i64 0]) ∧ Hid (One w w' g S3 3)) := fun W g h => by
    have hb := (Below.refl W.heap.size W).alloc (Nat.le_refl _) (.cells #[.int .u8 121, .int .u8 122] 5 (2, 3))
    exact one_put (h.below hb) 3 abc kx [121, 122] (some ⟨W.heap.size, 0, none⟩) 2 (by decide) (by decide) (by decide) (by decide) (lit_bytes [121, 122] (by decide) (blk_new W _)) (hT.below (h.1.trans (hb.mono h.1.size))) p2_ok
  obtain ⟨sm, hsm⟩ : ∃ sm, sumC [121, 122] = sm := ⟨_, rfl⟩
  obtain ⟨sn, hsn⟩ : ∃ sn, sumC [120] = sn := ⟨_, rfl⟩
  have HGe : Hid (∀ W g, One w W g S3 3 → Calls Tryz.prog 20 #[.pointer (some ⟨g, 0, none⟩), .string ⟨#[97, 98, 99]⟩, .string ⟨#[107]⟩, .int .i64 0] W fun e w' => (∃ A c, e = .returned (.tuple #[.agg #[.int .i64 3, .bool false, .int .i64 2, .int .u32 sm], .slice A 2 c, .int .i64 0]) ∧ Hid (∀ V, Below w'.heap.size w' V → (convert 30 9 (.slice A 2 c)).run Tryz.prog V = .ok (.string ⟨#[121, 122]⟩) V)) ∧ Hid (Below W.heap.size W w') ∧ Hid (Below w.heap.size w w')) := fun W g h =>
    (one_get h abc kx (kpOf 3 [121, 122]) (by decide) (by decide) fine_S3 (hT.below h.1) abc_named (by simp [S3, S2, S1, St.put]) p3_last rfl).mono fun e w' ⟨⟨A, c, he, hC⟩, hb⟩ => by
      subst hsm
      refine ⟨⟨A, c, he, fun V hV => ?_⟩, hb, h.1.trans (hb.mono h.1.size)⟩
      have := Kd.C_string (P := Tryz.prog) Tryz.underlying30 Tryz.underlying5 Tryz.underlying9 (c := c) (hC V hV)
      rw [byN_str] at this
      exact this
  rw [hsm] at HP2
  rw [hsn] at HP1
  have kc := fun (w : World) (C : Array Value) (n c : Nat) => Lib.run_convert_bytes_const (P := Tryz.prog) w 30 5 C n c Tryz.underlying30 Tryz.underlying5
  clear hT hsm hsn
  go_enter Tryz.func5, Tryz.ntmps5
  go_wp2_with fail
  refine HNew.out.mono ?_
  rintro e w1 ⟨g, rfl, H1⟩
  go_wp2_with fail
  refine (HMk.out _ _ H1.out).mono ?_
  rintro e w2 ⟨rfl, H2⟩
  go_wp2_with fail
  refine (HP1.out _ _ H2.out).mono ?_
  rintro e w3 ⟨rfl, H3⟩
  have kc2 := kc (w3.alloc (.cells #[.int .i64 2, .bool false, .int .i64 1, .int .u32 sn] 38)) #[.int .u8 121, .int .u8 122] 2 2
  rw [show (w3.alloc (.cells #[.int .i64 2, .bool false, .int .i64 1, .int .u32 sn] 38)).heap.size = w3.heap.size + 1 by simp] at kc2
  have H3b : Hid (∀ o, One w (w3.alloc o) g S2 2) := fun o => H3.out.below ((Below.refl _ _).alloc (Nat.le_refl _) _)
  go_wp2_with fail
  have hp3 := HP2.out _ _ (H3b.out (.cells #[.int .i64 2, .bool false, .int .i64 1, .int .u32 sn] 38))
  rw [show (w3.alloc (.cells #[.int .i64 2, .bool false, .int .i64 1, .int .u32 sn] 38)).heap.size = w3.heap.size + 1 by simp] at hp3
  have HP3 := Lib.hid hp3
  clear hp3
  refine HP3.out.mono ?_
  rintro e w4 ⟨rfl, H4⟩
  have H4b : Hid (∀ o, One w (w4.alloc o) g S3 3) := fun o => H4.out.below ((Below.refl _ _).alloc (Nat.le_refl _) _)
  go_wp2_with fail
  refine (HGe.out _ _ (H4b.out _)).mono ?_
  rintro e w5 ⟨⟨A, c, rfl, HCv⟩, HB5, HW5⟩
  have q5 := blk_below (blk_new w4 (.cells #[.int .i64 3, .bool false, .int .i64 2, .int .u32 sm] 38)) HB5.out
  have v0 := (blk_cell q5 0).trans (rfl : _ = some (Value.int .i64 3))
  have v1 := (blk_cell q5 1).trans (rfl : _ = some (Value.bool false))
  have v2 := (blk_cell q5 2).trans (rfl : _ = some (Value.int .i64 2))
  have v3 := (blk_cell q5 3).trans (rfl : _ = some (Value.int .u32 sm))
  have lt5 := blk_lt q5
  have ne5 : w4.heap.size ≠ w5.heap.size := by omega
  have cv := HCv.out (w5.alloc (.cells #[.int .i64 3, .bool false, .int .i64 2, .int .u32 sm] 38)) ((Below.refl _ _).alloc (Nat.le_refl _) _)
  clear q5
  go_wp2_with fail
  go_ret
  exact ⟨rfl, HW5.out.alloc HW5.out.size _⟩
end Go.Proofs.YtjbjcfnbgcloiaaGreatDoor
