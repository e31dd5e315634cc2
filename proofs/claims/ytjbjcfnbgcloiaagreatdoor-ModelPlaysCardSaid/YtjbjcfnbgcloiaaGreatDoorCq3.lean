/- ModelPlays: a part of the proof that the two models answer alike: words for rows and cells in memory. -/
import Derived.Test.YtjbjcfnbgcloiaaGreatDoorCq2
import Derived.Test.YtjbjcfnbgcloiaaGreatDoorProg
import Derived.Maps.OwnOps
import Derived.Maps.OwnSet
import Derived.Maps.Ext
import Derived.Maps.RangeWalk
import Derived.Lib.Hide
import Derived.Laws.BitsLemmas
import Derived.WalkKit
import Derived.Deep.QuietTactic
import Derived.BigQuiet
import Derived.Laws.RangeAny
import Derived.Lib.ValidLaws
import Derived.Test.YtjbjcfnbgcloiaaGreatDoorRows
import Derived.ProofKit
import Derived.OpenShut
import Derived.Handy
import Derived.WalkSpells
import Derived.Outline
import Derived.Test.YtjbjcfnbgcloiaaGreatDoorLaysN
import Derived.Shelf.Unicode.ValidAny
set_option linter.unusedSimpArgs false
set_option linter.unusedVariables false

/- A model in memory: its buckets, their keys, the versions of these; plainly, and as it lies. -/
namespace Go.Proofs.YtjbjcfnbgcloiaaGreatDoor
open Go.RowKit YtjbjcfnbgcloiaaGreatDoorW.PrintWords

def mkS (l : List UInt8) : ByteArray := ⟨l.toArray⟩
theorem mkS_list (l : List UInt8) : (mkS l).data.toList = l := rfl
theorem mkS_of (s : ByteArray) : mkS s.data.toList = s := by cases s; rfl
theorem mkS_size (l : List UInt8) : (mkS l).size = l.length := by simp [mkS, ByteArray.size]
theorem mkS_inj {a b : List UInt8} : mkS a = mkS b ↔ a = b := ⟨fun h => congrArg (fun t : ByteArray => t.data.toList) h, fun h => by rw [h]⟩
def byN (l : List UInt8) : List Int := bytesOf (mkS l)
theorem byN_length (l : List UInt8) : (byN l).length = l.length := by unfold byN; rw [bytesOf_length, mkS_size]
theorem byN_str (l : List UInt8) : strOfNums (byN l) = mkS l := by
  apply ByteArray.ext
  apply Array.toList_inj.1
  rw [strOfNums_data]
  unfold byN bytesOf
  rw [List.map_map, mkS_list]
  conv => rhs; rw [← List.map_id l]
  apply List.map_congr_left
  intro c _
  simp
theorem byN_inj {a b : List UInt8} (h : byN a = byN b) : a = b := mkS_inj.1 (by rw [← byN_str, h, byN_str])

structure Kp where
  id : Int
  mark : Bool
  sz : Int
  sum : Int
  dt : List UInt8
deriving DecidableEq
def kpCells (x : Kp) (v : Value) : List Value := [.int .i64 x.id, .bool x.mark, .int .i64 x.sz, .int .u32 x.sum, v]
def IsC (w : World) (k : Nat) : Prop := ∃ a b c, w.heap[k]? = some (.cells a b c)
def IsM (w : World) (k : Nat) : Prop := ∃ a b, w.heap[k]? = some (.map a b)
theorem isC_lt {w : World} {k : Nat} (h : IsC w k) : k < w.heap.size := by
  obtain ⟨a, b, c, h⟩ := h
  exact (Array.getElem?_eq_some_iff.1 h).1
theorem isM_lt {w : World} {k : Nat} (h : IsM w k) : k < w.heap.size := by
  obtain ⟨a, b, h⟩ := h
  exact (Array.getElem?_eq_some_iff.1 h).1
theorem isC_not {w : World} {k : Nat} (h : IsC w k) (hm : IsM w k) : False := by
  obtain ⟨a, b, c, h⟩ := h
  obtain ⟨a', b', hm⟩ := hm
  rw [h] at hm
  cases hm
def FKept (F : Nat → Prop) (w w' : World) : Prop := ∀ k, F k → w'.heap[k]? = w.heap[k]?
theorem FKept.refl (F : Nat → Prop) (w : World) : FKept F w w := fun _ _ => rfl
theorem FKept.trans {F : Nat → Prop} {a b c : World} (h : FKept F a b) (k : FKept F b c) : FKept F a c := fun i hi => (k i hi).trans (h i hi)
theorem FKept.less {F F' : Nat → Prop} {a b : World} (h : FKept F a b) (hf : ∀ k, F' k → F k) : FKept F' a b := fun i hi => h i (hf i hi)
def DatF (w : World) (F : Nat → Prop) (A : Option Addr) (l : List UInt8) : Prop := ∀ w', FKept F w w' → (Kd.int .u8).C w' A l.length (byN l)
theorem DatF.kept {w w' : World} {F : Nat → Prop} {A : Option Addr} {l : List UInt8} (h : DatF w F A l) (hk : FKept F w w') : DatF w' F A l := fun _ h2 => h _ (hk.trans h2)
theorem DatF.mono {w : World} {F F' : Nat → Prop} {A : Option Addr} {l : List UInt8} (h : DatF w F A l) (hf : ∀ k, F k → F' k) : DatF w F' A l := fun _ h2 => h _ (h2.less hf)
theorem DatF.now {w : World} {F : Nat → Prop} {A : Option Addr} {l : List UInt8} (h : DatF w F A l) : (Kd.int .u8).C w A l.length (byN l) := h w (FKept.refl _ _)
def KpF (w : World) (F : Nat → Prop) (x : Kp) (cs : List Value) : Prop := ∃ A c, cs = kpCells x (.slice A x.dt.length c) ∧ x.dt.length ≤ c ∧ DatF w F A x.dt
theorem KpF.kept {w w' : World} {F : Nat → Prop} {x : Kp} {cs : List Value} (h : KpF w F x cs) (hk : FKept F w w') : KpF w' F x cs := by
  obtain ⟨A, c, h1, h2, h3⟩ := h
  exact ⟨A, c, h1, h2, h3.kept hk⟩
theorem KpF.mono {w : World} {F F' : Nat → Prop} {x : Kp} {cs : List Value} (h : KpF w F x cs) (hf : ∀ k, F k → F' k) : KpF w F' x cs := by
  obtain ⟨A, c, h1, h2, h3⟩ := h
  exact ⟨A, c, h1, h2, h3.mono hf⟩
theorem KpF.one {w : World} {F : Nat → Prop} {x : Kp} {cs : List Value} (h : KpF w F x cs) : ∀ u ∈ cs, u.oneCell' = true := by
  obtain ⟨A, c, rfl, _⟩ := h
  simp [kpCells, Value.oneCell']
theorem cell_kept {F : Nat → Prop} {w w' : World} {a : Addr} {v : Value} (h : w.cell? a = some v) (hf : F a.block) (hk : FKept F w w') : w'.cell? a = some v := (World.cell?_of_block (hk a.block hf)).trans h

def R1 : Value → Option (DataW Unit × List MemPlace)
  | .map none => some (.nil, [])
  | .map (some b) => some (.lit (.int .i64 b), [])
  | _ => none
def R2 : Value → Option (DataW Unit × List MemPlace)
  | .slice none 0 0 => some (.nil, [])
  | .slice (some ⟨g, 0, none⟩) n c => some (.agg [.lit (.int .i64 g), .lit (.int .i64 n), .lit (.int .i64 c)], [])
  | _ => none
theorem R1_inv {v : Value} {d : DataW Unit} {ps : List MemPlace} (h : R1 v = some (d, ps)) : (v = .map none ∧ d = .nil) ∨ ∃ b : Nat, v = .map (some b) ∧ d = .lit (.int .i64 b) := by
  unfold R1 at h
  split at h
  · simp only [Option.some.injEq, Prod.mk.injEq] at h
    exact .inl ⟨rfl, h.1.symm⟩
  · simp only [Option.some.injEq, Prod.mk.injEq] at h
    exact .inr ⟨_, rfl, h.1.symm⟩
  · cases h
theorem R2_inv {v : Value} {d : DataW Unit} {ps : List MemPlace} (h : R2 v = some (d, ps)) : (v = .slice none 0 0 ∧ d = .nil) ∨ ∃ g n c : Nat, v = .slice (some ⟨g, 0, none⟩) n c ∧ d = .agg [.lit (.int .i64 g), .lit (.int .i64 n), .lit (.int .i64 c)] := by
  unfold R2 at h
  split at h
  · simp only [Option.some.injEq, Prod.mk.injEq] at h
    exact .inl ⟨rfl, h.1.symm⟩
  · simp only [Option.some.injEq, Prod.mk.injEq] at h
    exact .inr ⟨_, _, _, rfl, h.1.symm⟩
  · cases h
theorem R1_one {v v' : Value} {d : DataW Unit} {ps ps' : List MemPlace} (h : R1 v = some (d, ps)) (h' : R1 v' = some (d, ps')) : v = v' := by
  rcases R1_inv h with ⟨rfl, rfl⟩ | ⟨b, rfl, rfl⟩ <;> rcases R1_inv h' with ⟨rfl, e⟩ | ⟨b', rfl, e⟩
  · rfl
  · cases e
  · cases e
  · simp only [DataW.lit.injEq, Lit.int.injEq, true_and] at e
    rw [show b = b' by omega]
theorem R2_one {v v' : Value} {d : DataW Unit} {ps ps' : List MemPlace} (h : R2 v = some (d, ps)) (h' : R2 v' = some (d, ps')) : v = v' := by
  rcases R2_inv h with ⟨rfl, rfl⟩ | ⟨g, n, c, rfl, rfl⟩ <;> rcases R2_inv h' with ⟨rfl, e⟩ | ⟨g', n', c', rfl, e⟩
  · rfl
  · cases e
  · cases e
  · simp only [DataW.agg.injEq, List.cons.injEq, DataW.lit.injEq, Lit.int.injEq, true_and, and_true] at e
    rw [show g = g' by omega, show n = n' by omega, show c = c' by omega]
abbrev KS : Maps.Keyed Tryz.prog 9 := Maps.string_keyed Tryz.underlying9
theorem key_str (s : List UInt8) (hs : s.length ≤ maxLen) : keyOf Tryz.prog 9 (.string (mkS s)) = some (.string s) := by
  unfold keyOf
  simp [mapKey, Tryz.underlying9, mkS_size, hs, mkS_list]
theorem isKey_str (s : List UInt8) : WideAt.IsKeyLit (.string s) := by
  simp [WideAt.IsKeyLit]

def NewsAt (w : World) (F : Nat → Prop) (v : Value) (news : List Value) (n : Nat) : Prop := (v = .slice none 0 0 ∧ n = 0 ∧ news = []) ∨ ∃ g c, v = .slice (some ⟨g, 0, none⟩) n c ∧ n ≤ c ∧ F g ∧ ∀ j u, news[j]? = some u → w.cell? ⟨g, j, none⟩ = some u
theorem NewsAt.kept {w w' : World} {F : Nat → Prop} {v : Value} {news : List Value} {n : Nat} (h : NewsAt w F v news n) (hk : FKept F w w') : NewsAt w' F v news n := by
  rcases h with h | ⟨g, c, h1, h2, h3, h4⟩
  · exact .inl h
  · exact .inr ⟨g, c, h1, h2, h3, fun j u hu => cell_kept (h4 j u hu) h3 hk⟩
theorem NewsAt.mono {w : World} {F F' : Nat → Prop} {v : Value} {news : List Value} {n : Nat} (h : NewsAt w F v news n) (hf : ∀ k, F k → F' k) : NewsAt w F' v news n := by
  rcases h with h | ⟨g, c, h1, h2, h3, h4⟩
  · exact .inl h
  · exact .inr ⟨g, c, h1, h2, hf g h3, h4⟩
theorem NewsAt.slice {w : World} {F : Nat → Prop} {v : Value} {news : List Value} {n : Nat} (h : NewsAt w F v news n) : ∃ A c, v = .slice A n c ∧ n ≤ c := by
  rcases h with ⟨rfl, rfl, _⟩ | ⟨g, c, h1, h2, _⟩
  · exact ⟨none, 0, rfl, Nat.le_refl _⟩
  · exact ⟨_, c, h1, h2⟩
def RowV (w : World) (F : Nat → Prop) (v : Value) (l : List Kp) : Prop := ∃ news, NewsAt w F v news l.length ∧ Reps (KpF w F) 5 l news
theorem RowV.kept {w w' : World} {F : Nat → Prop} {v : Value} {l : List Kp} (h : RowV w F v l) (hk : FKept F w w') : RowV w' F v l := by
  obtain ⟨news, h1, h2⟩ := h
  exact ⟨news, h1.kept hk, h2.imp_ fun _ _ hp => hp.kept hk⟩
theorem RowV.mono {w : World} {F F' : Nat → Prop} {v : Value} {l : List Kp} (h : RowV w F v l) (hf : ∀ k, F k → F' k) : RowV w F' v l := by
  obtain ⟨news, h1, h2⟩ := h
  exact ⟨news, h1.mono hf, h2.imp_ fun _ _ hp => hp.mono hf⟩
theorem rowV_nil (w : World) (F : Nat → Prop) : RowV w F (.slice none 0 0) [] := ⟨[], .inl ⟨rfl, rfl, rfl⟩, Reps.none _ _⟩
theorem RowV.slice {w : World} {F : Nat → Prop} {v : Value} {l : List Kp} (h : RowV w F v l) : ∃ A c, v = .slice A l.length c ∧ l.length ≤ c := by
  obtain ⟨news, h1, _⟩ := h
  exact h1.slice
theorem RowV.r2 {w : World} {F : Nat → Prop} {v : Value} {l : List Kp} (h : RowV w F v l) : ∃ d, R2 v = some (d, []) := by
  obtain ⟨news, h1, _⟩ := h
  rcases h1 with ⟨rfl, _⟩ | ⟨g, c, rfl, _⟩
  · exact ⟨_, rfl⟩
  · exact ⟨_, rfl⟩
theorem RowV.at_ {w : World} {F : Nat → Prop} {g c : Nat} {l : List Kp} {n : Nat} (h : RowV w F (.slice (some ⟨g, 0, none⟩) n c) l) (j : Nat) {y : Kp} (hy : l[j]? = some y) : ∃ A c', y.dt.length ≤ c' ∧ DatF w F A y.dt ∧ ∀ i u, (kpCells y (.slice A y.dt.length c'))[i]? = some u → w.cell? ⟨g, j * 5 + i, none⟩ = some u := by
  obtain ⟨news, h1, h2⟩ := h
  rcases h1 with ⟨e, _⟩ | ⟨g', c', e, _, _, h4⟩
  · cases e
  injection e with e _ _
  injection e with e
  injection e with e _ _
  subst e
  obtain ⟨A, c2, e2, h5, h6⟩ := h2.2 j y hy
  refine ⟨A, c2, h5, h6, fun i u hu => h4 (j * 5 + i) u ?_⟩
  rw [← e2, List.getElem?_take, List.getElem?_drop] at hu
  split at hu
  · exact hu
  · cases hu
def InnerM (w : World) (F : Nat → Prop) (b n : Nat) (f : List UInt8 → List Kp) : Prop :=
  ∃ D, w.ownsMap Tryz.prog 9 R2 b n D ∧ ∀ s, ∃ v ps, R2 v = some (D.atKey (.string s) .nil, ps) ∧ RowV w F v (f s)
theorem ownsMap_kept {w w' : World} {R : Value → Option (DataW Unit × List MemPlace)} {b n : Nat} {D : DataW Unit} (h : w.ownsMap Tryz.prog 9 R b n D) (hb : w'.heap[b]? = w.heap[b]?) : w'.ownsMap Tryz.prog 9 R b n D := by
  obtain ⟨es, clock, h1, h2⟩ := h
  exact ⟨es, clock, hb.trans h1, h2⟩
theorem ownsMap_isM {w : World} {R : Value → Option (DataW Unit × List MemPlace)} {b n : Nat} {D : DataW Unit} (h : w.ownsMap Tryz.prog 9 R b n D) : IsM w b := by
  obtain ⟨es, clock, h1, h2⟩ := h
  exact ⟨es, clock, h1⟩
theorem InnerM.kept {w w' : World} {F : Nat → Prop} {b n : Nat} {f : List UInt8 → List Kp} (h : InnerM w F b n f) (hb : w'.heap[b]? = w.heap[b]?) (hc : FKept F w w') : InnerM w' F b n f := by
  obtain ⟨D, h1, h2⟩ := h
  refine ⟨D, ownsMap_kept h1 hb, fun s => ?_⟩
  obtain ⟨v, ps, h3, h4⟩ := h2 s
  exact ⟨v, ps, h3, h4.kept hc⟩
theorem InnerM.mono {w : World} {F : Nat → Prop} {b n n' : Nat} {f : List UInt8 → List Kp} (h : InnerM w F b n f) (hn : n ≤ n') : InnerM w F b n' f := by
  obtain ⟨D, h1, h2⟩ := h
  exact ⟨D, h1.mono hn, h2⟩
theorem InnerM.more {w : World} {F F' : Nat → Prop} {b n : Nat} {f : List UInt8 → List Kp} (h : InnerM w F b n f) (hf : ∀ k, F k → F' k) : InnerM w F' b n f := by
  obtain ⟨D, h1, h2⟩ := h
  refine ⟨D, h1, fun s => ?_⟩
  obtain ⟨v, ps, h3, h4⟩ := h2 s
  exact ⟨v, ps, h3, h4.mono hf⟩

structure St where
  B : List (List UInt8)
  V : List UInt8 → List UInt8 → List Kp
structure Outer (w : World) (g : Nat) (S : St) (n : Nat) (Q F : Nat → Prop) (mb : Nat) (D : DataW Unit) : Prop where
  c : w.heap[g]? = some (.cells #[.map (some mb)] 59 (0, 0))
  fg : F g
  o : w.ownsMap Tryz.prog 9 R1 mb n D
  qm : Q mb
  sz : Maps.size D = S.B.length
  hs : ∀ s, Maps.has D (.string s) = decide (s ∈ S.B)
  at_ : ∀ s, s ∈ S.B → ∃ b : Nat, D.atKey (.string s) .nil = .lit (.int .i64 b) ∧ Q b ∧ b ≠ mb ∧ InnerM w F b n (S.V s)
  ne : ∀ s, s ∈ S.B → ∀ s', s' ∈ S.B → D.atKey (.string s) .nil = D.atKey (.string s') .nil → s = s'
structure HasM (w : World) (g : Nat) (S : St) (n : Nat) (Q F : Nat → Prop) : Prop where
  q : ∀ k, Q k → IsM w k
  f : ∀ k, F k → IsC w k
  nd : S.B.Nodup
  off : ∀ s, s ∉ S.B → ∀ k, S.V s k = []
  ex : ∃ mb D, Outer w g S n Q F mb D
structure Moved (Q : Nat → Prop) (w w' : World) : Prop where
  os : w'.os = w.os
  tape : w'.tape = w.tape
  output : w'.output = w.output
  size : w.heap.size ≤ w'.heap.size
  block : ∀ k, k < w.heap.size → ¬ Q k → w'.heap[k]? = w.heap[k]?
theorem Moved.refl (Q : Nat → Prop) (w : World) : Moved Q w w := ⟨rfl, rfl, rfl, Nat.le_refl _, fun _ _ _ => rfl⟩
theorem Moved.of_below {Q : Nat → Prop} {w w' : World} (h : Below w.heap.size w w') : Moved Q w w' := ⟨h.os, h.tape, h.output, h.size, fun k hk _ => h.block k hk⟩
theorem Moved.of_grown {Q : Nat → Prop} {w w' : World} {b : Nat} (h : w.grownBy w' (some b)) (hb : Q b) : Moved Q w w' := ⟨h.os, h.tape, h.output, h.size, fun k hk hq => h.block k hk (fun e => hq (by injection e with e; subst e; exact hb))⟩
theorem Moved.trans {Q Q' : Nat → Prop} {a b c : World} (h : Moved Q a b) (k : Moved Q' b c) (hq : ∀ i, Q' i → Q i ∨ a.heap.size ≤ i) : Moved Q a c :=
  ⟨k.os.trans h.os, k.tape.trans h.tape, k.output.trans h.output, Nat.le_trans h.size k.size, fun i hi hn => (k.block i (Nat.lt_of_lt_of_le hi h.size) (fun e => (hq i e).elim hn (fun e => by omega))).trans (h.block i hi hn)⟩
theorem Moved.below {Q : Nat → Prop} {B : Nat} {a w w' : World} (h : Moved Q w w') (hb : Below B a w) (hB : B ≤ w.heap.size) (hq : ∀ k, Q k → B ≤ k) : Below B a w' :=
  ⟨h.os.trans hb.os, h.tape.trans hb.tape, h.output.trans hb.output, Nat.le_trans hb.size h.size, fun k hk => (h.block k (by omega) (fun e => by have := hq k e; omega)).trans (hb.block k hk)⟩
theorem Moved.cells {Q F : Nat → Prop} {w w' : World} (h : Moved Q w w') (hq : ∀ k, Q k → IsM w k) (hf : ∀ k, F k → IsC w k) : FKept F w w' := fun k hk => h.block k (isC_lt (hf k hk)) (fun q => isC_not (hf k hk) (hq k q))
theorem below_cells {F : Nat → Prop} {w w' : World} (h : Below w.heap.size w w') (hf : ∀ k, F k → IsC w k) : FKept F w w' := fun k hk => h.block k (isC_lt (hf k hk))
theorem Outer.kept {w w' : World} {g : Nat} {S : St} {n : Nat} {Q F : Nat → Prop} {mb : Nat} {D : DataW Unit} (h : Outer w g S n Q F mb D) (hc : FKept F w w') (hq : ∀ k, Q k → w'.heap[k]? = w.heap[k]?) : Outer w' g S n Q F mb D := by
  obtain ⟨h1, hf, h2, h3, h4, h5, h6, h7⟩ := h
  refine ⟨(hc g hf).trans h1, hf, ownsMap_kept h2 (hq mb h3), h3, h4, h5, fun s hs => ?_, h7⟩
  obtain ⟨b, e1, e2, e3, e4⟩ := h6 s hs
  exact ⟨b, e1, e2, e3, e4.kept (hq b e2) hc⟩
theorem Outer.below {w w' : World} {g : Nat} {S : St} {n : Nat} {Q F : Nat → Prop} {mb : Nat} {D : DataW Unit} (h : Outer w g S n Q F mb D) (hq : ∀ k, Q k → IsM w k) (hf : ∀ k, F k → IsC w k) (hb : Below w.heap.size w w') : Outer w' g S n Q F mb D :=
  h.kept (below_cells hb hf) (fun k hk => hb.block k (isM_lt (hq k hk)))
theorem HasM.kept {w w' : World} {g : Nat} {S : St} {n : Nat} {Q F : Nat → Prop} (h : HasM w g S n Q F) (hc : FKept F w w') (hq : ∀ k, Q k → w'.heap[k]? = w.heap[k]?) : HasM w' g S n Q F := by
  obtain ⟨mb, D, hO⟩ := h.ex
  refine ⟨fun k hk => ?_, fun k hk => ?_, h.nd, h.off, mb, D, hO.kept hc hq⟩
  · obtain ⟨a, b, e⟩ := h.q k hk
    exact ⟨a, b, (hq k hk).trans e⟩
  · obtain ⟨a, b, c, e⟩ := h.f k hk
    exact ⟨a, b, c, (hc k hk).trans e⟩
theorem HasM.below {w w' : World} {g : Nat} {S : St} {n : Nat} {Q F : Nat → Prop} (h : HasM w g S n Q F) (hb : Below w.heap.size w w') : HasM w' g S n Q F :=
  h.kept (below_cells hb h.f) (fun k hk => hb.block k (isM_lt (h.q k hk)))
theorem HasM.mono {w : World} {g : Nat} {S : St} {n n' : Nat} {Q F : Nat → Prop} (h : HasM w g S n Q F) (hn : n ≤ n') : HasM w g S n' Q F := by
  obtain ⟨mb, D, h1, hf, h2, h3, h4, h5, h6, h7⟩ := h.ex
  refine ⟨h.q, h.f, h.nd, h.off, mb, D, h1, hf, h2.mono hn, h3, h4, h5, fun s hs => ?_, h7⟩
  obtain ⟨b, e1, e2, e3, e4⟩ := h6 s hs
  exact ⟨b, e1, e2, e3, e4.mono hn⟩
end Go.Proofs.YtjbjcfnbgcloiaaGreatDoor

/- Small laws on whole numbers: joining and parting bits of an int. -/
namespace Go.RowKit
theorem Below.drewN {B : Nat} {a w : World} (h : Below B a w) (n : Nat) : Below B a (w.drewN n) := ⟨h.os, h.tape, h.output, h.size, h.block⟩
end Go.RowKit
namespace Go.Proofs.YtjbjcfnbgcloiaaGreatDoor
open Go.RowKit
theorem wf_u8 {a : Int} (h : (Lit.int .u8 a).wf = true) : 0 ≤ a ∧ a ≤ 255 := by
  simp [Lit.wf, IntKind.min, IntKind.max, IntKind.bits, IntKind.signed] at h; omega
theorem wf_i64 {a : Int} (h : (Lit.int .i64 a).wf = true) : -9223372036854775808 ≤ a ∧ a ≤ 9223372036854775807 := by
  simp [Lit.wf, IntKind.min, IntKind.max, IntKind.bits, IntKind.signed] at h; omega
end Go.Proofs.YtjbjcfnbgcloiaaGreatDoor

/- Names over lists of bytes: what may be a bucket's name, a key's; paths, and back; the next text. Plain laws: no program is in sight. -/
namespace Go.Proofs.YtjbjcfnbgcloiaaGreatDoor.Nam
open Go

def plainB (c : Int) : Bool := (decide (97 ≤ c) && decide (c ≤ 122)) || (decide (48 ≤ c) && decide (c ≤ 57))
def jointB (c : Int) : Bool := c == 45 || c == 46
def bw : Bool → List UInt8 → Option Bool
  | was, [] => some was
  | was, c :: t => if plainB c.toNat = true then bw false t else if jointB c.toNat = true ∧ was = false then bw true t else none
def bucketB (l : List UInt8) : Bool := decide (3 ≤ l.length) && decide (l.length ≤ 63) && (bw true l == some false)
theorem bw_append : ∀ (l m : List UInt8) (was : Bool), bw was (l ++ m) = (bw was l).bind fun x => bw x m
  | [], m, was => rfl
  | c :: t, m, was => by
    simp only [List.cons_append, bw]
    split
    · exact bw_append t m false
    · split
      · exact bw_append t m true
      · rfl
theorem bucketB_join (a b : List UInt8) (ha : bucketB a = true) (hb : bucketB b = true) : bucketB (a ++ [46] ++ b) = decide (a.length + b.length + 1 ≤ 63) := by
  simp only [bucketB, Bool.and_eq_true, decide_eq_true_eq, beq_iff_eq] at ha hb
  obtain ⟨⟨a1, a2⟩, a3⟩ := ha
  obtain ⟨⟨b1, b2⟩, b3⟩ := hb
  have e : bw true (a ++ [46] ++ b) = some false := by
    rw [List.append_assoc, bw_append, a3]
    show bw false ([46] ++ b) = _
    rw [bw_append, show bw false [46] = some true from by decide]
    exact b3
  unfold bucketB
  rw [e]
  simp only [List.length_append, List.length_cons, List.length_nil, beq_self_eq_true, Bool.and_true]
  rw [Bool.eq_iff_iff]
  simp only [Bool.and_eq_true, decide_eq_true_eq]
  omega

def keyByte (c : UInt8) : Bool := decide (32 ≤ c.toNat) && decide (c.toNat ≠ 127)
def keyB (l : List UInt8) : Bool := decide (l ≠ []) && decide (l.length ≤ 200) && Lib.validD l && l.all keyByte

theorem high_step (l : List UInt8) (hne : l ≠ []) (h0 : 128 ≤ (l.getD 0 0).toNat) (hok : ¬ ((Lib.decodeL l).1 = 65533 ∧ (Lib.decodeL l).2 = 1)) :
    ∀ c ∈ l.take (Lib.decodeL l).2, 128 ≤ c.toNat := by
  rw [Lib.decodeL_N] at hok ⊢
  match l, hne with
  | [a], _ =>
    simp at h0
    unfold Lib.decodeN at hok ⊢
    rw [if_neg (by simp; omega)] at hok ⊢
    simp at hok
  | [a, b], _ =>
    simp at h0
    unfold Lib.decodeN at hok ⊢
    simp only [List.length_cons, List.length_nil, List.getD_cons_zero, List.getD_cons_succ] at hok ⊢
    rw [if_neg (by omega)] at hok ⊢
    split at hok <;> rename_i hc
    · rw [if_pos hc]
      split at hok <;> rename_i hc2
      · rw [if_pos hc2]
        intro c hcm
        simp at hcm
        rcases hcm with rfl | rfl <;> omega
      · exact absurd ⟨rfl, rfl⟩ hok
    · split at hok <;> rename_i hc2
      · omega
      · split at hok <;> rename_i hc3
        · omega
        · exact absurd ⟨rfl, rfl⟩ hok
  | [a, b, d], _ =>
    simp at h0
    unfold Lib.decodeN at hok ⊢
    simp only [List.length_cons, List.length_nil, List.getD_cons_zero, List.getD_cons_succ] at hok ⊢
    rw [if_neg (by omega)] at hok ⊢
    split at hok <;> rename_i hc
    · rw [if_pos hc]
      split at hok <;> rename_i hc2
      · rw [if_pos hc2]
        intro c hcm
        simp at hcm
        rcases hcm with rfl | rfl <;> omega
      · exact absurd ⟨rfl, rfl⟩ hok
    · rw [if_neg hc]
      split at hok <;> rename_i hc2
      · rw [if_pos hc2]
        split at hok <;> rename_i hc3
        · rw [if_pos hc3]
          intro c hcm
          simp at hcm
          rcases hcm with rfl | rfl | rfl <;> omega
        · exact absurd ⟨rfl, rfl⟩ hok
      · split at hok <;> rename_i hc3
        · omega
        · exact absurd ⟨rfl, rfl⟩ hok
  | a :: b :: d :: e :: r, _ =>
    simp at h0
    unfold Lib.decodeN at hok ⊢
    simp only [List.length_cons, List.getD_cons_zero, List.getD_cons_succ] at hok ⊢
    rw [if_neg (by omega)] at hok ⊢
    split at hok <;> rename_i hc
    · rw [if_pos hc]
      split at hok <;> rename_i hc2
      · rw [if_pos hc2]
        intro c hcm
        simp at hcm
        rcases hcm with rfl | rfl <;> omega
      · exact absurd ⟨rfl, rfl⟩ hok
    · rw [if_neg hc]
      split at hok <;> rename_i hc2
      · rw [if_pos hc2]
        split at hok <;> rename_i hc3
        · rw [if_pos hc3]
          intro c hcm
          simp at hcm
          rcases hcm with rfl | rfl | rfl <;> omega
        · exact absurd ⟨rfl, rfl⟩ hok
      · rw [if_neg hc2]
        split at hok <;> rename_i hc3
        · rw [if_pos hc3]
          split at hok <;> rename_i hc4
          · rw [if_pos hc4]
            intro c hcm
            simp at hcm
            rcases hcm with rfl | rfl | rfl | rfl <;> omega
          · exact absurd ⟨rfl, rfl⟩ hok
        · exact absurd ⟨rfl, rfl⟩ hok

theorem high_key (l : List UInt8) (hne : l ≠ []) (h0 : 128 ≤ (l.getD 0 0).toNat) (hv : Lib.validD l = true) :
    Lib.validD (l.drop (Lib.decodeL l).2) = true ∧ l.all keyByte = (l.drop (Lib.decodeL l).2).all keyByte := by
  rw [Lib.validD_step l hne] at hv
  split at hv
  · cases hv
  · rename_i hok
    refine ⟨hv, ?_⟩
    have hh := high_step l hne h0 hok
    have e : (l.take (Lib.decodeL l).2).all keyByte = true := by
      rw [List.all_eq_true]
      intro c hc
      have := hh c hc
      unfold keyByte
      simp; omega
    conv => lhs; rw [← List.take_append_drop (Lib.decodeL l).2 l]
    rw [List.all_append, e, Bool.true_and]

def prefixB (l p : List UInt8) : Bool := decide (p.length ≤ l.length) && (l.take p.length == p)
theorem less_cons (d c : UInt8) (u t : List UInt8) : Op.bytesLess (d :: u) (c :: t) = (decide (d < c) || (d == c && Op.bytesLess u t)) := rfl
theorem less_nil (l : List UInt8) : Op.bytesLess l [] = false := by cases l <;> rfl

theorem less_irrefl : ∀ l : List UInt8, Op.bytesLess l l = false
  | [] => rfl
  | c :: t => by
    rw [less_cons, less_irrefl t]
    simp
theorem less_trans : ∀ a b c : List UInt8, Op.bytesLess a b = true → Op.bytesLess b c = true → Op.bytesLess a c = true
  | _, b, [], _, h => by rw [less_nil] at h; cases h
  | _, [], _ :: _, h, _ => by rw [less_nil] at h; cases h
  | [], _ :: _, _ :: _, _, _ => rfl
  | x :: a, y :: b, z :: c, h1, h2 => by
    rw [less_cons] at h1 h2 ⊢
    simp only [Bool.or_eq_true, decide_eq_true_eq, Bool.and_eq_true, beq_iff_eq] at h1 h2 ⊢
    rcases h1 with h1 | ⟨rfl, h1⟩
    · rcases h2 with h2 | ⟨rfl, h2⟩
      · exact .inl (UInt8.lt_trans h1 h2)
      · exact .inl h1
    · rcases h2 with h2 | ⟨rfl, h2⟩
      · exact .inl h2
      · exact .inr ⟨rfl, less_trans a b c h1 h2⟩
theorem less_asymm (a b : List UInt8) (h1 : Op.bytesLess a b = true) : Op.bytesLess b a = false := by
  cases h : Op.bytesLess b a
  · rfl
  · have := less_trans a b a h1 h
    rw [less_irrefl] at this
    cases this
theorem less_total : ∀ a b : List UInt8, Op.bytesLess a b = false → Op.bytesLess b a = false → a = b
  | [], [], _, _ => rfl
  | [], _ :: _, h, _ => by cases h
  | _ :: _, [], _, h => by cases h
  | x :: a, y :: b, h1, h2 => by
    rw [less_cons] at h1 h2
    simp only [Bool.or_eq_false_iff, decide_eq_false_iff_not, Bool.and_eq_false_iff, beq_eq_false_iff_ne] at h1 h2
    have e : x = y := by
      rcases Nat.lt_trichotomy x.toNat y.toNat with h | h | h
      · exact absurd (UInt8.lt_iff_toNat_lt.2 h) h1.1
      · exact UInt8.toNat_inj.1 h
      · exact absurd (UInt8.lt_iff_toNat_lt.2 h) h2.1
    subst e
    have q1 : Op.bytesLess a b = false := by rcases h1.2 with h | h; exact absurd rfl h; exact h
    have q2 : Op.bytesLess b a = false := by rcases h2.2 with h | h; exact absurd rfl h; exact h
    rw [less_total a b q1 q2]

end Go.Proofs.YtjbjcfnbgcloiaaGreatDoor.Nam

/- What package name's functions compute: contracts over lists of bytes. -/
namespace Go.Proofs.YtjbjcfnbgcloiaaGreatDoor
open Go.RowKit Nam

set_option maxHeartbeats 400000 in
theorem plain_is (n : Int) (w : World) : Calls Tryz.prog 76 #[.int .i32 n] w fun e w' => e = .returned (.bool (plainB n)) ∧ w = w' := by
  unfold plainB
  by_cases h1 : 97 ≤ n <;> by_cases h2 : n ≤ 122 <;> by_cases h3 : 48 ≤ n <;> by_cases h4 : n ≤ 57
  all_goals (try (exfalso; omega))
  all_goals
    go_enter Tryz.func76, Tryz.ntmps76
    go_wp2
    go_ret
    exact ⟨congrArg (fun x => Ending.returned (Value.bool x)) (by simp [h1, h2, h3, h4]), rfl⟩

set_option maxHeartbeats 400000 in
theorem joint_is (n : Int) (w : World) : Calls Tryz.prog 77 #[.int .i32 n] w fun e w' => e = .returned (.bool (jointB n)) ∧ w = w' := by
  unfold jointB
  by_cases h1 : n = 45
  · subst h1
    go_enter Tryz.func77, Tryz.ntmps77
    go_wp2
    go_ret
    exact ⟨rfl, rfl⟩
  · have e1 : (n == 45) = false := beq_eq_false_iff_ne.2 h1
    go_enter Tryz.func77, Tryz.ntmps77
    go_wp2
    go_ret
    exact ⟨congrArg (fun x => Ending.returned (Value.bool x)) (by simp [e1]), rfl⟩

theorem width_pos (s : ByteArray) (pos : Nat) (h : pos < s.size) : 1 ≤ (Utf8.decode s pos).2 := by
  by_cases ha : (s[pos]'h).toNat < 128
  · rw [decode_ascii s pos h ha]
    exact Nat.le_refl _
  · exact (decode_high s pos h (by omega)).2

theorem drop_at (s : ByteArray) (k : Nat) (h : k < s.size) : s.data.toList.drop k = s[k] :: s.data.toList.drop (k + 1) := by
  rw [List.drop_eq_getElem_cons (by simpa using h)]
  rfl
theorem size_list (s : ByteArray) : s.data.toList.length = s.size := by simp

set_option maxHeartbeats 1000000 in
theorem bucket_is (s : ByteArray) (w : World) (hs : s.size ≤ maxLen) : Calls Tryz.prog 49 #[.string s] w fun e w' => e = .returned (.bool (bucketB s.data.toList)) ∧ Below w.heap.size w w' := by
  unfold maxLen at hs
  obtain ⟨R, hR⟩ : ∃ R, bw true s.data.toList = R := ⟨_, rfl⟩
  obtain ⟨B, hB⟩ : ∃ B, bucketB s.data.toList = B := ⟨_, rfl⟩
  rw [hB]
  have hB' : B = (decide (3 ≤ s.size) && decide (s.size ≤ 63) && (R == some false)) := by rw [← hB, ← hR]; unfold bucketB; rw [size_list]
  clear hB
  have HB := Lib.hid hB'; clear hB'
  have HR := Lib.hid hR; clear hR
  go_enter Tryz.func49, Tryz.ntmps49
  go_wp2_with fail
  go_loopw [3, 4] (fun m v w' => ∃ (k : Nat) (was : Bool), w' = w.iter s k ∧ k ≤ s.size ∧ m = .int .i64 k ∧ v = .bool was ∧ Hid (bw was (s.data.toList.drop k) = R)) (fun _ _ w' => s.size - w'.iterPos w.heap.size)
  case atStart => exact ⟨0, true, rfl, Nat.zero_le _, rfl, rfl, by exact HR⟩
  case round =>
    obtain ⟨k, was, rfl, hk, rfl, rfl, HW⟩ := hrel
    have hb0 : Below w.heap.size w (w.iter s k) := (Below.refl _ _).alloc (Nat.le_refl _) _
    by_cases hp : k < s.size
    · have hnx : ∀ ty, (Instr.next (.pointer (some ⟨w.heap.size, 0, none⟩)) true ty).run Tryz.prog (w.iter s k) = _ := fun ty => run_next_any w s k ty hp
      have hd := drop_at s k hp
      have hw1 := width_pos s k hp
      obtain ⟨n, p2, hnp⟩ : ∃ n p2, Utf8.decode s k = (n, p2) := ⟨_, _, rfl⟩
      have hlow : (n < 128 → n = (s[k]).toNat ∧ p2 = 1) ∧ (128 ≤ n → 128 ≤ (s[k]).toNat) := by
        by_cases ha : (s[k]).toNat < 128
        · have h1 := decode_ascii s k hp ha
          rw [hnp] at h1
          obtain ⟨e1, e2⟩ := Prod.mk.inj h1
          exact ⟨fun _ => ⟨e1, e2⟩, fun h => by omega⟩
        · have h1 := decode_high s k hp (by omega)
          rw [hnp] at h1
          exact ⟨fun h => by have := h1.1; simp at this; omega, fun _ => by omega⟩
      have hle := decode_le s k
      rw [hnp] at hle hnx hw1
      simp only [] at hle hnx hw1
      clear hnp
      have HD := Lib.hid hd; clear hd
      have HL := Lib.hid hlow; clear hlow
      have h32 : IntKind.i32.wrap (n : Int) = (n : Int) := IntWalk.i32_in _ (by omega)
      have hk1 : IntKind.i64.wrap ((k : Int) + 1) = (k : Int) + 1 := IntWalk.i64_in _ (by omega)
      have NO : (plainB n = false) → (jointB n = false ∨ was = true) → Hid (B = false) := by
        intro h1 h2
        show B = false
        have e : bw was (s.data.toList.drop k) = none := by
          rw [HD.out]
          unfold bw
          by_cases hn : n < 128
          · have e1 := (HL.out.1 hn).1
            rw [← e1, if_neg (by simp [h1]), if_neg (by rcases h2 with h2 | h2 <;> simp [h2])]
          · have e2 := HL.out.2 (by omega)
            have q1 : plainB ((s[k]).toNat : Int) = false := by unfold plainB; simp; omega
            have q2 : jointB ((s[k]).toNat : Int) = false := by unfold jointB; simp; omega
            rw [if_neg (by simp [q1]), if_neg (by simp [q2])]
        rw [HB.out, ← HW.out, e]
        simp
      have NO' := Lib.hid NO; clear NO
      by_cases hpl : plainB n = true
      · have hn : n < 128 := by
          unfold plainB at hpl; simp at hpl; omega
        obtain ⟨e1, rfl⟩ := HL.out.1 hn
        have hj : jointB n = false := by unfold plainB at hpl; unfold jointB; simp at hpl ⊢; omega
        have GO : Hid (bw false (s.data.toList.drop (k + 1)) = R) := by
          show _ = _
          rw [← HW.out, HD.out]
          conv => rhs; unfold bw
          rw [← e1, if_pos hpl]
        have E1 := Lib.hid e1; clear e1
        go_wp2_with (first | (go_at_call 76; refine (plain_is _ _).mono ?_; rintro e w' ⟨rfl, rfl⟩) | (go_at_call 77; refine (joint_is _ _).mono ?_; rintro e w' ⟨rfl, rfl⟩))
        go_roundw
        case rel => exact ⟨k + 1, false, rfl, by omega, by go_num, rfl, GO⟩
        case measure => simp; omega
      · have hpl' : plainB n = false := by simpa using hpl
        clear hpl
        by_cases hj : jointB n = true
        · have hn : n < 128 := by
            unfold jointB at hj; simp at hj; omega
          obtain ⟨e1, rfl⟩ := HL.out.1 hn
          by_cases hwas : was = false
          · subst hwas
            have GO : Hid (bw true (s.data.toList.drop (k + 1)) = R) := by
              show _ = _
              rw [← HW.out, HD.out]
              conv => rhs; unfold bw
              rw [← e1, if_neg (by simp [hpl']), if_pos ⟨hj, rfl⟩]
            have E1 := Lib.hid e1; clear e1
            go_wp2_with (first | (go_at_call 76; refine (plain_is _ _).mono ?_; rintro e w' ⟨rfl, rfl⟩) | (go_at_call 77; refine (joint_is _ _).mono ?_; rintro e w' ⟨rfl, rfl⟩))
            go_roundw
            case rel => exact ⟨k + 1, true, rfl, by omega, by go_num, rfl, GO⟩
            case measure => simp; omega
          · obtain rfl : was = true := by simpa using hwas
            have hno := NO'.out hpl' (.inr rfl)
            have E1 := Lib.hid e1; clear e1
            go_wp2_with (first | (go_at_call 76; refine (plain_is _ _).mono ?_; rintro e w' ⟨rfl, rfl⟩) | (go_at_call 77; refine (joint_is _ _).mono ?_; rintro e w' ⟨rfl, rfl⟩))
            go_ret
            exact ⟨congrArg (fun x => Ending.returned (Value.bool x)) hno.out.symm, (Below.refl _ _).alloc (Nat.le_refl _) _⟩
        · have hj' : jointB n = false := by simpa using hj
          clear hj
          have hno := NO'.out hpl' (.inl hj')
          go_wp2_with (first | (go_at_call 76; refine (plain_is _ _).mono ?_; rintro e w' ⟨rfl, rfl⟩) | (go_at_call 77; refine (joint_is _ _).mono ?_; rintro e w' ⟨rfl, rfl⟩))
          go_ret
          exact ⟨congrArg (fun x => Ending.returned (Value.bool x)) hno.out.symm, (Below.refl _ _).alloc (Nat.le_refl _) _⟩
    · have hnx : ∀ ty, (Instr.next (.pointer (some ⟨w.heap.size, 0, none⟩)) true ty).run Tryz.prog (w.iter s k) = _ := fun ty => run_next_end w s k ty hp
      have FIN : Hid (B = (decide (3 ≤ k) && decide (k ≤ 63) && !was)) := by
        show _ = _
        have e2 := HW.out
        have hz : s.size = k := by omega
        have e1 : s.data.toList.drop k = [] := List.drop_eq_nil_of_le (by rw [size_list]; omega)
        rw [e1] at e2
        rw [HB.out, hz, ← e2]
        cases was <;> rfl
      go_wp2
      all_goals
        go_ret
        refine ⟨congrArg (fun x => Ending.returned (Value.bool x)) ?_, hb0⟩
        rw [FIN.out]
        simp
        try omega
end Go.Proofs.YtjbjcfnbgcloiaaGreatDoor

/- The small functions of package model. -/
namespace Go.Proofs.YtjbjcfnbgcloiaaGreatDoor
open Go.RowKit Nam YtjbjcfnbgcloiaaGreatDoorW.PrintWords

theorem zero63 (w : World) : (zeroValue 63).run Tryz.prog w = .ok (.map none) w := by kernel_rfl
theorem zero77 (w : World) : (zeroValue 64).run Tryz.prog w = .ok (.slice none 0 0) w := by kernel_rfl
theorem look1 {w : World} {g : Nat} {S : St} {n : Nat} {Q F : Nat → Prop} {mb : Nat} {D : DataW Unit} (h : Outer w g S n Q F mb D) (s : List UInt8) (hs : s.length ≤ maxLen) :
    (s ∉ S.B ∧ (Instr.lookup 57 (.map (some mb)) (.string (mkS s)) false).run Tryz.prog w = .ok (.map none) w) ∨
    (s ∈ S.B ∧ ∃ b : Nat, D.atKey (.string s) .nil = .lit (.int .i64 b) ∧ Q b ∧ b ≠ mb ∧ InnerM w F b n (S.V s) ∧ (Instr.lookup 57 (.map (some mb)) (.string (mkS s)) false).run Tryz.prog w = .ok (.map (some b)) w) := by
  obtain ⟨v, ps, hrun, hv⟩ := h.o.lookup KS Tryz.underlying57 (zero63 w) (zd := .nil) (zp := []) rfl (key_str s hs)
  by_cases hb : s ∈ S.B
  · obtain ⟨b, e1, e2, e3, e4⟩ := h.at_ s hb
    refine .inr ⟨hb, b, e1, e2, e3, e4, ?_⟩
    rw [e1] at hv
    rw [hrun, R1_one hv (show R1 (.map (some b)) = some (.lit (.int .i64 b), []) from rfl)]
  · refine .inl ⟨hb, ?_⟩
    rw [Maps.atKey_of_not_has (by rw [h.hs, decide_eq_false hb])] at hv
    rw [hrun, R1_one hv (show R1 (.map none) = some (.nil, []) from rfl)]
theorem look2 {w : World} {F : Nat → Prop} {b n : Nat} {f : List UInt8 → List Kp} (h : InnerM w F b n f) (s : List UInt8) (hs : s.length ≤ maxLen) :
    ∃ v, RowV w F v (f s) ∧ (Instr.lookup 63 (.map (some b)) (.string (mkS s)) false).run Tryz.prog w = .ok v w := by
  obtain ⟨D, h1, h2⟩ := h
  obtain ⟨v, ps, hrun, hv⟩ := h1.lookup KS Tryz.underlying63 (zero77 w) (zd := .nil) (zp := []) rfl (key_str s hs)
  obtain ⟨v', ps', hv', hr⟩ := h2 s
  refine ⟨v', hr, ?_⟩
  rw [hrun, R2_one hv hv']

theorem there_is (w : World) (g mb : Nat) (hc : w.heap[g]? = some (.cells #[.map (some mb)] 59 (0, 0))) :
    Calls Tryz.prog 48 #[.pointer (some ⟨g, 0, none⟩)] w fun e w' => e = .returned (.bool true) ∧ w = w' := by
  have c0 := (blk_cell hc 0).trans (rfl : _ = some (Value.map (some mb)))
  clear hc
  have hq := fun (w : World) (r : Option Nat) => run_neq_map_nil (P := Tryz.prog) w 57 _ _ r Tryz.underlying57
  go_enter Tryz.func48, Tryz.ntmps48
  go_wp2
  go_ret
  exact ⟨rfl, rfl⟩

def St.new : St := ⟨[], fun _ _ => []⟩
theorem new_is (w : World) : Calls Tryz.prog 7 #[] w fun e w' => (∃ g Q F, e = .returned (.pointer (some ⟨g, 0, none⟩)) ∧ HasM w' g St.new 0 Q F ∧ (∀ k, Q k → w.heap.size ≤ k) ∧ ∀ k, F k → w.heap.size ≤ k) ∧ Below w.heap.size w w' := by
  have hmm := @run_makeMap Tryz.prog
  go_enter Tryz.func7, Tryz.ntmps7
  go_wp2
  go_ret
  have hg : ((w.alloc (.map #[] 0)).alloc (.cells #[.map (some w.heap.size)] 59)).heap[w.heap.size + 1]? = some (.cells #[.map (some w.heap.size)] 59 (0, 0)) := by
    have := heap_alloc_new (w.alloc (.map #[] 0)) (.cells #[.map (some w.heap.size)] 59)
    simpa using this
  refine ⟨⟨w.heap.size + 1, fun k => k = w.heap.size, fun k => k = w.heap.size + 1, rfl, ⟨?_, ?_, List.nodup_nil, fun _ _ _ => rfl, w.heap.size, .map [], ?_⟩, fun k hk => by omega, fun k hk => by omega⟩, ((Below.refl _ _).alloc (Nat.le_refl _) _).alloc (by simp) _⟩
  · rintro k rfl
    exact ⟨#[], 0, (heap_alloc_old _ _ (by simp)).trans (heap_alloc_new w _)⟩
  · rintro k rfl
    exact ⟨_, _, _, hg⟩
  · refine ⟨hg, rfl, (World.ownsMap_made w Tryz.prog 9 R1).alloc _, rfl, rfl, fun s => ?_, fun s hs => ?_, fun s hs => ?_⟩
    · exact (decide_eq_false (List.not_mem_nil)).symm
    · exact absurd hs List.not_mem_nil
    · exact absurd hs List.not_mem_nil

def St.make (S : St) (s : List UInt8) : St × Int :=
  if bucketB s = false then (S, 12) else if s ∈ S.B then (S, 7) else if 64 ≤ S.B.length then (S, 18) else ({ S with B := S.B ++ [s] }, 0)

theorem made {w w2 : World} {g n mb : Nat} {S : St} {Q F : Nat → Prop} {D : DataW Unit} {s : List UInt8} (h : Outer w g S n Q F mb D) (hq : ∀ k, Q k → IsM w k) (hF : ∀ k, F k → IsC w k) (nd : S.B.Nodup) (off : ∀ s, s ∉ S.B → ∀ k, S.V s k = []) (hs : s ∉ S.B)
    (hown : w2.ownsMap Tryz.prog 9 R1 mb (n + 1) (D.put (.string s) (.lit (.int .i64 w.heap.size)))) (hg : (w.alloc (.map #[] 0)).grownBy w2 (some mb)) :
    HasM w2 g { S with B := S.B ++ [s] } (n + 1) (fun k => Q k ∨ k = w.heap.size) F ∧ Moved Q w w2 := by
  obtain ⟨h1, hfg, h2, h3, h4, h5, h6, h7⟩ := h
  have hmb : mb < w.heap.size := isM_lt (hq mb h3)
  have hold : ∀ k, k < w.heap.size → k ≠ mb → w2.heap[k]? = w.heap[k]? := fun k hk hne =>
    (hg.block k (by simp; omega) (by simp; exact hne)).trans (heap_alloc_old w _ hk)
  have hnew : w2.heap[w.heap.size]? = some (.map #[] 0) := (hg.block w.heap.size (by simp) (by simp; omega)).trans (heap_alloc_new w _)
  have hck : FKept F w w2 := fun k hk => hold k (isC_lt (hF k hk)) (fun e => isC_not (hF k hk) (hq k (by rw [e]; exact h3)))
  have hD : Maps.has D (.string s) = false := by rw [h5, decide_eq_false hs]
  have hti := h2.tidy KS
  refine ⟨⟨fun k hk => ?_, fun k hk => ?_, ?_, fun t ht k => ?_, mb, _, ⟨(hck g hfg).trans h1, hfg, hown, .inl h3, ?_, fun t => ?_, fun t ht => ?_, fun t ht t' ht' he => ?_⟩⟩, ?_⟩
  · rcases hk with hk | rfl
    · by_cases e : k = mb
      · subst e; exact ownsMap_isM hown
      · obtain ⟨a, b, hh⟩ := hq k hk
        exact ⟨a, b, (hold k (isM_lt (hq k hk)) e).trans hh⟩
    · exact ⟨_, _, hnew⟩
  · obtain ⟨a, b, c, hh⟩ := hF k hk
    exact ⟨a, b, c, (hck k hk).trans hh⟩
  · exact List.nodup_append.2 ⟨nd, by simp, fun a ha b hb e => hs (by rw [List.mem_singleton] at hb; subst hb; subst e; exact ha)⟩
  · exact off t (fun e => ht (List.mem_append_left _ e)) k
  · rw [Maps.size_put hti, hD, h4]
    simp
  · by_cases e : t = s
    · subst e
      rw [Maps.has_put_same h2.isMap (isKey_str t)]
      simp
    · rw [Maps.has_put_other (fun e' => e (by injection e')), h5]
      simp [e]
  · by_cases e : t = s
    · subst e
      refine ⟨w.heap.size, Maps.atKey_put_same h2.isMap (isKey_str t) _ _, .inr rfl, by omega, .map [], ⟨#[], 0, hnew, ⟨by simp, MapKept.stamped_empty 0, by simp⟩, by simp, rfl⟩, fun k => ⟨.slice none 0 0, [], rfl, ?_⟩⟩
      show RowV w2 F _ (S.V t k)
      rw [off t hs k]
      exact rowV_nil _ _
    · have ht' : t ∈ S.B := by
        rcases List.mem_append.1 ht with h | h
        · exact h
        · exact absurd (List.mem_singleton.1 h) e
      obtain ⟨b, e1, e2, e3, e4⟩ := h6 t ht'
      exact ⟨b, by rw [Maps.atKey_put_other (fun e' => e (by injection e'))]; exact e1, .inl e2, e3, (e4.kept (hold b (isM_lt (hq b e2)) e3) hck).mono (by omega)⟩
  · have hc : ∀ t, t ∈ S.B ++ [s] → t = s ∨ t ∈ S.B := fun t ht => by
      rcases List.mem_append.1 ht with h | h
      · exact .inr h
      · exact .inl (List.mem_singleton.1 h)
    have hlt : ∀ t, t ∈ S.B → (D.put (.string s) (.lit (.int .i64 w.heap.size))).atKey (.string t) .nil ≠ .lit (.int .i64 w.heap.size) := fun t hin e => by
      obtain ⟨b, e1, e2, e3, e4⟩ := h6 t hin
      rw [Maps.atKey_put_other (fun e' => hs (by injection e' with e'; rw [← e']; exact hin)), e1] at e
      have := isM_lt (hq b e2)
      simp only [DataW.lit.injEq, Lit.int.injEq, true_and] at e
      omega
    have hsm := Maps.atKey_put_same h2.isMap (isKey_str s) (.lit (.int .i64 w.heap.size)) (.nil : DataW Unit)
    rcases hc t ht with e1 | ht1 <;> rcases hc t' ht' with e2 | ht2
    · rw [e1, e2]
    · rw [e1, hsm] at he
      exact absurd he.symm (hlt t' ht2)
    · rw [e2, hsm] at he
      exact absurd he (hlt t ht1)
    · rw [Maps.atKey_put_other (fun e' => hs (by injection e' with e'; rw [← e']; exact ht1)), Maps.atKey_put_other (fun e' => hs (by injection e' with e'; rw [← e']; exact ht2))] at he
      exact h7 t ht1 t' ht2 he
  · refine ⟨hg.os, hg.tape, hg.output, ?_, fun k hk hn => hold k hk (fun e => hn (by rw [e]; exact h3))⟩
    have := hg.size
    simp at this
    omega

def MakeIs (S : St) (n : Nat) (Q F : Nat → Prop) (g : Nat) (s : List UInt8) (w : World) (e : Ending) (w' : World) : Prop :=
  ∃ Q', e = .returned (.int .i64 (S.make s).2) ∧ HasM w' g (S.make s).1 (n + 1) Q' F ∧ Moved Q w w' ∧ ∀ k, Q' k → Q k ∨ w.heap.size ≤ k
theorem make_same {S : St} {n : Nat} {Q F : Nat → Prop} {g : Nat} {s : List UInt8} {w w' : World} {r : Int} (h : S.make s = (S, r)) (hm : HasM w g S n Q F) (hb : Below w.heap.size w w') : MakeIs S n Q F g s w (.returned (.int .i64 r)) w' := by
  unfold MakeIs
  rw [h]
  exact ⟨Q, rfl, (hm.below hb).mono (by omega), Moved.of_below hb, fun k hk => .inl hk⟩

set_option maxHeartbeats 1000000 in
set_option maxRecDepth 100000 in
theorem make_is (w : World) (g : Nat) (S : St) (n : Nat) (Q F : Nat → Prop) (s : List UInt8) (hs : s.length ≤ 100000) (hn : n ≤ 100000) (hm : HasM w g S n Q F) :
    Calls Tryz.prog 16 #[.pointer (some ⟨g, 0, none⟩), .string (mkS s)] w (MakeIs S n Q F g s w) := by
  have hsz : (mkS s).size ≤ maxLen := by rw [mkS_size]; unfold maxLen; omega
  obtain ⟨mb, D, hO⟩ := hm.ex
  have HM := Lib.hid hm; clear hm
  have HO := Lib.hid hO
  have c0 := (blk_cell hO.c 0).trans (rfl : _ = some (Value.map (some mb)))
  have HTh := Lib.hid (there_is w g mb hO.c)
  clear hO
  obtain ⟨ok, hok⟩ : ∃ ok, bucketB s = ok := ⟨_, rfl⟩
  have HBk : Hid (∀ W, Calls Tryz.prog 49 #[.string (mkS s)] W fun e w' => e = .returned (.bool ok) ∧ Below W.heap.size W w') := fun W => by
    have := bucket_is (mkS s) W hsz
    rw [mkS_list, hok] at this
    exact this
  have hq := fun (w : World) (r : Option Nat) => run_neq_map_nil (P := Tryz.prog) w 63 _ _ r Tryz.underlying63
  have hmm := @run_makeMap Tryz.prog
  have HOK := Lib.hid hok; clear hok
  cases ok with
  | false =>
    have HR : Hid (S.make s = (S, 12)) := by show _ = _; unfold St.make; rw [if_pos HOK.out]
    go_enter Tryz.func16, Tryz.ntmps16
    go_wp2_with fail
    refine HTh.out.mono ?_
    rintro e w' ⟨rfl, rfl⟩
    go_wp2_with fail
    refine (HBk.out _).mono ?_
    rintro e w1 ⟨rfl, hb1⟩
    go_wp2_with fail
    go_ret
    exact make_same HR.out HM.out hb1
  | true =>
    go_enter Tryz.func16, Tryz.ntmps16
    go_wp2_with fail
    refine HTh.out.mono ?_
    rintro e w' ⟨rfl, rfl⟩
    go_wp2_with fail
    refine (HBk.out _).mono ?_
    rintro e w1 ⟨rfl, hb1⟩
    have HM1 := Lib.hid (HM.out.below hb1)
    have HB1 := Lib.hid hb1
    have hO1 := HO.out.below HM.out.q HM.out.f hb1
    have HO1 := Lib.hid hO1
    have c1 := (blk_cell hO1.c 0).trans (rfl : _ = some (Value.map (some mb)))
    have hl := hO1.o.len Tryz.underlying57 3
    rw [hO1.sz] at hl
    clear c0 hb1
    rcases look1 hO1 s (by unfold maxLen; omega) with ⟨hsB, hrun⟩ | ⟨hsB, b, _, _, _, _, hrun⟩
    rotate_left
    · have HR : Hid (S.make s = (S, 7)) := by show _ = _; unfold St.make; rw [if_neg (by rw [HOK.out]; simp), if_pos hsB]
      clear hO1 hsB
      go_wp2_with fail
      go_ret
      exact make_same HR.out HM.out HB1.out
    by_cases h64 : 64 ≤ S.B.length
    · have HR : Hid (S.make s = (S, 18)) := by show _ = _; unfold St.make; rw [if_neg (by rw [HOK.out]; simp), if_neg hsB, if_pos h64]
      have hz : (64 : Int) ≤ (S.B.length : Int) := by omega
      clear hO1 hsB h64
      go_wp2_with fail
      go_ret
      exact make_same HR.out HM.out HB1.out
    · have HR : Hid (S.make s = ({ S with B := S.B ++ [s] }, 0)) := by show _ = _; unfold St.make; rw [if_neg (by rw [HOK.out]; simp), if_neg hsB, if_neg h64]
      have hz : (S.B.length : Int) < (64 : Int) := by omega
      have HSB := Lib.hid hsB
      clear hO1 hsB h64
      have hmx : n < maxLen := by unfold maxLen; omega
      go_wp2_with (at_mapUpdate; refine wpList_mapUpdate_own _ rfl _ _ _ 57 rfl 9 63 KS Tryz.underlying57 R1 mb n D rfl (HO1.out.o.alloc _) hmx _ _ (.string s) rfl rfl (key_str s (by unfold maxLen; omega)) (.lit (.int .i64 w1.heap.size)) [] rfl ?_; intro w2 hown2 hg2)
      go_ret
      obtain ⟨h1, h2⟩ := made HO1.out HM1.out.q HM1.out.f HM1.out.nd HM1.out.off HSB.out hown2 hg2
      refine ⟨_, by rw [HR.out]; rfl, by rw [HR.out]; exact h1, ?_, ?_⟩
      · exact (Moved.of_below HB1.out).trans h2 (fun i hi => .inl hi)
      · rintro k (hk | rfl)
        · exact .inl hk
        · exact .inr HB1.out.size
end Go.Proofs.YtjbjcfnbgcloiaaGreatDoor

/- The sum of bytes (package crc). -/
namespace Go.Proofs.YtjbjcfnbgcloiaaGreatDoor
open Go.RowKit Nam YtjbjcfnbgcloiaaGreatDoorW.PrintWords

def bitC (s : Int) : Int := if (bits .and .u32 s 1 == 1) = true then bits .xor .u32 (s / 2) 2197175160 else s / 2
def bitsC : Nat → Int → Int
  | 0, s => s
  | j + 1, s => bitsC j (bitC s)
def byteC (s x : Int) : Int := bitsC 8 (bits .xor .u32 s x)
def crcC (s : Int) (l : List Int) : Int := bits .xor .u32 IntKind.u32.max (l.foldl byteC (bits .xor .u32 IntKind.u32.max s))
def sumC (l : List UInt8) : Int := crcC 0 (byN l)
theorem xorR (a b : Int) : 0 ≤ bits .xor .u32 a b ∧ bits .xor .u32 a b < 4294967296 := by
  unfold bits
  simp only [IntKind.wrap_u32]
  omega
theorem bitR (s : Int) (h : 0 ≤ s ∧ s < 4294967296) : 0 ≤ bitC s ∧ bitC s < 4294967296 := by
  unfold bitC
  split
  · exact xorR _ _
  · omega
theorem byN_range (l : List UInt8) (k : Int) (h0 : 0 ≤ k) (h1 : k < l.length) : 0 ≤ rd (byN l) k ∧ rd (byN l) k ≤ 255 := by
  obtain ⟨i, rfl⟩ := Int.eq_ofNat_of_zero_le h0
  have hi : i < (byN l).length := by rw [byN_length]; omega
  unfold rd
  rw [Int.toNat_natCast, List.getD_eq_getElem?_getD, List.getElem?_eq_getElem hi, Option.getD_some]
  have : (byN l)[i] ∈ byN l := List.getElem_mem _
  obtain ⟨c, _, hc⟩ := List.mem_map.1 (show (byN l)[i] ∈ (mkS l).data.toList.map _ from this)
  rw [← hc]
  have := c.toNat_lt
  omega

set_option maxHeartbeats 1000000 in
set_option maxRecDepth 100000 in
theorem more_crc (l : List UInt8) (A : Option Addr) (c : Nat) (s0 : Int) (w : World) (hl : l.length ≤ 1000000) (hC : (Kd.int .u8).C w A l.length (byN l)) :
    Calls Tryz.prog 79 #[.int .u32 s0, .slice A l.length c] w fun e w' => e = .returned (.int .u32 (crcC s0 (byN l))) ∧ w = w' := by
  have HC := Lib.hid hC; clear hC
  obtain ⟨n, hn⟩ : ∃ n, l.length = n := ⟨_, rfl⟩
  have HN := Lib.hid hn
  rw [hn] at hl HC ⊢
  clear hn
  obtain ⟨R, hR⟩ : ∃ R, (byN l).foldl byteC (bits .xor .u32 IntKind.u32.max s0) = R := ⟨_, rfl⟩
  have hfin : Hid (crcC s0 (byN l) = bits .xor .u32 IntKind.u32.max R) := by show _ = _; rw [← hR]; rfl
  have HR : Hid (((byN l).drop 0).foldl byteC (bits .xor .u32 IntKind.u32.max s0) = R) := by show _ = _; rw [List.drop_zero]; exact hR
  clear hR
  have hst := xorR IntKind.u32.max s0
  go_enter Tryz.func79, Tryz.ntmps79
  go_wp2_with fail
  go_loop [0, 12] (fun vs vi => ∃ (s : Int) (k : Nat), vs = .int .u32 s ∧ 0 ≤ s ∧ s < 4294967296 ∧ vi = .int .i64 k ∧ k ≤ n ∧ Hid (((byN l).drop k).foldl byteC s = R)) (fun _ vi => n - (intOf vi).toNat)
  case atStart => exact ⟨_, 0, rfl, hst.1, hst.2, rfl, Nat.zero_le _, HR⟩
  case round =>
    clear HR hst
    obtain ⟨s, k, rfl, hs0, hs1, rfl, hk, HR⟩ := hrel
    by_cases hlt : k < n
    · have hltz : (k : Int) < (n : Int) := by omega
      have hkl : k < (byN l).length := by rw [byN_length, HN.out]; exact hlt
      obtain ⟨ad, hA, hcell⟩ := Kd.at_int HC.out (k : Int) (by omega) (by omega)
      subst hA
      rw [Int.toNat_natCast] at hcell
      have hrg := byN_range l (k : Int) (by omega) (by rw [HN.out]; exact hltz)
      obtain ⟨x, hx⟩ : ∃ x, rd (byN l) (k : Int) = x := ⟨_, rfl⟩
      rw [hx] at hcell hrg
      obtain ⟨hx0, hx1⟩ := hrg
      have HR2 : Hid (((byN l).drop (k + 1)).foldl byteC (bitsC 8 (bits .xor .u32 s x)) = R) := by
        show _ = _
        have h := HR.out
        rw [List.drop_eq_getElem_cons hkl, List.foldl_cons] at h
        have e : (byN l)[k] = x := by
          rw [← hx]
          unfold rd
          rw [Int.toNat_natCast, List.getD_eq_getElem?_getD, List.getElem?_eq_getElem hkl, Option.getD_some]
        rw [e] at h
        exact h
      clear HR hx hkl
      have hxr := xorR s x
      obtain ⟨T, hT⟩ : ∃ T, bitsC 8 (bits .xor .u32 s x) = T := ⟨_, rfl⟩
      rw [hT] at HR2
      have HT : Hid (bitsC (8 - 0) (bits .xor .u32 s x) = T) := hT
      clear hT
      go_wp2_with fail
      go_loop [0, 20] (fun vs vi => ∃ (s : Int) (j : Nat), vs = .int .u32 s ∧ 0 ≤ s ∧ s < 4294967296 ∧ vi = .int .i64 j ∧ j ≤ 8 ∧ Hid (bitsC (8 - j) s = T)) (fun _ vi => 8 - (intOf vi).toNat)
      case atStart => exact ⟨_, 0, rfl, hxr.1, hxr.2, rfl, Nat.zero_le _, HT⟩
      case round =>
        clear HT hxr hcell
        obtain ⟨s2, j, rfl, hs20, hs21, rfl, hj, HT⟩ := hrel
        by_cases hj8 : j < 8
        · have hjz : (j : Int) < 8 := by omega
          have hb := bitR s2 ⟨hs20, hs21⟩
          have HT2 : Hid (bitsC (8 - (j + 1)) (bitC s2) = T) := by
            show _ = _
            have h := HT.out
            rw [show 8 - j = (8 - (j + 1)) + 1 by omega, bitsC] at h
            exact h
          clear HT
          unfold bitC at hb HT2
          obtain ⟨q, hq⟩ : ∃ q, (bits .and .u32 s2 1 == 1) = q := ⟨_, rfl⟩
          rw [hq] at hb HT2
          cases q
          · rw [if_neg (by simp)] at hb
            have HT3 : Hid (bitsC (8 - (j + 1)) (s2 / 2) = T) := by have h := HT2.out; rw [if_neg (by simp)] at h; exact h
            clear HT2
            go_wp2_with fail
            go_round
            case rel => exact ⟨_, j + 1, rfl, hb.1, hb.2, by go_num, by omega, HT3⟩
            case measure => simp [intOf]; omega
          · rw [if_pos rfl] at hb
            have HT3 : Hid (bitsC (8 - (j + 1)) (bits .xor .u32 (s2 / 2) 2197175160) = T) := by have h := HT2.out; rw [if_pos rfl] at h; exact h
            clear HT2
            go_wp2_with fail
            go_round
            case rel => exact ⟨_, j + 1, rfl, hb.1, hb.2, by go_num, by omega, HT3⟩
            case measure => simp [intOf]; omega
        · obtain rfl : j = 8 := by omega
          have hs2 : s2 = T := HT.out
          subst hs2
          clear HT
          go_wp2_with fail
          go_round
          case rel => exact ⟨_, k + 1, rfl, hs20, hs21, by go_num, by omega, HR2⟩
          case measure => simp [intOf]; omega
    · obtain rfl : k = n := by omega
      have hs2 : s = R := by
        have h := HR.out
        rw [List.drop_eq_nil_of_le (by rw [byN_length, HN.out]; omega)] at h
        exact h
      subst hs2
      clear HR
      go_wp2_with fail
      go_ret
      exact ⟨by rw [hfin.out]; rfl, rfl⟩

theorem sum_is (l : List UInt8) (A : Option Addr) (c : Nat) (w : World) (hl : l.length ≤ 1000000) (hC : (Kd.int .u8).C w A l.length (byN l)) :
    Calls Tryz.prog 52 #[.slice A l.length c] w fun e w' => e = .returned (.int .u32 (sumC l)) ∧ w = w' := by
  have HM := Lib.hid (more_crc l A c 0 w hl hC)
  clear hC hl
  go_enter Tryz.func52, Tryz.ntmps52
  go_wp2_with fail
  refine HM.out.mono ?_
  rintro e w' ⟨rfl, rfl⟩
  go_wp2_with fail
  go_ret
  exact ⟨rfl, rfl⟩
end Go.Proofs.YtjbjcfnbgcloiaaGreatDoor

/- What package name's functions compute (keys, the order, prefixes, the next text): contracts over lists of bytes. -/
namespace Go.Proofs.YtjbjcfnbgcloiaaGreatDoor
open Go.RowKit Nam

def Tabs (w : World) : Prop := Lib.Utf8Tabs (Tryz.laysValid_ren.g 3) (Tryz.laysValid_ren.g 4) w
theorem Tabs.below {w w' : World} (h : Tabs w) (hb : Below w.heap.size w w') : Tabs w' := Utf8Tabs_below h hb

theorem valid_is (s : ByteArray) (w : World) (hs : s.size ≤ maxLen) (hT : Tabs w) :
    Calls Tryz.prog 54 #[.string s] w fun e w' => e = .returned (.bool (Lib.validD s.data.toList)) ∧ Below w.heap.size w w' :=
  Any.utf8_ValidString Tryz.laysValid s w (by unfold maxLen at hs; omega) hT

set_option maxHeartbeats 400000 in
theorem less_is (a b : ByteArray) (w : World) : Calls Tryz.prog 90 #[.string a, .string b] w fun e w' => e = .returned (.bool (Op.bytesLess a.toList b.toList)) ∧ w = w' := by
  go_enter Tryz.func90, Tryz.ntmps90
  go_wp2
  go_ret
  exact ⟨rfl, rfl⟩

set_option maxHeartbeats 400000 in
theorem lprefix_is (a b : ByteArray) (w : World) (ha : a.size ≤ maxLen) (hb : b.size ≤ maxLen) : Calls Tryz.prog 127 #[.string a, .string b] w fun e w' => e = .returned (.bool (prefixB a.data.toList b.data.toList)) ∧ w = w' := by
  unfold maxLen at ha hb
  by_cases h : b.size ≤ a.size
  · have hz : (b.size : Int) ≤ (a.size : Int) := by omega
    go_enter Tryz.func127, Tryz.ntmps127
    go_wp2
    go_ret
    refine ⟨congrArg (fun x => Ending.returned (Value.bool x)) ?_, rfl⟩
    unfold prefixB
    rw [ByteArray.toList_eq, ByteArray.toList_eq, Lib.extract_data, size_list, size_list]
    simp [h]
  · have hz : (a.size : Int) < (b.size : Int) := by omega
    go_enter Tryz.func127, Tryz.ntmps127
    go_wp2
    go_ret
    refine ⟨congrArg (fun x => Ending.returned (Value.bool x)) ?_, rfl⟩
    unfold prefixB
    rw [size_list, size_list, decide_eq_false h]
    rfl

set_option maxHeartbeats 400000 in
theorem hasprefix_is (a b : ByteArray) (w : World) (ha : a.size ≤ maxLen) (hb : b.size ≤ maxLen) : Calls Tryz.prog 118 #[.string a, .string b] w fun e w' => e = .returned (.bool (prefixB a.data.toList b.data.toList)) ∧ w = w' := by
  go_enter Tryz.func118, Tryz.ntmps118
  go_wp2_with (go_at_call 127; refine (lprefix_is _ _ _ ha hb).mono ?_; rintro e w' ⟨rfl, rfl⟩)
  go_ret
  exact ⟨rfl, rfl⟩

set_option maxHeartbeats 400000 in
theorem prefix_is (a b : ByteArray) (w : World) (ha : a.size ≤ maxLen) (hb : b.size ≤ maxLen) : Calls Tryz.prog 99 #[.string a, .string b] w fun e w' => e = .returned (.bool (prefixB a.data.toList b.data.toList)) ∧ w = w' := by
  go_enter Tryz.func99, Tryz.ntmps99
  go_wp2_with (go_at_call 118; refine (hasprefix_is _ _ _ ha hb).mono ?_; rintro e w' ⟨rfl, rfl⟩)
  go_ret
  exact ⟨rfl, rfl⟩

set_option maxHeartbeats 2000000 in
theorem key_is (s : ByteArray) (w : World) (hs : s.size ≤ maxLen) (hT : Tabs w) : Calls Tryz.prog 78 #[.string s] w fun e w' => e = .returned (.bool (keyB s.data.toList)) ∧ Below w.heap.size w w' := by
  have hV := valid_is s w hs hT
  unfold maxLen at hs
  have HV := Lib.hid hV; clear hV
  have HT := Lib.hid hT; clear hT
  have hlist : s.toList = s.data.toList := ByteArray.toList_eq s
  by_cases h0 : s.toList = []
  · have hk : keyB s.data.toList = false := by unfold keyB; rw [← hlist, h0]; rfl
    rw [hk]; clear hk
    clear hlist
    go_enter Tryz.func78, Tryz.ntmps78
    go_wp2
    go_ret
    exact ⟨rfl, Below.refl _ _⟩
  · have h0e : s.toList.isEmpty = false := by simpa using h0
    by_cases h2 : s.size ≤ 200
    · have h2z : (s.size : Int) ≤ 200 := by omega
      by_cases hv : Lib.validD s.data.toList = true
      · obtain ⟨R, hR⟩ : ∃ R, s.data.toList.all keyByte = R := ⟨_, rfl⟩
        have hk : keyB s.data.toList = R := by
          unfold keyB
          rw [hR, hv, size_list, decide_eq_true h2, decide_eq_true (by rw [← hlist]; exact h0)]
          simp
        rw [hk]; clear hk hlist
        rw [hv] at HV
        have H0 := Lib.hid h0; clear h0
        have HR : Hid (Lib.validD (s.data.toList.drop 0) = true ∧ (s.data.toList.drop 0).all keyByte = R) := ⟨hv, hR⟩
        clear hv hR
        go_enter Tryz.func78, Tryz.ntmps78
        go_wp2_with fail
        refine HV.out.mono ?_
        rintro e w1 ⟨rfl, hb1⟩
        go_wp2_with fail
        go_loopw [] (fun w' => ∃ (k : Nat), w' = w1.iter s k ∧ k ≤ s.size ∧ Hid (Lib.validD (s.data.toList.drop k) = true ∧ (s.data.toList.drop k).all keyByte = R)) (fun w' => s.size - w'.iterPos w1.heap.size)
        case atStart => exact ⟨0, rfl, Nat.zero_le _, HR⟩
        case round =>
          obtain ⟨k, rfl, hk, HK⟩ := hrel
          have hb2 : Below w.heap.size w (w1.iter s k) := hb1.alloc hb1.size _
          by_cases hp : k < s.size
          · have hnx : ∀ ty, (Instr.next (.pointer (some ⟨w1.heap.size, 0, none⟩)) true ty).run Tryz.prog (w1.iter s k) = _ := fun ty => run_next_any w1 s k ty hp
            have hne : s.data.toList.drop k ≠ [] := by
              intro e
              have := congrArg List.length e
              rw [List.length_drop, size_list] at this
              simp at this; omega
            have hw1 := width_pos s k hp
            have hle := decode_le s k
            have hdl := Lib.decodeL_drop s k
            have hd := drop_at s k hp
            obtain ⟨n, p2, hnp⟩ : ∃ n p2, Utf8.decode s k = (n, p2) := ⟨_, _, rfl⟩
            have STEP : Hid ((n < 128 → p2 = 1 ∧ Lib.validD (s.data.toList.drop (k + 1)) = true ∧ R = (decide (32 ≤ n) && decide (n ≠ 127) && (s.data.toList.drop (k + 1)).all keyByte)) ∧
                (128 ≤ n → k + p2 ≤ s.size ∧ Lib.validD (s.data.toList.drop (k + p2)) = true ∧ (s.data.toList.drop (k + p2)).all keyByte = R)) := by
              show _ ∧ _
              obtain ⟨kv, ka⟩ := HK.out
              by_cases ha : (s[k]).toNat < 128
              · have h1 := decode_ascii s k hp ha
                rw [hnp] at h1
                obtain ⟨e1, e2⟩ := Prod.mk.inj h1
                refine ⟨fun _ => ⟨e2, ?_, ?_⟩, fun h => by omega⟩
                · rw [hd, Lib.validD_cons _ _ ha] at kv
                  exact kv
                · rw [hd, List.all_cons] at ka
                  rw [← ka, e1]
                  rfl
              · have h1 := decode_high s k hp (by omega)
                rw [hnp] at h1
                have h128 : 128 ≤ (((s.data.toList.drop k).getD 0 0)).toNat := by
                  rw [hd]; simp; omega
                have hh := high_key _ hne h128 kv
                have hl := Lib.decodeL_le _ hne
                rw [hdl, hnp] at hh hl
                rw [List.drop_drop] at hh
                simp only [] at hh hl
                rw [List.length_drop, size_list] at hl
                exact ⟨fun h => by have := h1.1; simp at this; omega, fun _ => ⟨by omega, hh.1, by rw [← hh.2]; exact ka⟩⟩
            rw [hnp] at hle hnx hw1
            simp only [] at hle hnx hw1
            clear hnp hne hdl hd
            have h32 : IntKind.i32.wrap (n : Int) = (n : Int) := IntWalk.i32_in _ (by omega)
            by_cases hn : n < 128
            · obtain ⟨rfl, sv, sr⟩ := STEP.out.1 hn
              have SR := Lib.hid sr; clear sr
              by_cases hn32 : n < 32
              · have hz : (n : Int) < 32 := by omega
                have hrf : R = false := by rw [SR.out, decide_eq_false (by omega : ¬ 32 ≤ n)]; rfl
                have HRF := Lib.hid hrf; clear hrf
                go_wp2
                go_ret
                exact ⟨congrArg (fun x => Ending.returned (Value.bool x)) HRF.out.symm, hb1.alloc hb1.size _⟩
              · have hz : (32 : Int) ≤ (n : Int) := by omega
                by_cases hn7 : n = 127
                · have hrf : R = false := by rw [SR.out, hn7]; rfl
                  have HRF := Lib.hid hrf; clear hrf
                  have hz7 : ((n : Int) == 127) = true := by rw [beq_iff_eq]; omega
                  have HN7 := Lib.hid hn7; clear hn7
                  go_wp2
                  go_ret
                  exact ⟨congrArg (fun x => Ending.returned (Value.bool x)) HRF.out.symm, hb1.alloc hb1.size _⟩
                · have hz7 : ((n : Int) == 127) = false := by rw [beq_eq_false_iff_ne]; omega
                  have hg : (s.data.toList.drop (k + 1)).all keyByte = R := by rw [SR.out, decide_eq_true (by omega : 32 ≤ n), decide_eq_true hn7]; simp
                  have HG := Lib.hid hg; clear hg
                  go_wp2
                  go_roundw
                  case rel => exact ⟨k + 1, rfl, by omega, ⟨sv, HG.out⟩⟩
                  case measure => simp; omega
            · obtain ⟨s1, s2, s3⟩ := STEP.out.2 (by omega)
              have S3 := Lib.hid s3; clear s3
              have hz : (32 : Int) ≤ (n : Int) := by omega
              have hz7 : ((n : Int) == 127) = false := by rw [beq_eq_false_iff_ne]; omega
              go_wp2
              go_roundw
              case rel => exact ⟨k + p2, rfl, by omega, ⟨s2, S3.out⟩⟩
              case measure => simp; omega
          · have hnx : ∀ ty, (Instr.next (.pointer (some ⟨w1.heap.size, 0, none⟩)) true ty).run Tryz.prog (w1.iter s k) = _ := fun ty => run_next_end w1 s k ty hp
            have hr : R = true := by
              have e2 := HK.out.2
              rw [List.drop_eq_nil_of_le (by rw [size_list]; omega)] at e2
              exact e2.symm
            have HRT := Lib.hid hr; clear hr
            go_wp2
            go_ret
            exact ⟨congrArg (fun x => Ending.returned (Value.bool x)) HRT.out.symm, hb2⟩
      · have hk : keyB s.data.toList = false := by unfold keyB; simp [hv]
        rw [hk]; clear hk hlist
        have hv' : Lib.validD s.data.toList = false := by simpa using hv
        rw [hv'] at HV
        clear hv hv'
        go_enter Tryz.func78, Tryz.ntmps78
        go_wp2_with fail
        refine HV.out.mono ?_
        rintro e w1 ⟨rfl, hb1⟩
        go_wp2
        go_ret
        exact ⟨rfl, hb1⟩
    · have h2z : (200 : Int) < (s.size : Int) := by omega
      have hk : keyB s.data.toList = false := by unfold keyB; rw [size_list, decide_eq_false h2]; simp
      rw [hk]; clear hk
      clear hlist
      go_enter Tryz.func78, Tryz.ntmps78
      go_wp2
      go_ret
      exact ⟨rfl, Below.refl _ _⟩
end Go.Proofs.YtjbjcfnbgcloiaaGreatDoor
