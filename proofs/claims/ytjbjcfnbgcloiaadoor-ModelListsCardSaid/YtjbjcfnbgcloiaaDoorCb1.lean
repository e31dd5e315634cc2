/- A model in memory: its buckets, their keys, the versions of these; plainly, and as it lies. -/
import Derived.Test.YtjbjcfnbgcloiaaDoorProg
import Derived.Test.YtjbjcfnbgcloiaaDoorWN
import Derived.Test.YtjbjcfnbgcloiaaDoorWNEv
import Derived.Test.YtjbjcfnbgcloiaaDoorWKept
import Derived.Test.YtjbjcfnbgcloiaaDoorWShare
import Derived.Test.YtjbjcfnbgcloiaaDoorWFoot
import Derived.Maps.OwnOps
import Derived.Maps.OwnSet
import Derived.Maps.Ext
import Derived.Maps.RangeWalk
import Derived.Lib.Hide
import Derived.Laws.BitsLemmas
import Derived.WalkKit
import Derived.Deep.QuietTactic
import Derived.BigQuiet
import Derived.Laws.RangeAny
import Derived.Lib.ValidLaws
import Derived.Test.YtjbjcfnbgcloiaaDoorRows
import Derived.ProofKit
import Derived.OpenShut
import Derived.Handy
import Derived.WalkSpells
import Derived.Outline
import Derived.Test.YtjbjcfnbgcloiaaDoorLaysN
import Derived.Shelf.Unicode.ValidAny
import Derived.Test.YtjbjcfnbgcloiaaDoorLaysM
import Derived.Test.YtjbjcfnbgcloiaaDoorWArr
import Derived.Deep.AppendLies
import Derived.Laws.CopyOwn
import Derived.Deep.RegionHeldLaw
import Derived.Carry
import Derived.Deep.Slices
import Derived.Deep.Strs
import Derived.Test.YtjbjcfnbgcloiaaDoorPModelOrderx1
set_option linter.unusedSimpArgs false
set_option linter.unusedVariables false

namespace Go.Proofs.YtjbjcfnbgcloiaaDoor
open Go.RowKit YtjbjcfnbgcloiaaDoorW.PrintWords

/-! ### bytes -/
def mkS (l : List UInt8) : ByteArray := ⟨l.toArray⟩
theorem mkS_list (l : List UInt8) : (mkS l).data.toList = l := rfl
theorem mkS_of (s : ByteArray) : mkS s.data.toList = s := by cases s; rfl
theorem mkS_size (l : List UInt8) : (mkS l).size = l.length := by simp [mkS, ByteArray.size]
theorem eq_mkS {t : ByteArray} {l : List UInt8} (h : t.data.toList = l) : t = mkS l := by rw [← h, mkS_of]
theorem mkS_inj {a b : List UInt8} : mkS a = mkS b ↔ a = b := ⟨fun h => congrArg (fun t : ByteArray => t.data.toList) h, fun h => by rw [h]⟩
def byN (l : List UInt8) : List Int := bytesOf (mkS l)
theorem byN_length (l : List UInt8) : (byN l).length = l.length := by unfold byN; rw [bytesOf_length, mkS_size]
theorem byN_str (l : List UInt8) : strOfNums (byN l) = mkS l := by
  apply ByteArray.ext
  apply Array.toList_inj.1
  rw [strOfNums_data]
  unfold byN bytesOf
  rw [List.map_map, mkS_list]
  conv => rhs; rw [← List.map_id l]
  apply List.map_congr_left
  intro c _
  simp
theorem byN_inj {a b : List UInt8} (h : byN a = byN b) : a = b := mkS_inj.1 (by rw [← byN_str, h, byN_str])

/-! ### a version, and its data -/
structure Kp where
  id : Int
  mark : Bool
  sz : Int
  sum : Int
  dt : List UInt8
deriving DecidableEq
def kpCells (x : Kp) (v : Value) : List Value := [.int .i64 x.id, .bool x.mark, .int .i64 x.sz, .int .u32 x.sum, v]
/-! ### blocks of cells, maps; what is read out of some blocks stays read while these stay -/
def IsC (w : World) (k : Nat) : Prop := ∃ a b c, w.heap[k]? = some (.cells a b c)
def IsM (w : World) (k : Nat) : Prop := ∃ a b, w.heap[k]? = some (.map a b)
theorem isC_lt {w : World} {k : Nat} (h : IsC w k) : k < w.heap.size := by
  obtain ⟨a, b, c, h⟩ := h
  exact (Array.getElem?_eq_some_iff.1 h).1
theorem isM_lt {w : World} {k : Nat} (h : IsM w k) : k < w.heap.size := by
  obtain ⟨a, b, h⟩ := h
  exact (Array.getElem?_eq_some_iff.1 h).1
theorem isC_not {w : World} {k : Nat} (h : IsC w k) (hm : IsM w k) : False := by
  obtain ⟨a, b, c, h⟩ := h
  obtain ⟨a', b', hm⟩ := hm
  rw [h] at hm
  cases hm
theorem cell_isC {w : World} {a : Addr} {v : Value} (h : w.cell? a = some v) : IsC w a.block := by
  unfold World.cell? at h
  cases hh : w.heap[a.block]? with
  | none => rw [hh] at h; cases h
  | some o =>
    cases o <;> (rw [hh] at h; first | exact ⟨_, _, _, hh⟩ | cases h)
/-- The blocks of F stay. -/
def FKept (F : Nat → Prop) (w w' : World) : Prop := ∀ k, F k → w'.heap[k]? = w.heap[k]?
theorem FKept.refl (F : Nat → Prop) (w : World) : FKept F w w := fun _ _ => rfl
theorem FKept.trans {F : Nat → Prop} {a b c : World} (h : FKept F a b) (k : FKept F b c) : FKept F a c := fun i hi => (k i hi).trans (h i hi)
theorem FKept.less {F F' : Nat → Prop} {a b : World} (h : FKept F a b) (hf : ∀ k, F' k → F k) : FKept F' a b := fun i hi => h i (hf i hi)
/-- Bytes that lie in blocks of F. -/
def DatF (w : World) (F : Nat → Prop) (A : Option Addr) (l : List UInt8) : Prop := ∀ w', FKept F w w' → (Kd.int .u8).C w' A l.length (byN l)
theorem DatF.kept {w w' : World} {F : Nat → Prop} {A : Option Addr} {l : List UInt8} (h : DatF w F A l) (hk : FKept F w w') : DatF w' F A l := fun _ h2 => h _ (hk.trans h2)
theorem DatF.mono {w : World} {F F' : Nat → Prop} {A : Option Addr} {l : List UInt8} (h : DatF w F A l) (hf : ∀ k, F k → F' k) : DatF w F' A l := fun _ h2 => h _ (h2.less hf)
theorem DatF.now {w : World} {F : Nat → Prop} {A : Option Addr} {l : List UInt8} (h : DatF w F A l) : (Kd.int .u8).C w A l.length (byN l) := h w (FKept.refl _ _)
/-- A version's cells; its bytes lie in blocks of F. -/
def KpF (w : World) (F : Nat → Prop) (x : Kp) (cs : List Value) : Prop := ∃ A c, cs = kpCells x (.slice A x.dt.length c) ∧ x.dt.length ≤ c ∧ DatF w F A x.dt
theorem KpF.kept {w w' : World} {F : Nat → Prop} {x : Kp} {cs : List Value} (h : KpF w F x cs) (hk : FKept F w w') : KpF w' F x cs := by
  obtain ⟨A, c, h1, h2, h3⟩ := h
  exact ⟨A, c, h1, h2, h3.kept hk⟩
theorem KpF.mono {w : World} {F F' : Nat → Prop} {x : Kp} {cs : List Value} (h : KpF w F x cs) (hf : ∀ k, F k → F' k) : KpF w F' x cs := by
  obtain ⟨A, c, h1, h2, h3⟩ := h
  exact ⟨A, c, h1, h2, h3.mono hf⟩
theorem KpF.len {w : World} {F : Nat → Prop} {x : Kp} {cs : List Value} (h : KpF w F x cs) : cs.length = 5 := by
  obtain ⟨A, c, rfl, _⟩ := h
  rfl
theorem KpF.one {w : World} {F : Nat → Prop} {x : Kp} {cs : List Value} (h : KpF w F x cs) : ∀ u ∈ cs, u.oneCell' = true := by
  obtain ⟨A, c, rfl, _⟩ := h
  simp [kpCells, Value.oneCell']
theorem cell_kept {F : Nat → Prop} {w w' : World} {a : Addr} {v : Value} (h : w.cell? a = some v) (hf : F a.block) (hk : FKept F w w') : w'.cell? a = some v := (World.cell?_of_block (hk a.block hf)).trans h

/-! ### how the maps' elements are told -/
def R1 : Value → Option (DataW Unit × List MemPlace)
  | .map none => some (.nil, [])
  | .map (some b) => some (.lit (.int .i64 b), [])
  | _ => none
def R2 : Value → Option (DataW Unit × List MemPlace)
  | .slice none 0 0 => some (.nil, [])
  | .slice (some ⟨g, 0, none⟩) n c => some (.agg [.lit (.int .i64 g), .lit (.int .i64 n), .lit (.int .i64 c)], [])
  | _ => none
theorem R1_inv {v : Value} {d : DataW Unit} {ps : List MemPlace} (h : R1 v = some (d, ps)) : (v = .map none ∧ d = .nil) ∨ ∃ b : Nat, v = .map (some b) ∧ d = .lit (.int .i64 b) := by
  unfold R1 at h
  split at h
  · simp only [Option.some.injEq, Prod.mk.injEq] at h
    exact .inl ⟨rfl, h.1.symm⟩
  · simp only [Option.some.injEq, Prod.mk.injEq] at h
    exact .inr ⟨_, rfl, h.1.symm⟩
  · cases h
theorem R2_inv {v : Value} {d : DataW Unit} {ps : List MemPlace} (h : R2 v = some (d, ps)) : (v = .slice none 0 0 ∧ d = .nil) ∨ ∃ g n c : Nat, v = .slice (some ⟨g, 0, none⟩) n c ∧ d = .agg [.lit (.int .i64 g), .lit (.int .i64 n), .lit (.int .i64 c)] := by
  unfold R2 at h
  split at h
  · simp only [Option.some.injEq, Prod.mk.injEq] at h
    exact .inl ⟨rfl, h.1.symm⟩
  · simp only [Option.some.injEq, Prod.mk.injEq] at h
    exact .inr ⟨_, _, _, rfl, h.1.symm⟩
  · cases h
theorem R1_one {v v' : Value} {d : DataW Unit} {ps ps' : List MemPlace} (h : R1 v = some (d, ps)) (h' : R1 v' = some (d, ps')) : v = v' := by
  rcases R1_inv h with ⟨rfl, rfl⟩ | ⟨b, rfl, rfl⟩ <;> rcases R1_inv h' with ⟨rfl, e⟩ | ⟨b', rfl, e⟩
  · rfl
  · cases e
  · cases e
  · simp only [DataW.lit.injEq, Lit.int.injEq, true_and] at e
    rw [show b = b' by omega]
theorem R2_one {v v' : Value} {d : DataW Unit} {ps ps' : List MemPlace} (h : R2 v = some (d, ps)) (h' : R2 v' = some (d, ps')) : v = v' := by
  rcases R2_inv h with ⟨rfl, rfl⟩ | ⟨g, n, c, rfl, rfl⟩ <;> rcases R2_inv h' with ⟨rfl, e⟩ | ⟨g', n', c', rfl, e⟩
  · rfl
  · cases e
  · cases e
  · simp only [DataW.agg.injEq, List.cons.injEq, DataW.lit.injEq, Lit.int.injEq, true_and, and_true] at e
    rw [show g = g' by omega, show n = n' by omega, show c = c' by omega]
abbrev KS : Maps.Keyed Tryd.prog 9 := Maps.string_keyed Tryd.underlying9
theorem key_str (s : List UInt8) (hs : s.length ≤ maxLen) : keyOf Tryd.prog 9 (.string (mkS s)) = some (.string s) := by
  unfold keyOf
  simp [mapKey, Tryd.underlying9, mkS_size, hs, mkS_list]
theorem isKey_str (s : List UInt8) : WideAt.IsKeyLit (.string s) := by
  simp [WideAt.IsKeyLit]

/-- Where a slice's cells lie. -/
def NewsAt (w : World) (F : Nat → Prop) (v : Value) (news : List Value) (n : Nat) : Prop := (v = .slice none 0 0 ∧ n = 0 ∧ news = []) ∨ ∃ g c, v = .slice (some ⟨g, 0, none⟩) n c ∧ n ≤ c ∧ F g ∧ ∀ j u, news[j]? = some u → w.cell? ⟨g, j, none⟩ = some u
theorem NewsAt.kept {w w' : World} {F : Nat → Prop} {v : Value} {news : List Value} {n : Nat} (h : NewsAt w F v news n) (hk : FKept F w w') : NewsAt w' F v news n := by
  rcases h with h | ⟨g, c, h1, h2, h3, h4⟩
  · exact .inl h
  · exact .inr ⟨g, c, h1, h2, h3, fun j u hu => cell_kept (h4 j u hu) h3 hk⟩
theorem NewsAt.mono {w : World} {F F' : Nat → Prop} {v : Value} {news : List Value} {n : Nat} (h : NewsAt w F v news n) (hf : ∀ k, F k → F' k) : NewsAt w F' v news n := by
  rcases h with h | ⟨g, c, h1, h2, h3, h4⟩
  · exact .inl h
  · exact .inr ⟨g, c, h1, h2, hf g h3, h4⟩
theorem NewsAt.slice {w : World} {F : Nat → Prop} {v : Value} {news : List Value} {n : Nat} (h : NewsAt w F v news n) : ∃ A c, v = .slice A n c ∧ n ≤ c := by
  rcases h with ⟨rfl, rfl, _⟩ | ⟨g, c, h1, h2, _⟩
  · exact ⟨none, 0, rfl, Nat.le_refl _⟩
  · exact ⟨_, c, h1, h2⟩
/-- A slice of versions: nil, or at the head of a block. -/
def RowV (w : World) (F : Nat → Prop) (v : Value) (l : List Kp) : Prop := ∃ news, NewsAt w F v news l.length ∧ Reps (KpF w F) 5 l news
theorem RowV.kept {w w' : World} {F : Nat → Prop} {v : Value} {l : List Kp} (h : RowV w F v l) (hk : FKept F w w') : RowV w' F v l := by
  obtain ⟨news, h1, h2⟩ := h
  exact ⟨news, h1.kept hk, h2.imp_ fun _ _ hp => hp.kept hk⟩
theorem RowV.mono {w : World} {F F' : Nat → Prop} {v : Value} {l : List Kp} (h : RowV w F v l) (hf : ∀ k, F k → F' k) : RowV w F' v l := by
  obtain ⟨news, h1, h2⟩ := h
  exact ⟨news, h1.mono hf, h2.imp_ fun _ _ hp => hp.mono hf⟩
theorem rowV_nil (w : World) (F : Nat → Prop) : RowV w F (.slice none 0 0) [] := ⟨[], .inl ⟨rfl, rfl, rfl⟩, Reps.none _ _⟩
theorem RowV.slice {w : World} {F : Nat → Prop} {v : Value} {l : List Kp} (h : RowV w F v l) : ∃ A c, v = .slice A l.length c ∧ l.length ≤ c := by
  obtain ⟨news, h1, _⟩ := h
  exact h1.slice
theorem RowV.r2 {w : World} {F : Nat → Prop} {v : Value} {l : List Kp} (h : RowV w F v l) : ∃ d, R2 v = some (d, []) := by
  obtain ⟨news, h1, _⟩ := h
  rcases h1 with ⟨rfl, _⟩ | ⟨g, c, rfl, _⟩
  · exact ⟨_, rfl⟩
  · exact ⟨_, rfl⟩
/-- An element's cells. -/
theorem RowV.at_ {w : World} {F : Nat → Prop} {g c : Nat} {l : List Kp} {n : Nat} (h : RowV w F (.slice (some ⟨g, 0, none⟩) n c) l) (j : Nat) {y : Kp} (hy : l[j]? = some y) : ∃ A c', y.dt.length ≤ c' ∧ DatF w F A y.dt ∧ ∀ i u, (kpCells y (.slice A y.dt.length c'))[i]? = some u → w.cell? ⟨g, j * 5 + i, none⟩ = some u := by
  obtain ⟨news, h1, h2⟩ := h
  rcases h1 with ⟨e, _⟩ | ⟨g', c', e, _, _, h4⟩
  · cases e
  injection e with e _ _
  injection e with e
  injection e with e _ _
  subst e
  obtain ⟨A, c2, e2, h5, h6⟩ := h2.2 j y hy
  refine ⟨A, c2, h5, h6, fun i u hu => h4 (j * 5 + i) u ?_⟩
  rw [← e2, List.getElem?_take, List.getElem?_drop] at hu
  split at hu
  · exact hu
  · cases hu
/-- Block b is a bucket's keys. -/
def InnerM (w : World) (F : Nat → Prop) (b n : Nat) (f : List UInt8 → List Kp) : Prop :=
  ∃ D, w.ownsMap Tryd.prog 9 R2 b n D ∧ ∀ s, ∃ v ps, R2 v = some (D.atKey (.string s) .nil, ps) ∧ RowV w F v (f s)
theorem ownsMap_kept {w w' : World} {R : Value → Option (DataW Unit × List MemPlace)} {b n : Nat} {D : DataW Unit} (h : w.ownsMap Tryd.prog 9 R b n D) (hb : w'.heap[b]? = w.heap[b]?) : w'.ownsMap Tryd.prog 9 R b n D := by
  obtain ⟨es, clock, h1, h2⟩ := h
  exact ⟨es, clock, hb.trans h1, h2⟩
theorem ownsMap_isM {w : World} {R : Value → Option (DataW Unit × List MemPlace)} {b n : Nat} {D : DataW Unit} (h : w.ownsMap Tryd.prog 9 R b n D) : IsM w b := by
  obtain ⟨es, clock, h1, h2⟩ := h
  exact ⟨es, clock, h1⟩
theorem InnerM.kept {w w' : World} {F : Nat → Prop} {b n : Nat} {f : List UInt8 → List Kp} (h : InnerM w F b n f) (hb : w'.heap[b]? = w.heap[b]?) (hc : FKept F w w') : InnerM w' F b n f := by
  obtain ⟨D, h1, h2⟩ := h
  refine ⟨D, ownsMap_kept h1 hb, fun s => ?_⟩
  obtain ⟨v, ps, h3, h4⟩ := h2 s
  exact ⟨v, ps, h3, h4.kept hc⟩
theorem InnerM.mono {w : World} {F : Nat → Prop} {b n n' : Nat} {f : List UInt8 → List Kp} (h : InnerM w F b n f) (hn : n ≤ n') : InnerM w F b n' f := by
  obtain ⟨D, h1, h2⟩ := h
  exact ⟨D, h1.mono hn, h2⟩
theorem InnerM.more {w : World} {F F' : Nat → Prop} {b n : Nat} {f : List UInt8 → List Kp} (h : InnerM w F b n f) (hf : ∀ k, F k → F' k) : InnerM w F' b n f := by
  obtain ⟨D, h1, h2⟩ := h
  refine ⟨D, h1, fun s => ?_⟩
  obtain ⟨v, ps, h3, h4⟩ := h2 s
  exact ⟨v, ps, h3, h4.mono hf⟩

/-! ### a model's state, plainly, and as it lies: its maps are the blocks Q, its cells the blocks F -/
structure St where
  B : List (List UInt8)
  V : List UInt8 → List UInt8 → List Kp
structure Outer (w : World) (g : Nat) (S : St) (n : Nat) (Q F : Nat → Prop) (mb : Nat) (D : DataW Unit) : Prop where
  c : w.heap[g]? = some (.cells #[.map (some mb)] 61 (0, 0))
  fg : F g
  o : w.ownsMap Tryd.prog 9 R1 mb n D
  qm : Q mb
  sz : Maps.size D = S.B.length
  hs : ∀ s, Maps.has D (.string s) = decide (s ∈ S.B)
  at_ : ∀ s, s ∈ S.B → ∃ b : Nat, D.atKey (.string s) .nil = .lit (.int .i64 b) ∧ Q b ∧ b ≠ mb ∧ InnerM w F b n (S.V s)
  ne : ∀ s, s ∈ S.B → ∀ s', s' ∈ S.B → D.atKey (.string s) .nil = D.atKey (.string s') .nil → s = s'
structure HasM (w : World) (g : Nat) (S : St) (n : Nat) (Q F : Nat → Prop) : Prop where
  q : ∀ k, Q k → IsM w k
  f : ∀ k, F k → IsC w k
  nd : S.B.Nodup
  off : ∀ s, s ∉ S.B → ∀ k, S.V s k = []
  ex : ∃ mb D, Outer w g S n Q F mb D
/-- What a call on a model may turn: its maps, and new blocks. -/
structure Moved (Q : Nat → Prop) (w w' : World) : Prop where
  os : w'.os = w.os
  tape : w'.tape = w.tape
  output : w'.output = w.output
  size : w.heap.size ≤ w'.heap.size
  block : ∀ k, k < w.heap.size → ¬ Q k → w'.heap[k]? = w.heap[k]?
theorem Moved.refl (Q : Nat → Prop) (w : World) : Moved Q w w := ⟨rfl, rfl, rfl, Nat.le_refl _, fun _ _ _ => rfl⟩
theorem Moved.of_below {Q : Nat → Prop} {w w' : World} (h : Below w.heap.size w w') : Moved Q w w' := ⟨h.os, h.tape, h.output, h.size, fun k hk _ => h.block k hk⟩
theorem Moved.of_grown {Q : Nat → Prop} {w w' : World} {b : Nat} (h : w.grownBy w' (some b)) (hb : Q b) : Moved Q w w' := ⟨h.os, h.tape, h.output, h.size, fun k hk hq => h.block k hk (fun e => hq (by injection e with e; subst e; exact hb))⟩
theorem Moved.trans {Q Q' : Nat → Prop} {a b c : World} (h : Moved Q a b) (k : Moved Q' b c) (hq : ∀ i, Q' i → Q i ∨ a.heap.size ≤ i) : Moved Q a c :=
  ⟨k.os.trans h.os, k.tape.trans h.tape, k.output.trans h.output, Nat.le_trans h.size k.size, fun i hi hn => (k.block i (Nat.lt_of_lt_of_le hi h.size) (fun e => (hq i e).elim hn (fun e => by omega))).trans (h.block i hi hn)⟩
theorem Moved.below {Q : Nat → Prop} {B : Nat} {a w w' : World} (h : Moved Q w w') (hb : Below B a w) (hB : B ≤ w.heap.size) (hq : ∀ k, Q k → B ≤ k) : Below B a w' :=
  ⟨h.os.trans hb.os, h.tape.trans hb.tape, h.output.trans hb.output, Nat.le_trans hb.size h.size, fun k hk => (h.block k (by omega) (fun e => by have := hq k e; omega)).trans (hb.block k hk)⟩
theorem Moved.cells {Q F : Nat → Prop} {w w' : World} (h : Moved Q w w') (hq : ∀ k, Q k → IsM w k) (hf : ∀ k, F k → IsC w k) : FKept F w w' := fun k hk => h.block k (isC_lt (hf k hk)) (fun q => isC_not (hf k hk) (hq k q))
theorem below_cells {F : Nat → Prop} {w w' : World} (h : Below w.heap.size w w') (hf : ∀ k, F k → IsC w k) : FKept F w w' := fun k hk => h.block k (isC_lt (hf k hk))
theorem Outer.kept {w w' : World} {g : Nat} {S : St} {n : Nat} {Q F : Nat → Prop} {mb : Nat} {D : DataW Unit} (h : Outer w g S n Q F mb D) (hc : FKept F w w') (hq : ∀ k, Q k → w'.heap[k]? = w.heap[k]?) : Outer w' g S n Q F mb D := by
  obtain ⟨h1, hf, h2, h3, h4, h5, h6, h7⟩ := h
  refine ⟨(hc g hf).trans h1, hf, ownsMap_kept h2 (hq mb h3), h3, h4, h5, fun s hs => ?_, h7⟩
  obtain ⟨b, e1, e2, e3, e4⟩ := h6 s hs
  exact ⟨b, e1, e2, e3, e4.kept (hq b e2) hc⟩
theorem Outer.below {w w' : World} {g : Nat} {S : St} {n : Nat} {Q F : Nat → Prop} {mb : Nat} {D : DataW Unit} (h : Outer w g S n Q F mb D) (hq : ∀ k, Q k → IsM w k) (hf : ∀ k, F k → IsC w k) (hb : Below w.heap.size w w') : Outer w' g S n Q F mb D :=
  h.kept (below_cells hb hf) (fun k hk => hb.block k (isM_lt (hq k hk)))
/-- A model stays while its maps, and its cells, stay. -/
theorem HasM.kept {w w' : World} {g : Nat} {S : St} {n : Nat} {Q F : Nat → Prop} (h : HasM w g S n Q F) (hc : FKept F w w') (hq : ∀ k, Q k → w'.heap[k]? = w.heap[k]?) : HasM w' g S n Q F := by
  obtain ⟨mb, D, hO⟩ := h.ex
  refine ⟨fun k hk => ?_, fun k hk => ?_, h.nd, h.off, mb, D, hO.kept hc hq⟩
  · obtain ⟨a, b, e⟩ := h.q k hk
    exact ⟨a, b, (hq k hk).trans e⟩
  · obtain ⟨a, b, c, e⟩ := h.f k hk
    exact ⟨a, b, c, (hc k hk).trans e⟩
theorem HasM.below {w w' : World} {g : Nat} {S : St} {n : Nat} {Q F : Nat → Prop} (h : HasM w g S n Q F) (hb : Below w.heap.size w w') : HasM w' g S n Q F :=
  h.kept (below_cells hb h.f) (fun k hk => hb.block k (isM_lt (h.q k hk)))
theorem HasM.mono {w : World} {g : Nat} {S : St} {n n' : Nat} {Q F : Nat → Prop} (h : HasM w g S n Q F) (hn : n ≤ n') : HasM w g S n' Q F := by
  obtain ⟨mb, D, h1, hf, h2, h3, h4, h5, h6, h7⟩ := h.ex
  refine ⟨h.q, h.f, h.nd, h.off, mb, D, h1, hf, h2.mono hn, h3, h4, h5, fun s hs => ?_, h7⟩
  obtain ⟨b, e1, e2, e3, e4⟩ := h6 s hs
  exact ⟨b, e1, e2, e3, e4.mono hn⟩
/-- Another model's call leaves it. -/
theorem HasM.apart {w w' : World} {g : Nat} {S : St} {n : Nat} {Q F Q2 : Nat → Prop} (h : HasM w g S n Q F) (hm : Moved Q2 w w') (hq : ∀ k, Q2 k → IsM w k) (hd : ∀ k, Q k → ¬ Q2 k) : HasM w' g S n Q F :=
  h.kept (hm.cells hq h.f) (fun k hk => hm.block k (isM_lt (h.q k hk)) (hd k hk))
end Go.Proofs.YtjbjcfnbgcloiaaDoor

/- Small laws on whole numbers: joining and parting bits of an int. -/
namespace Go.RowKit
theorem Below.drewN {B : Nat} {a w : World} (h : Below B a w) (n : Nat) : Below B a (w.drewN n) := ⟨h.os, h.tape, h.output, h.size, h.block⟩
end Go.RowKit
namespace Go.Proofs.YtjbjcfnbgcloiaaDoor
open Go.RowKit
theorem wraps_i64 (n : Int) (h₀ : 0 ≤ n) (h₁ : n < 2 ^ 60) : IntKind.i64.wrap n = n := IntWalk.i64_in _ ⟨by omega, by omega⟩
theorem i64_or16 (x y : Int) (hx₀ : 0 ≤ x) (hx : x % 65536 = 0) (hx₁ : x < 1152921504606846976) (h₀ : 0 ≤ y) (h₁ : y < 65536) : bits .or .i64 x y = x + y :=
  bits_join .i64 60 (by decide) wraps_i64 16 x y hx₀ hx hx₁ h₀ h₁ (by omega)
theorem i64_and16 (x : Int) (h₀ : 0 ≤ x) (h₁ : x < 1152921504606846976) : bits .and .i64 x 65535 = x % 65536 :=
  bits_mask .i64 60 (by decide) wraps_i64 16 (by decide) x h₀ h₁
theorem or_low (b c : Int) (hb : 0 ≤ b) (hb' : b ≤ 32767) (hc : 0 ≤ c) (hc' : c ≤ 65535) : bits BinOp.or IntKind.i64 (b * 65536) c = b * 65536 + c :=
  i64_or16 _ _ (by omega) (by omega) (by omega) hc (by omega)
theorem wf_u16 {a : Int} (h : (Lit.int .u16 a).wf = true) : 0 ≤ a ∧ a ≤ 65535 := by
  simp [Lit.wf, IntKind.min, IntKind.max, IntKind.bits, IntKind.signed] at h; omega
theorem wf_u8 {a : Int} (h : (Lit.int .u8 a).wf = true) : 0 ≤ a ∧ a ≤ 255 := by
  simp [Lit.wf, IntKind.min, IntKind.max, IntKind.bits, IntKind.signed] at h; omega
theorem wf_i64 {a : Int} (h : (Lit.int .i64 a).wf = true) : -9223372036854775808 ≤ a ∧ a ≤ 9223372036854775807 := by
  simp [Lit.wf, IntKind.min, IntKind.max, IntKind.bits, IntKind.signed] at h; omega
theorem bcell {W w1 : World} (hb : Below W.heap.size W w1) : (∀ b o, b < W.heap.size → w1.cell? ⟨b, o, none⟩ = W.cell? ⟨b, o, none⟩) ∧ (∀ b o, b < W.heap.size → w1.frozen? ⟨b, o, none⟩ = W.frozen? ⟨b, o, none⟩) :=
  ⟨fun b o h => hb.cell (p := ⟨b, o, none⟩) h, fun b o h => hb.frozen (p := ⟨b, o, none⟩) h⟩
/-- A callee that leaves the world alone, met in a region that draws. -/
theorem quiet_eq {P : Program} {f : FuncId} {args : Array Value} {w : World} {n : Nat} {v : Value}
    (h : Calls P f args (w.drewN n) fun e w' => e = .returned v ∧ w.drewN n = w') : Calls P f args (w.drewN n) fun e w'' => e = .returned v ∧ ∃ m, w'' = w.drewN m :=
  h.mono fun _ _ ⟨he, hm⟩ => ⟨he, n, hm.symm⟩
/-- .. behind an earlier draw. -/
theorem quiet_add_eq {P : Program} {f : FuncId} {args : Array Value} {w : World} {a n : Nat} {v : Value}
    (h : Calls P f args (w.drewN (a + n)) fun e w' => e = .returned v ∧ w.drewN (a + n) = w') : Calls P f args (w.drewN (a + n)) fun e w'' => e = .returned v ∧ ∃ m, w'' = w.drewN (a + m) :=
  h.mono fun _ _ ⟨he, hm⟩ => ⟨he, n, hm.symm⟩
end Go.Proofs.YtjbjcfnbgcloiaaDoor

/- Names over lists of bytes: what may be a bucket's name, a key's; paths, and back; the next text. Plain laws: no program is in sight. -/
namespace Go.Proofs.YtjbjcfnbgcloiaaDoor.Nam
open Go

/-- May a sign stand anywhere in a bucket's name? -/
def plainB (c : Int) : Bool := (decide (97 ≤ c) && decide (c ≤ 122)) || (decide (48 ≤ c) && decide (c ≤ 57))
/-- Does it stand between others alone? -/
def jointB (c : Int) : Bool := c == 45 || c == 46
/-- A bucket's name from here on, a joint (or nothing) being ahead or not: the same behind it; none: it is none. -/
def bw : Bool → List UInt8 → Option Bool
  | was, [] => some was
  | was, c :: t => if plainB c.toNat = true then bw false t else if jointB c.toNat = true ∧ was = false then bw true t else none
def bucketB (l : List UInt8) : Bool := decide (3 ≤ l.length) && decide (l.length ≤ 63) && (bw true l == some false)
theorem bw_append : ∀ (l m : List UInt8) (was : Bool), bw was (l ++ m) = (bw was l).bind fun x => bw x m
  | [], m, was => rfl
  | c :: t, m, was => by
    simp only [List.cons_append, bw]
    split
    · exact bw_append t m false
    · split
      · exact bw_append t m true
      · rfl
theorem bucketB_join (a b : List UInt8) (ha : bucketB a = true) (hb : bucketB b = true) : bucketB (a ++ [46] ++ b) = decide (a.length + b.length + 1 ≤ 63) := by
  simp only [bucketB, Bool.and_eq_true, decide_eq_true_eq, beq_iff_eq] at ha hb
  obtain ⟨⟨a1, a2⟩, a3⟩ := ha
  obtain ⟨⟨b1, b2⟩, b3⟩ := hb
  have e : bw true (a ++ [46] ++ b) = some false := by
    rw [List.append_assoc, bw_append, a3]
    show bw false ([46] ++ b) = _
    rw [bw_append, show bw false [46] = some true from by decide]
    exact b3
  unfold bucketB
  rw [e]
  simp only [List.length_append, List.length_cons, List.length_nil, beq_self_eq_true, Bool.and_true]
  rw [Bool.eq_iff_iff]
  simp only [Bool.and_eq_true, decide_eq_true_eq]
  omega

/-! ### keys -/
def keyByte (c : UInt8) : Bool := decide (32 ≤ c.toNat) && decide (c.toNat ≠ 127)
def keyB (l : List UInt8) : Bool := decide (l ≠ []) && decide (l.length ≤ 200) && Lib.validD l && l.all keyByte

theorem high_step (l : List UInt8) (hne : l ≠ []) (h0 : 128 ≤ (l.getD 0 0).toNat) (hok : ¬ ((Lib.decodeL l).1 = 65533 ∧ (Lib.decodeL l).2 = 1)) :
    ∀ c ∈ l.take (Lib.decodeL l).2, 128 ≤ c.toNat := by
  rw [Lib.decodeL_N] at hok ⊢
  match l, hne with
  | [a], _ =>
    simp at h0
    unfold Lib.decodeN at hok ⊢
    rw [if_neg (by simp; omega)] at hok ⊢
    simp at hok
  | [a, b], _ =>
    simp at h0
    unfold Lib.decodeN at hok ⊢
    simp only [List.length_cons, List.length_nil, List.getD_cons_zero, List.getD_cons_succ] at hok ⊢
    rw [if_neg (by omega)] at hok ⊢
    split at hok <;> rename_i hc
    · rw [if_pos hc]
      split at hok <;> rename_i hc2
      · rw [if_pos hc2]
        intro c hcm
        simp at hcm
        rcases hcm with rfl | rfl <;> omega
      · exact absurd ⟨rfl, rfl⟩ hok
    · split at hok <;> rename_i hc2
      · omega
      · split at hok <;> rename_i hc3
        · omega
        · exact absurd ⟨rfl, rfl⟩ hok
  | [a, b, d], _ =>
    simp at h0
    unfold Lib.decodeN at hok ⊢
    simp only [List.length_cons, List.length_nil, List.getD_cons_zero, List.getD_cons_succ] at hok ⊢
    rw [if_neg (by omega)] at hok ⊢
    split at hok <;> rename_i hc
    · rw [if_pos hc]
      split at hok <;> rename_i hc2
      · rw [if_pos hc2]
        intro c hcm
        simp at hcm
        rcases hcm with rfl | rfl <;> omega
      · exact absurd ⟨rfl, rfl⟩ hok
    · rw [if_neg hc]
      split at hok <;> rename_i hc2
      · rw [if_pos hc2]
        split at hok <;> rename_i hc3
        · rw [if_pos hc3]
          intro c hcm
          simp at hcm
          rcases hcm with rfl | rfl | rfl <;> omega
        · exact absurd ⟨rfl, rfl⟩ hok
      · split at hok <;> rename_i hc3
        · omega
        · exact absurd ⟨rfl, rfl⟩ hok
  | a :: b :: d :: e :: r, _ =>
    simp at h0
    unfold Lib.decodeN at hok ⊢
    simp only [List.length_cons, List.getD_cons_zero, List.getD_cons_succ] at hok ⊢
    rw [if_neg (by omega)] at hok ⊢
    split at hok <;> rename_i hc
    · rw [if_pos hc]
      split at hok <;> rename_i hc2
      · rw [if_pos hc2]
        intro c hcm
        simp at hcm
        rcases hcm with rfl | rfl <;> omega
      · exact absurd ⟨rfl, rfl⟩ hok
    · rw [if_neg hc]
      split at hok <;> rename_i hc2
      · rw [if_pos hc2]
        split at hok <;> rename_i hc3
        · rw [if_pos hc3]
          intro c hcm
          simp at hcm
          rcases hcm with rfl | rfl | rfl <;> omega
        · exact absurd ⟨rfl, rfl⟩ hok
      · rw [if_neg hc2]
        split at hok <;> rename_i hc3
        · rw [if_pos hc3]
          split at hok <;> rename_i hc4
          · rw [if_pos hc4]
            intro c hcm
            simp at hcm
            rcases hcm with rfl | rfl | rfl | rfl <;> omega
          · exact absurd ⟨rfl, rfl⟩ hok
        · exact absurd ⟨rfl, rfl⟩ hok

/-- A valid text, from a byte of 128 on: the rest is valid; its bytes are a key's if the rest's are. -/
theorem high_key (l : List UInt8) (hne : l ≠ []) (h0 : 128 ≤ (l.getD 0 0).toNat) (hv : Lib.validD l = true) :
    Lib.validD (l.drop (Lib.decodeL l).2) = true ∧ l.all keyByte = (l.drop (Lib.decodeL l).2).all keyByte := by
  rw [Lib.validD_step l hne] at hv
  split at hv
  · cases hv
  · rename_i hok
    refine ⟨hv, ?_⟩
    have hh := high_step l hne h0 hok
    have e : (l.take (Lib.decodeL l).2).all keyByte = true := by
      rw [List.all_eq_true]
      intro c hc
      have := hh c hc
      unfold keyByte
      simp; omega
    conv => lhs; rw [← List.take_append_drop (Lib.decodeL l).2 l]
    rw [List.all_append, e, Bool.true_and]

theorem valid_append : ∀ (n : Nat) (a b : List UInt8), a.length ≤ n → Lib.validD a = true → Lib.validD (a ++ b) = Lib.validD b
  | 0, a, b, hn, _ => by
    obtain rfl : a = [] := List.eq_nil_of_length_eq_zero (by omega)
    rfl
  | n + 1, [], b, _, _ => rfl
  | n + 1, c :: t, b, hn, hv => by
    simp at hn
    by_cases hc : c.toNat < 128
    · rw [Lib.validD_cons _ _ hc] at hv
      rw [List.cons_append, Lib.validD_cons _ _ hc]
      exact valid_append n t b hn hv
    · have h1 : 128 ≤ (((c :: t).getD 0 0).toNat) := by simp; omega
      rw [Lib.validD_lead (c :: t) (by simp) h1] at hv
      have h2 : 128 ≤ (((c :: t ++ b).getD 0 0).toNat) := by simp; omega
      rw [Lib.validD_lead (c :: t ++ b) (by simp) h2]
      have g0 : (c :: t ++ b).getD 0 0 = (c :: t).getD 0 0 := by simp
      rw [g0]
      generalize Lib.firstT ((c :: t).getD 0 0).toNat % 8 = sz at hv ⊢
      generalize Lib.accLo (Lib.firstT ((c :: t).getD 0 0).toNat / 16) = lo at hv ⊢
      generalize Lib.accHi (Lib.firstT ((c :: t).getD 0 0).toNat / 16) = hi at hv ⊢
      cases hck : Lib.checkN (c :: t).length ((c :: t).getD 1 0).toNat ((c :: t).getD 2 0).toNat ((c :: t).getD 3 0).toNat sz lo hi with
      | none => rw [hck] at hv; cases hv
      | some k =>
        rw [hck] at hv
        simp only [] at hv
        have key : Lib.checkN (c :: t ++ b).length ((c :: t ++ b).getD 1 0).toNat ((c :: t ++ b).getD 2 0).toNat ((c :: t ++ b).getD 3 0).toNat sz lo hi = some k ∧ 1 ≤ k ∧ k ≤ (c :: t).length := by
          unfold Lib.checkN at hck ⊢
          simp only [List.length_append, List.length_cons] at hck ⊢
          have gg : ∀ j, j < t.length + 1 → (c :: t ++ b).getD j 0 = (c :: t).getD j 0 := fun j hj => by
            simp only [List.getD_eq_getElem?_getD]
            rw [List.getElem?_append_left (by simp; omega)]
          split at hck <;> rename_i s2
          · rw [if_pos s2]
            split at hck <;> rename_i q
            · cases hck
            · rw [gg 1 (by omega), if_neg (by omega)]
              injection hck with e; subst e
              exact ⟨rfl, by omega, by omega⟩
          · rw [if_neg s2]
            split at hck <;> rename_i s3
            · rw [if_pos s3]
              split at hck <;> rename_i q
              · cases hck
              · rw [gg 1 (by omega), gg 2 (by omega), if_neg (by omega)]
                injection hck with e; subst e
                exact ⟨rfl, by omega, by omega⟩
            · rw [if_neg s3]
              split at hck <;> rename_i s4
              · rw [if_pos s4]
                split at hck <;> rename_i q
                · cases hck
                · rw [gg 1 (by omega), gg 2 (by omega), gg 3 (by omega), if_neg (by omega)]
                  injection hck with e; subst e
                  exact ⟨rfl, by omega, by omega⟩
              · cases hck
        obtain ⟨hk, hk1, hkl⟩ := key
        rw [hk]
        simp only []
        rw [List.drop_append_of_le_length hkl]
        exact valid_append n _ b (by rw [List.length_drop]; simp only [List.length_cons]; omega) hv

theorem keyB_join (a b : List UInt8) (ha : keyB a = true) (hb : keyB b = true) : keyB (a ++ b) = decide (a.length + b.length ≤ 200) := by
  simp only [keyB, Bool.and_eq_true, decide_eq_true_eq] at ha hb
  obtain ⟨⟨⟨a1, a2⟩, a3⟩, a4⟩ := ha
  obtain ⟨⟨⟨b1, b2⟩, b3⟩, b4⟩ := hb
  unfold keyB
  rw [valid_append a.length a b (Nat.le_refl _) a3, b3, List.all_append, a4, b4, List.length_append]
  simp [a1]

/-! ### paths -/
def hexd (n : Nat) : UInt8 := if n < 10 then UInt8.ofNat (48 + n) else UInt8.ofNat (87 + n)
def pathB (l : List UInt8) : List UInt8 := l.flatMap fun x => [hexd (x.toNat / 16), hexd (x.toNat % 16)]
theorem pathB_append (a b : List UInt8) : pathB (a ++ b) = pathB a ++ pathB b := by simp [pathB]
theorem pathB_length (l : List UInt8) : (pathB l).length = 2 * l.length := by
  induction l with
  | nil => rfl
  | cons x t ih =>
    have e : pathB (x :: t) = [hexd (x.toNat / 16), hexd (x.toNat % 16)] ++ pathB t := by simp [pathB]
    rw [e, List.length_append, ih, List.length_cons]
    simp only [List.length_cons, List.length_nil]
    omega

/-! ### prefixes, the next text -/
def prefixB (l p : List UInt8) : Bool := decide (p.length ≤ l.length) && (l.take p.length == p)
/-- The least text above all that begin with one; none: there is none. -/
def nextR : List UInt8 → Option (List UInt8)
  | [] => none
  | c :: t => match nextR t with
    | some u => some (c :: u)
    | none => if c = 255 then none else some [c + 1]
theorem nextR_high : ∀ m : List UInt8, (∀ c ∈ m, c = 255) → nextR m = none
  | [], _ => rfl
  | c :: t, h => by
    simp only [nextR, nextR_high t (fun x hx => h x (List.mem_cons_of_mem _ hx))]
    rw [if_pos (h c (List.mem_cons_self ..))]
theorem nextR_cut : ∀ (q : List UInt8) (c : UInt8) (m : List UInt8), (∀ c ∈ m, c = 255) → c ≠ 255 → nextR (q ++ c :: m) = some (q ++ [c + 1])
  | [], c, m, h, hc => by
    simp only [List.nil_append, nextR, nextR_high m h]
    rw [if_neg hc]
  | x :: q, c, m, h, hc => by
    simp only [List.cons_append, nextR, nextR_cut q c m h hc]

theorem prefixB_cons (d c : UInt8) (u t : List UInt8) : prefixB (d :: u) (c :: t) = (d == c && prefixB u t) := by
  unfold prefixB
  simp only [List.length_cons, List.take_succ_cons, Nat.add_le_add_iff_right]
  rw [Bool.eq_iff_iff]
  simp
  constructor
  · rintro ⟨h1, h2, h3⟩; exact ⟨h2, h1, h3⟩
  · rintro ⟨h1, h2, h3⟩; exact ⟨h2, h1, h3⟩
theorem less_cons (d c : UInt8) (u t : List UInt8) : Op.bytesLess (d :: u) (c :: t) = (decide (d < c) || (d == c && Op.bytesLess u t)) := rfl
theorem less_nil (l : List UInt8) : Op.bytesLess l [] = false := by cases l <;> rfl

theorem next_law : ∀ (p a : List UInt8), prefixB a p = (!Op.bytesLess a p && (match nextR p with | none => true | some n => Op.bytesLess a n))
  | [], a => by
    rw [less_nil]
    simp [prefixB, nextR]
  | c :: t, [] => by simp [prefixB, Op.bytesLess]
  | c :: t, d :: u => by
    have ih := next_law t u
    rw [prefixB_cons, less_cons]
    rcases (show d < c ∨ d = c ∨ c < d from by
      rcases Nat.lt_trichotomy d.toNat c.toNat with h | h | h
      · exact .inl (UInt8.lt_iff_toNat_lt.2 h)
      · exact .inr (.inl (UInt8.toNat_inj.1 h))
      · exact .inr (.inr (UInt8.lt_iff_toNat_lt.2 h))) with h | h | h
    · have hne : (d == c) = false := by
        rw [beq_eq_false_iff_ne]; rintro rfl; exact absurd (UInt8.lt_iff_toNat_lt.1 h) (by omega)
      simp [hne, h]
    · subst h
      have hirr : ¬ d < d := fun h => absurd (UInt8.lt_iff_toNat_lt.1 h) (by omega)
      simp only [beq_self_eq_true, Bool.true_and, hirr, decide_false, Bool.false_or]
      rw [ih]
      congr 1
      simp only [nextR]
      cases hn : nextR t with
      | some n => simp [less_cons, hirr]
      | none =>
        by_cases h5 : d = 255
        · simp [h5]
        · have hlt : d < d + 1 := by
            rw [UInt8.lt_iff_toNat_lt, UInt8.toNat_add]
            have : d.toNat ≠ 255 := fun e => h5 (UInt8.toNat_inj.1 e)
            have := d.toNat_lt
            simp; omega
          simp [h5, less_cons, hlt]
    · have hne : (d == c) = false := by
        rw [beq_eq_false_iff_ne]; rintro rfl; exact absurd (UInt8.lt_iff_toNat_lt.1 h) (by omega)
      have hnl : ¬ d < c := fun h' => absurd (UInt8.lt_iff_toNat_lt.1 h') (by have := UInt8.lt_iff_toNat_lt.1 h; omega)
      simp only [hne, Bool.false_and, hnl, decide_false, Bool.false_or, Bool.not_false, Bool.true_and]
      simp only [nextR]
      cases hn : nextR t with
      | some n => simp [less_cons, hne, hnl]
      | none =>
        have h5 : c ≠ 255 := by
          rintro rfl
          have := UInt8.lt_iff_toNat_lt.1 h
          have := d.toNat_lt
          simp at *; omega
        have hc5 : c.toNat ≠ 255 := fun e => h5 (UInt8.toNat_inj.1 e)
        have hnl2 : ¬ d < c + 1 := by
          rw [UInt8.lt_iff_toNat_lt, UInt8.toNat_add]
          have := UInt8.lt_iff_toNat_lt.1 h
          have := c.toNat_lt
          simp; omega
        simp [h5, less_cons, hnl2, less_nil]

/-! ### the order -/
theorem less_irrefl : ∀ l : List UInt8, Op.bytesLess l l = false
  | [] => rfl
  | c :: t => by
    rw [less_cons, less_irrefl t]
    simp
theorem less_trans : ∀ a b c : List UInt8, Op.bytesLess a b = true → Op.bytesLess b c = true → Op.bytesLess a c = true
  | _, b, [], _, h => by rw [less_nil] at h; cases h
  | _, [], _ :: _, h, _ => by rw [less_nil] at h; cases h
  | [], _ :: _, _ :: _, _, _ => rfl
  | x :: a, y :: b, z :: c, h1, h2 => by
    rw [less_cons] at h1 h2 ⊢
    simp only [Bool.or_eq_true, decide_eq_true_eq, Bool.and_eq_true, beq_iff_eq] at h1 h2 ⊢
    rcases h1 with h1 | ⟨rfl, h1⟩
    · rcases h2 with h2 | ⟨rfl, h2⟩
      · exact .inl (UInt8.lt_trans h1 h2)
      · exact .inl h1
    · rcases h2 with h2 | ⟨rfl, h2⟩
      · exact .inl h2
      · exact .inr ⟨rfl, less_trans a b c h1 h2⟩
theorem less_asymm (a b : List UInt8) (h1 : Op.bytesLess a b = true) : Op.bytesLess b a = false := by
  cases h : Op.bytesLess b a
  · rfl
  · have := less_trans a b a h1 h
    rw [less_irrefl] at this
    cases this
theorem less_total : ∀ a b : List UInt8, Op.bytesLess a b = false → Op.bytesLess b a = false → a = b
  | [], [], _, _ => rfl
  | [], _ :: _, h, _ => by cases h
  | _ :: _, [], _, h => by cases h
  | x :: a, y :: b, h1, h2 => by
    rw [less_cons] at h1 h2
    simp only [Bool.or_eq_false_iff, decide_eq_false_iff_not, Bool.and_eq_false_iff, beq_eq_false_iff_ne] at h1 h2
    have e : x = y := by
      rcases Nat.lt_trichotomy x.toNat y.toNat with h | h | h
      · exact absurd (UInt8.lt_iff_toNat_lt.2 h) h1.1
      · exact UInt8.toNat_inj.1 h
      · exact absurd (UInt8.lt_iff_toNat_lt.2 h) h2.1
    subst e
    have q1 : Op.bytesLess a b = false := by rcases h1.2 with h | h; exact absurd rfl h; exact h
    have q2 : Op.bytesLess b a = false := by rcases h2.2 with h | h; exact absurd rfl h; exact h
    rw [less_total a b q1 q2]

/-! ### paths and back -/
def digI (c : UInt8) : Int := if 48 ≤ c.toNat ∧ c.toNat ≤ 57 then (c.toNat : Int) - 48 else if 97 ≤ c.toNat ∧ c.toNat ≤ 102 then (c.toNat : Int) - 87 else -1
/-- The text of a path; none: it is no path. -/
def unp : List UInt8 → Option (List UInt8)
  | [] => some []
  | [_] => none
  | a :: b :: t => if digI a < 0 ∨ digI b < 0 then none else (unp t).map fun l => UInt8.ofNat (16 * (digI a).toNat + (digI b).toNat) :: l
theorem hexd_toNat (n : Nat) (h : n < 16) : (hexd n).toNat = if n < 10 then 48 + n else 87 + n := by
  unfold hexd
  split <;> simp <;> omega
theorem digI_hexd (n : Nat) (h : n < 16) : digI (hexd n) = n := by
  unfold digI
  rw [hexd_toNat n h]
  split <;> split <;> (try split) <;> omega
theorem unp_path : ∀ l : List UInt8, unp (pathB l) = some l
  | [] => rfl
  | x :: t => by
    have e : pathB (x :: t) = hexd (x.toNat / 16) :: hexd (x.toNat % 16) :: pathB t := by simp [pathB]
    have hx := x.toNat_lt
    rw [e]
    unfold unp
    rw [digI_hexd _ (by omega), digI_hexd _ (by omega), if_neg (by omega), unp_path t]
    simp only [Option.map_some, Option.some.injEq, List.cons.injEq, and_true]
    apply UInt8.toNat_inj.1
    simp
    omega
theorem path_cons (x : UInt8) (t : List UInt8) : pathB (x :: t) = hexd (x.toNat / 16) :: hexd (x.toNat % 16) :: pathB t := by simp [pathB]
theorem path_inj (a b : List UInt8) (h : pathB a = pathB b) : a = b := by
  have := congrArg unp h
  rw [unp_path, unp_path] at this
  exact Option.some.inj this
theorem hexd_lt (a b : Nat) (ha : a < 16) (hb : b < 16) : (hexd a < hexd b) ↔ a < b := by
  rw [UInt8.lt_iff_toNat_lt, hexd_toNat a ha, hexd_toNat b hb]
  split <;> split <;> omega
theorem hexd_inj (a b : Nat) (ha : a < 16) (hb : b < 16) : (hexd a = hexd b) ↔ a = b := by
  constructor
  · intro h
    have := congrArg digI h
    rw [digI_hexd a ha, digI_hexd b hb] at this
    omega
  · rintro rfl; rfl
theorem path_less : ∀ a b : List UInt8, Op.bytesLess (pathB a) (pathB b) = Op.bytesLess a b
  | a, [] => by rw [show pathB [] = [] from rfl, less_nil, less_nil]
  | [], y :: b => by rw [path_cons]; rfl
  | x :: a, y :: b => by
    have ih := path_less a b
    have hx := x.toNat_lt
    have hy := y.toNat_lt
    rw [path_cons, path_cons, less_cons, less_cons, less_cons, ih, Bool.eq_iff_iff]
    simp only [Bool.or_eq_true, decide_eq_true_eq, Bool.and_eq_true, beq_iff_eq]
    rw [hexd_lt _ _ (by omega) (by omega), hexd_lt _ _ (by omega) (by omega), hexd_inj _ _ (by omega) (by omega), hexd_inj _ _ (by omega) (by omega), UInt8.lt_iff_toNat_lt, ← UInt8.toNat_inj]
    constructor
    · rintro (h | ⟨h1, h | ⟨h2, h3⟩⟩)
      · exact .inl (by omega)
      · exact .inl (by omega)
      · exact .inr ⟨by omega, h3⟩
    · rintro (h | ⟨h, h3⟩)
      · by_cases e : x.toNat / 16 < y.toNat / 16
        · exact .inl e
        · exact .inr ⟨by omega, .inl (by omega)⟩
      · exact .inr ⟨by omega, .inr ⟨by omega, h3⟩⟩
theorem path_prefix : ∀ p a : List UInt8, prefixB (pathB a) (pathB p) = prefixB a p
  | [], a => by simp [prefixB, show pathB [] = [] from rfl]
  | y :: p, [] => by rw [path_cons]; simp [prefixB, show pathB [] = [] from rfl]
  | y :: p, x :: a => by
    have ih := path_prefix p a
    have hx := x.toNat_lt
    have hy := y.toNat_lt
    rw [path_cons, path_cons, prefixB_cons, prefixB_cons, prefixB_cons, ih, Bool.eq_iff_iff]
    simp only [Bool.and_eq_true, beq_iff_eq]
    rw [hexd_inj _ _ (by omega) (by omega), hexd_inj _ _ (by omega) (by omega), ← UInt8.toNat_inj]
    constructor
    · rintro ⟨h1, h2, h3⟩; exact ⟨by omega, h3⟩
    · rintro ⟨h1, h3⟩; exact ⟨by omega, by omega, h3⟩
end Go.Proofs.YtjbjcfnbgcloiaaDoor.Nam

/- What package name's functions compute: contracts over lists of bytes. -/
namespace Go.Proofs.YtjbjcfnbgcloiaaDoor
open Go.RowKit Nam

set_option maxHeartbeats 400000 in
theorem plain_is (n : Int) (w : World) : Calls Tryd.prog 44 #[.int .i32 n] w fun e w' => e = .returned (.bool (plainB n)) ∧ w = w' := by
  unfold plainB
  by_cases h1 : 97 ≤ n <;> by_cases h2 : n ≤ 122 <;> by_cases h3 : 48 ≤ n <;> by_cases h4 : n ≤ 57
  all_goals (try (exfalso; omega))
  all_goals
    go_enter Tryd.func44, Tryd.ntmps44
    go_wp2
    go_ret
    exact ⟨congrArg (fun x => Ending.returned (Value.bool x)) (by simp [h1, h2, h3, h4]), rfl⟩

set_option maxHeartbeats 400000 in
theorem joint_is (n : Int) (w : World) : Calls Tryd.prog 45 #[.int .i32 n] w fun e w' => e = .returned (.bool (jointB n)) ∧ w = w' := by
  unfold jointB
  by_cases h1 : n = 45
  · subst h1
    go_enter Tryd.func45, Tryd.ntmps45
    go_wp2
    go_ret
    exact ⟨rfl, rfl⟩
  · have e1 : (n == 45) = false := beq_eq_false_iff_ne.2 h1
    go_enter Tryd.func45, Tryd.ntmps45
    go_wp2
    go_ret
    exact ⟨congrArg (fun x => Ending.returned (Value.bool x)) (by simp [e1]), rfl⟩

theorem width_pos (s : ByteArray) (pos : Nat) (h : pos < s.size) : 1 ≤ (Utf8.decode s pos).2 := by
  by_cases ha : (s[pos]'h).toNat < 128
  · rw [decode_ascii s pos h ha]
    exact Nat.le_refl _
  · exact (decode_high s pos h (by omega)).2

theorem drop_at (s : ByteArray) (k : Nat) (h : k < s.size) : s.data.toList.drop k = s[k] :: s.data.toList.drop (k + 1) := by
  rw [List.drop_eq_getElem_cons (by simpa using h)]
  rfl
theorem size_list (s : ByteArray) : s.data.toList.length = s.size := by simp

set_option maxHeartbeats 1000000 in
theorem bucket_is (s : ByteArray) (w : World) (hs : s.size ≤ maxLen) : Calls Tryd.prog 20 #[.string s] w fun e w' => e = .returned (.bool (bucketB s.data.toList)) ∧ Below w.heap.size w w' := by
  unfold maxLen at hs
  obtain ⟨R, hR⟩ : ∃ R, bw true s.data.toList = R := ⟨_, rfl⟩
  obtain ⟨B, hB⟩ : ∃ B, bucketB s.data.toList = B := ⟨_, rfl⟩
  rw [hB]
  have hB' : B = (decide (3 ≤ s.size) && decide (s.size ≤ 63) && (R == some false)) := by rw [← hB, ← hR]; unfold bucketB; rw [size_list]
  clear hB
  have HB := Lib.hid hB'; clear hB'
  have HR := Lib.hid hR; clear hR
  go_enter Tryd.func20, Tryd.ntmps20
  go_wp2_with fail
  go_loopw [3, 4] (fun m v w' => ∃ (k : Nat) (was : Bool), w' = w.iter s k ∧ k ≤ s.size ∧ m = .int .i64 k ∧ v = .bool was ∧ Hid (bw was (s.data.toList.drop k) = R)) (fun _ _ w' => s.size - w'.iterPos w.heap.size)
  case atStart => exact ⟨0, true, rfl, Nat.zero_le _, rfl, rfl, by exact HR⟩
  case round =>
    obtain ⟨k, was, rfl, hk, rfl, rfl, HW⟩ := hrel
    have hb0 : Below w.heap.size w (w.iter s k) := (Below.refl _ _).alloc (Nat.le_refl _) _
    by_cases hp : k < s.size
    · have hnx : ∀ ty, (Instr.next (.pointer (some ⟨w.heap.size, 0, none⟩)) true ty).run Tryd.prog (w.iter s k) = _ := fun ty => run_next_any w s k ty hp
      have hd := drop_at s k hp
      have hw1 := width_pos s k hp
      obtain ⟨n, p2, hnp⟩ : ∃ n p2, Utf8.decode s k = (n, p2) := ⟨_, _, rfl⟩
      have hlow : (n < 128 → n = (s[k]).toNat ∧ p2 = 1) ∧ (128 ≤ n → 128 ≤ (s[k]).toNat) := by
        by_cases ha : (s[k]).toNat < 128
        · have h1 := decode_ascii s k hp ha
          rw [hnp] at h1
          obtain ⟨e1, e2⟩ := Prod.mk.inj h1
          exact ⟨fun _ => ⟨e1, e2⟩, fun h => by omega⟩
        · have h1 := decode_high s k hp (by omega)
          rw [hnp] at h1
          exact ⟨fun h => by have := h1.1; simp at this; omega, fun _ => by omega⟩
      have hle := decode_le s k
      rw [hnp] at hle hnx hw1
      simp only [] at hle hnx hw1
      clear hnp
      have HD := Lib.hid hd; clear hd
      have HL := Lib.hid hlow; clear hlow
      have h32 : IntKind.i32.wrap (n : Int) = (n : Int) := IntWalk.i32_in _ (by omega)
      have hk1 : IntKind.i64.wrap ((k : Int) + 1) = (k : Int) + 1 := IntWalk.i64_in _ (by omega)
      have NO : (plainB n = false) → (jointB n = false ∨ was = true) → Hid (B = false) := by
        intro h1 h2
        show B = false
        have e : bw was (s.data.toList.drop k) = none := by
          rw [HD.out]
          unfold bw
          by_cases hn : n < 128
          · have e1 := (HL.out.1 hn).1
            rw [← e1, if_neg (by simp [h1]), if_neg (by rcases h2 with h2 | h2 <;> simp [h2])]
          · have e2 := HL.out.2 (by omega)
            have q1 : plainB ((s[k]).toNat : Int) = false := by unfold plainB; simp; omega
            have q2 : jointB ((s[k]).toNat : Int) = false := by unfold jointB; simp; omega
            rw [if_neg (by simp [q1]), if_neg (by simp [q2])]
        rw [HB.out, ← HW.out, e]
        simp
      have NO' := Lib.hid NO; clear NO
      by_cases hpl : plainB n = true
      · have hn : n < 128 := by
          unfold plainB at hpl; simp at hpl; omega
        obtain ⟨e1, rfl⟩ := HL.out.1 hn
        have hj : jointB n = false := by unfold plainB at hpl; unfold jointB; simp at hpl ⊢; omega
        have GO : Hid (bw false (s.data.toList.drop (k + 1)) = R) := by
          show _ = _
          rw [← HW.out, HD.out]
          conv => rhs; unfold bw
          rw [← e1, if_pos hpl]
        have E1 := Lib.hid e1; clear e1
        go_wp2_with (first | (go_at_call 44; refine (plain_is _ _).mono ?_; rintro e w' ⟨rfl, rfl⟩) | (go_at_call 45; refine (joint_is _ _).mono ?_; rintro e w' ⟨rfl, rfl⟩))
        go_roundw
        case rel => exact ⟨k + 1, false, rfl, by omega, by go_num, rfl, GO⟩
        case measure => simp; omega
      · have hpl' : plainB n = false := by simpa using hpl
        clear hpl
        by_cases hj : jointB n = true
        · have hn : n < 128 := by
            unfold jointB at hj; simp at hj; omega
          obtain ⟨e1, rfl⟩ := HL.out.1 hn
          by_cases hwas : was = false
          · subst hwas
            have GO : Hid (bw true (s.data.toList.drop (k + 1)) = R) := by
              show _ = _
              rw [← HW.out, HD.out]
              conv => rhs; unfold bw
              rw [← e1, if_neg (by simp [hpl']), if_pos ⟨hj, rfl⟩]
            have E1 := Lib.hid e1; clear e1
            go_wp2_with (first | (go_at_call 44; refine (plain_is _ _).mono ?_; rintro e w' ⟨rfl, rfl⟩) | (go_at_call 45; refine (joint_is _ _).mono ?_; rintro e w' ⟨rfl, rfl⟩))
            go_roundw
            case rel => exact ⟨k + 1, true, rfl, by omega, by go_num, rfl, GO⟩
            case measure => simp; omega
          · obtain rfl : was = true := by simpa using hwas
            have hno := NO'.out hpl' (.inr rfl)
            have E1 := Lib.hid e1; clear e1
            go_wp2_with (first | (go_at_call 44; refine (plain_is _ _).mono ?_; rintro e w' ⟨rfl, rfl⟩) | (go_at_call 45; refine (joint_is _ _).mono ?_; rintro e w' ⟨rfl, rfl⟩))
            go_ret
            exact ⟨congrArg (fun x => Ending.returned (Value.bool x)) hno.out.symm, (Below.refl _ _).alloc (Nat.le_refl _) _⟩
        · have hj' : jointB n = false := by simpa using hj
          clear hj
          have hno := NO'.out hpl' (.inl hj')
          go_wp2_with (first | (go_at_call 44; refine (plain_is _ _).mono ?_; rintro e w' ⟨rfl, rfl⟩) | (go_at_call 45; refine (joint_is _ _).mono ?_; rintro e w' ⟨rfl, rfl⟩))
          go_ret
          exact ⟨congrArg (fun x => Ending.returned (Value.bool x)) hno.out.symm, (Below.refl _ _).alloc (Nat.le_refl _) _⟩
    · have hnx : ∀ ty, (Instr.next (.pointer (some ⟨w.heap.size, 0, none⟩)) true ty).run Tryd.prog (w.iter s k) = _ := fun ty => run_next_end w s k ty hp
      have FIN : Hid (B = (decide (3 ≤ k) && decide (k ≤ 63) && !was)) := by
        show _ = _
        have e2 := HW.out
        have hz : s.size = k := by omega
        have e1 : s.data.toList.drop k = [] := List.drop_eq_nil_of_le (by rw [size_list]; omega)
        rw [e1] at e2
        rw [HB.out, hz, ← e2]
        cases was <;> rfl
      go_wp2
      all_goals
        go_ret
        refine ⟨congrArg (fun x => Ending.returned (Value.bool x)) ?_, hb0⟩
        rw [FIN.out]
        simp
        try omega
end Go.Proofs.YtjbjcfnbgcloiaaDoor

/- The small functions of package model. -/
namespace Go.Proofs.YtjbjcfnbgcloiaaDoor
open Go.RowKit Nam YtjbjcfnbgcloiaaDoorW.PrintWords

theorem zero63 (w : World) : (zeroValue 63).run Tryd.prog w = .ok (.map none) w := by kernel_rfl
theorem zero77 (w : World) : (zeroValue 77).run Tryd.prog w = .ok (.slice none 0 0) w := by kernel_rfl
/-- m.b[b]: a bucket's keys; nil: there is none. -/
theorem look1 {w : World} {g : Nat} {S : St} {n : Nat} {Q F : Nat → Prop} {mb : Nat} {D : DataW Unit} (h : Outer w g S n Q F mb D) (s : List UInt8) (hs : s.length ≤ maxLen) :
    (s ∉ S.B ∧ (Instr.lookup 59 (.map (some mb)) (.string (mkS s)) false).run Tryd.prog w = .ok (.map none) w) ∨
    (s ∈ S.B ∧ ∃ b : Nat, D.atKey (.string s) .nil = .lit (.int .i64 b) ∧ Q b ∧ b ≠ mb ∧ InnerM w F b n (S.V s) ∧ (Instr.lookup 59 (.map (some mb)) (.string (mkS s)) false).run Tryd.prog w = .ok (.map (some b)) w) := by
  obtain ⟨v, ps, hrun, hv⟩ := h.o.lookup KS Tryd.underlying59 (zero63 w) (zd := .nil) (zp := []) rfl (key_str s hs)
  by_cases hb : s ∈ S.B
  · obtain ⟨b, e1, e2, e3, e4⟩ := h.at_ s hb
    refine .inr ⟨hb, b, e1, e2, e3, e4, ?_⟩
    rw [e1] at hv
    rw [hrun, R1_one hv (show R1 (.map (some b)) = some (.lit (.int .i64 b), []) from rfl)]
  · refine .inl ⟨hb, ?_⟩
    rw [Maps.atKey_of_not_has (by rw [h.hs, decide_eq_false hb])] at hv
    rw [hrun, R1_one hv (show R1 (.map none) = some (.nil, []) from rfl)]
/-- .. [key]: its versions. -/
theorem look2 {w : World} {F : Nat → Prop} {b n : Nat} {f : List UInt8 → List Kp} (h : InnerM w F b n f) (s : List UInt8) (hs : s.length ≤ maxLen) :
    ∃ v, RowV w F v (f s) ∧ (Instr.lookup 63 (.map (some b)) (.string (mkS s)) false).run Tryd.prog w = .ok v w := by
  obtain ⟨D, h1, h2⟩ := h
  obtain ⟨v, ps, hrun, hv⟩ := h1.lookup KS Tryd.underlying63 (zero77 w) (zd := .nil) (zp := []) rfl (key_str s hs)
  obtain ⟨v', ps', hv', hr⟩ := h2 s
  refine ⟨v', hr, ?_⟩
  rw [hrun, R2_one hv hv']

theorem there_is (w : World) (g mb : Nat) (hc : w.heap[g]? = some (.cells #[.map (some mb)] 61 (0, 0))) :
    Calls Tryd.prog 19 #[.pointer (some ⟨g, 0, none⟩)] w fun e w' => e = .returned (.bool true) ∧ w = w' := by
  have c0 := (blk_cell hc 0).trans (rfl : _ = some (Value.map (some mb)))
  clear hc
  have hq := fun (w : World) (r : Option Nat) => run_neq_map_nil (P := Tryd.prog) w 59 _ _ r Tryd.underlying59
  go_enter Tryd.func19, Tryd.ntmps19
  go_wp2
  go_ret
  exact ⟨rfl, rfl⟩

def St.new : St := ⟨[], fun _ _ => []⟩
theorem new_is (w : World) : Calls Tryd.prog 8 #[] w fun e w' => (∃ g Q F, e = .returned (.pointer (some ⟨g, 0, none⟩)) ∧ HasM w' g St.new 0 Q F ∧ (∀ k, Q k → w.heap.size ≤ k) ∧ ∀ k, F k → w.heap.size ≤ k) ∧ Below w.heap.size w w' := by
  have hmm := @run_makeMap Tryd.prog
  go_enter Tryd.func8, Tryd.ntmps8
  go_wp2
  go_ret
  have hg : ((w.alloc (.map #[] 0)).alloc (.cells #[.map (some w.heap.size)] 61)).heap[w.heap.size + 1]? = some (.cells #[.map (some w.heap.size)] 61 (0, 0)) := by
    have := heap_alloc_new (w.alloc (.map #[] 0)) (.cells #[.map (some w.heap.size)] 61)
    simpa using this
  refine ⟨⟨w.heap.size + 1, fun k => k = w.heap.size, fun k => k = w.heap.size + 1, rfl, ⟨?_, ?_, List.nodup_nil, fun _ _ _ => rfl, w.heap.size, .map [], ?_⟩, fun k hk => by omega, fun k hk => by omega⟩, ((Below.refl _ _).alloc (Nat.le_refl _) _).alloc (by simp) _⟩
  · rintro k rfl
    exact ⟨#[], 0, (heap_alloc_old _ _ (by simp)).trans (heap_alloc_new w _)⟩
  · rintro k rfl
    exact ⟨_, _, _, hg⟩
  · refine ⟨hg, rfl, (World.ownsMap_made w Tryd.prog 9 R1).alloc _, rfl, rfl, fun s => ?_, fun s hs => ?_, fun s hs => ?_⟩
    · exact (decide_eq_false (List.not_mem_nil)).symm
    · exact absurd hs List.not_mem_nil
    · exact absurd hs List.not_mem_nil

def St.make (S : St) (s : List UInt8) : St × Int :=
  if bucketB s = false then (S, 12) else if s ∈ S.B then (S, 7) else if 64 ≤ S.B.length then (S, 18) else ({ S with B := S.B ++ [s] }, 0)

/-- A bucket more. -/
theorem made {w w2 : World} {g n mb : Nat} {S : St} {Q F : Nat → Prop} {D : DataW Unit} {s : List UInt8} (h : Outer w g S n Q F mb D) (hq : ∀ k, Q k → IsM w k) (hF : ∀ k, F k → IsC w k) (nd : S.B.Nodup) (off : ∀ s, s ∉ S.B → ∀ k, S.V s k = []) (hs : s ∉ S.B)
    (hown : w2.ownsMap Tryd.prog 9 R1 mb (n + 1) (D.put (.string s) (.lit (.int .i64 w.heap.size)))) (hg : (w.alloc (.map #[] 0)).grownBy w2 (some mb)) :
    HasM w2 g { S with B := S.B ++ [s] } (n + 1) (fun k => Q k ∨ k = w.heap.size) F ∧ Moved Q w w2 := by
  obtain ⟨h1, hfg, h2, h3, h4, h5, h6, h7⟩ := h
  have hmb : mb < w.heap.size := isM_lt (hq mb h3)
  have hold : ∀ k, k < w.heap.size → k ≠ mb → w2.heap[k]? = w.heap[k]? := fun k hk hne =>
    (hg.block k (by simp; omega) (by simp; exact hne)).trans (heap_alloc_old w _ hk)
  have hnew : w2.heap[w.heap.size]? = some (.map #[] 0) := (hg.block w.heap.size (by simp) (by simp; omega)).trans (heap_alloc_new w _)
  have hck : FKept F w w2 := fun k hk => hold k (isC_lt (hF k hk)) (fun e => isC_not (hF k hk) (hq k (by rw [e]; exact h3)))
  have hD : Maps.has D (.string s) = false := by rw [h5, decide_eq_false hs]
  have hti := h2.tidy KS
  refine ⟨⟨fun k hk => ?_, fun k hk => ?_, ?_, fun t ht k => ?_, mb, _, ⟨(hck g hfg).trans h1, hfg, hown, .inl h3, ?_, fun t => ?_, fun t ht => ?_, fun t ht t' ht' he => ?_⟩⟩, ?_⟩
  · rcases hk with hk | rfl
    · by_cases e : k = mb
      · subst e; exact ownsMap_isM hown
      · obtain ⟨a, b, hh⟩ := hq k hk
        exact ⟨a, b, (hold k (isM_lt (hq k hk)) e).trans hh⟩
    · exact ⟨_, _, hnew⟩
  · obtain ⟨a, b, c, hh⟩ := hF k hk
    exact ⟨a, b, c, (hck k hk).trans hh⟩
  · exact List.nodup_append.2 ⟨nd, by simp, fun a ha b hb e => hs (by rw [List.mem_singleton] at hb; subst hb; subst e; exact ha)⟩
  · exact off t (fun e => ht (List.mem_append_left _ e)) k
  · rw [Maps.size_put hti, hD, h4]
    simp
  · by_cases e : t = s
    · subst e
      rw [Maps.has_put_same h2.isMap (isKey_str t)]
      simp
    · rw [Maps.has_put_other (fun e' => e (by injection e')), h5]
      simp [e]
  · by_cases e : t = s
    · subst e
      refine ⟨w.heap.size, Maps.atKey_put_same h2.isMap (isKey_str t) _ _, .inr rfl, by omega, .map [], ⟨#[], 0, hnew, ⟨by simp, MapKept.stamped_empty 0, by simp⟩, by simp, rfl⟩, fun k => ⟨.slice none 0 0, [], rfl, ?_⟩⟩
      show RowV w2 F _ (S.V t k)
      rw [off t hs k]
      exact rowV_nil _ _
    · have ht' : t ∈ S.B := by
        rcases List.mem_append.1 ht with h | h
        · exact h
        · exact absurd (List.mem_singleton.1 h) e
      obtain ⟨b, e1, e2, e3, e4⟩ := h6 t ht'
      exact ⟨b, by rw [Maps.atKey_put_other (fun e' => e (by injection e'))]; exact e1, .inl e2, e3, (e4.kept (hold b (isM_lt (hq b e2)) e3) hck).mono (by omega)⟩
  · have hc : ∀ t, t ∈ S.B ++ [s] → t = s ∨ t ∈ S.B := fun t ht => by
      rcases List.mem_append.1 ht with h | h
      · exact .inr h
      · exact .inl (List.mem_singleton.1 h)
    have hlt : ∀ t, t ∈ S.B → (D.put (.string s) (.lit (.int .i64 w.heap.size))).atKey (.string t) .nil ≠ .lit (.int .i64 w.heap.size) := fun t hin e => by
      obtain ⟨b, e1, e2, e3, e4⟩ := h6 t hin
      rw [Maps.atKey_put_other (fun e' => hs (by injection e' with e'; rw [← e']; exact hin)), e1] at e
      have := isM_lt (hq b e2)
      simp only [DataW.lit.injEq, Lit.int.injEq, true_and] at e
      omega
    have hsm := Maps.atKey_put_same h2.isMap (isKey_str s) (.lit (.int .i64 w.heap.size)) (.nil : DataW Unit)
    rcases hc t ht with e1 | ht1 <;> rcases hc t' ht' with e2 | ht2
    · rw [e1, e2]
    · rw [e1, hsm] at he
      exact absurd he.symm (hlt t' ht2)
    · rw [e2, hsm] at he
      exact absurd he (hlt t ht1)
    · rw [Maps.atKey_put_other (fun e' => hs (by injection e' with e'; rw [← e']; exact ht1)), Maps.atKey_put_other (fun e' => hs (by injection e' with e'; rw [← e']; exact ht2))] at he
      exact h7 t ht1 t' ht2 he
  · refine ⟨hg.os, hg.tape, hg.output, ?_, fun k hk hn => hold k hk (fun e => hn (by rw [e]; exact h3))⟩
    have := hg.size
    simp at this
    omega

def MakeIs (S : St) (n : Nat) (Q F : Nat → Prop) (g : Nat) (s : List UInt8) (w : World) (e : Ending) (w' : World) : Prop :=
  ∃ Q', e = .returned (.int .i64 (S.make s).2) ∧ HasM w' g (S.make s).1 (n + 1) Q' F ∧ Moved Q w w' ∧ ∀ k, Q' k → Q k ∨ w.heap.size ≤ k
theorem make_same {S : St} {n : Nat} {Q F : Nat → Prop} {g : Nat} {s : List UInt8} {w w' : World} {r : Int} (h : S.make s = (S, r)) (hm : HasM w g S n Q F) (hb : Below w.heap.size w w') : MakeIs S n Q F g s w (.returned (.int .i64 r)) w' := by
  unfold MakeIs
  rw [h]
  exact ⟨Q, rfl, (hm.below hb).mono (by omega), Moved.of_below hb, fun k hk => .inl hk⟩

set_option maxHeartbeats 1000000 in
set_option maxRecDepth 100000 in
theorem make_is (w : World) (g : Nat) (S : St) (n : Nat) (Q F : Nat → Prop) (s : List UInt8) (hs : s.length ≤ 100000) (hn : n ≤ 100000) (hm : HasM w g S n Q F) :
    Calls Tryd.prog 9 #[.pointer (some ⟨g, 0, none⟩), .string (mkS s)] w (MakeIs S n Q F g s w) := by
  have hsz : (mkS s).size ≤ maxLen := by rw [mkS_size]; unfold maxLen; omega
  obtain ⟨mb, D, hO⟩ := hm.ex
  have HM := Lib.hid hm; clear hm
  have HO := Lib.hid hO
  have c0 := (blk_cell hO.c 0).trans (rfl : _ = some (Value.map (some mb)))
  have HTh := Lib.hid (there_is w g mb hO.c)
  clear hO
  obtain ⟨ok, hok⟩ : ∃ ok, bucketB s = ok := ⟨_, rfl⟩
  have HBk : Hid (∀ W, Calls Tryd.prog 20 #[.string (mkS s)] W fun e w' => e = .returned (.bool ok) ∧ Below W.heap.size W w') := fun W => by
    have := bucket_is (mkS s) W hsz
    rw [mkS_list, hok] at this
    exact this
  have hq := fun (w : World) (r : Option Nat) => run_neq_map_nil (P := Tryd.prog) w 63 _ _ r Tryd.underlying63
  have hmm := @run_makeMap Tryd.prog
  have HOK := Lib.hid hok; clear hok
  cases ok with
  | false =>
    have HR : Hid (S.make s = (S, 12)) := by show _ = _; unfold St.make; rw [if_pos HOK.out]
    go_enter Tryd.func9, Tryd.ntmps9
    go_wp2_with fail
    refine HTh.out.mono ?_
    rintro e w' ⟨rfl, rfl⟩
    go_wp2_with fail
    refine (HBk.out _).mono ?_
    rintro e w1 ⟨rfl, hb1⟩
    go_wp2_with fail
    go_ret
    exact make_same HR.out HM.out hb1
  | true =>
    go_enter Tryd.func9, Tryd.ntmps9
    go_wp2_with fail
    refine HTh.out.mono ?_
    rintro e w' ⟨rfl, rfl⟩
    go_wp2_with fail
    refine (HBk.out _).mono ?_
    rintro e w1 ⟨rfl, hb1⟩
    have HM1 := Lib.hid (HM.out.below hb1)
    have HB1 := Lib.hid hb1
    have hO1 := HO.out.below HM.out.q HM.out.f hb1
    have HO1 := Lib.hid hO1
    have c1 := (blk_cell hO1.c 0).trans (rfl : _ = some (Value.map (some mb)))
    have hl := hO1.o.len Tryd.underlying59 3
    rw [hO1.sz] at hl
    clear c0 hb1
    rcases look1 hO1 s (by unfold maxLen; omega) with ⟨hsB, hrun⟩ | ⟨hsB, b, _, _, _, _, hrun⟩
    rotate_left
    · have HR : Hid (S.make s = (S, 7)) := by show _ = _; unfold St.make; rw [if_neg (by rw [HOK.out]; simp), if_pos hsB]
      clear hO1 hsB
      go_wp2_with fail
      go_ret
      exact make_same HR.out HM.out HB1.out
    by_cases h64 : 64 ≤ S.B.length
    · have HR : Hid (S.make s = (S, 18)) := by show _ = _; unfold St.make; rw [if_neg (by rw [HOK.out]; simp), if_neg hsB, if_pos h64]
      have hz : (64 : Int) ≤ (S.B.length : Int) := by omega
      clear hO1 hsB h64
      go_wp2_with fail
      go_ret
      exact make_same HR.out HM.out HB1.out
    · have HR : Hid (S.make s = ({ S with B := S.B ++ [s] }, 0)) := by show _ = _; unfold St.make; rw [if_neg (by rw [HOK.out]; simp), if_neg hsB, if_neg h64]
      have hz : (S.B.length : Int) < (64 : Int) := by omega
      have HSB := Lib.hid hsB
      clear hO1 hsB h64
      have hmx : n < maxLen := by unfold maxLen; omega
      go_wp2_with (at_mapUpdate; refine wpList_mapUpdate_own _ rfl _ _ _ 59 rfl 9 63 KS Tryd.underlying59 R1 mb n D rfl (HO1.out.o.alloc _) hmx _ _ (.string s) rfl rfl (key_str s (by unfold maxLen; omega)) (.lit (.int .i64 w1.heap.size)) [] rfl ?_; intro w2 hown2 hg2)
      go_ret
      obtain ⟨h1, h2⟩ := made HO1.out HM1.out.q HM1.out.f HM1.out.nd HM1.out.off HSB.out hown2 hg2
      refine ⟨_, by rw [HR.out]; rfl, by rw [HR.out]; exact h1, ?_, ?_⟩
      · exact (Moved.of_below HB1.out).trans h2 (fun i hi => .inl hi)
      · rintro k (hk | rfl)
        · exact .inl hk
        · exact .inr HB1.out.size
end Go.Proofs.YtjbjcfnbgcloiaaDoor

/- The sum of bytes (package crc). -/
namespace Go.Proofs.YtjbjcfnbgcloiaaDoor
open Go.RowKit Nam YtjbjcfnbgcloiaaDoorW.PrintWords

def bitC (s : Int) : Int := if (bits .and .u32 s 1 == 1) = true then bits .xor .u32 (s / 2) 2197175160 else s / 2
def bitsC : Nat → Int → Int
  | 0, s => s
  | j + 1, s => bitsC j (bitC s)
def byteC (s x : Int) : Int := bitsC 8 (bits .xor .u32 s x)
def crcC (s : Int) (l : List Int) : Int := bits .xor .u32 IntKind.u32.max (l.foldl byteC (bits .xor .u32 IntKind.u32.max s))
/-- The sum of bytes. -/
def sumC (l : List UInt8) : Int := crcC 0 (byN l)
theorem xorR (a b : Int) : 0 ≤ bits .xor .u32 a b ∧ bits .xor .u32 a b < 4294967296 := by
  unfold bits
  simp only [IntKind.wrap_u32]
  omega
theorem bitR (s : Int) (h : 0 ≤ s ∧ s < 4294967296) : 0 ≤ bitC s ∧ bitC s < 4294967296 := by
  unfold bitC
  split
  · exact xorR _ _
  · omega
theorem bitsR : ∀ (j : Nat) (s : Int), 0 ≤ s ∧ s < 4294967296 → 0 ≤ bitsC j s ∧ bitsC j s < 4294967296
  | 0, s, h => h
  | j + 1, s, h => bitsR j _ (bitR s h)
theorem sumR (l : List UInt8) : 0 ≤ sumC l ∧ sumC l < 4294967296 := xorR _ _
theorem byN_range (l : List UInt8) (k : Int) (h0 : 0 ≤ k) (h1 : k < l.length) : 0 ≤ rd (byN l) k ∧ rd (byN l) k ≤ 255 := by
  obtain ⟨i, rfl⟩ := Int.eq_ofNat_of_zero_le h0
  have hi : i < (byN l).length := by rw [byN_length]; omega
  unfold rd
  rw [Int.toNat_natCast, List.getD_eq_getElem?_getD, List.getElem?_eq_getElem hi, Option.getD_some]
  have : (byN l)[i] ∈ byN l := List.getElem_mem _
  obtain ⟨c, _, hc⟩ := List.mem_map.1 (show (byN l)[i] ∈ (mkS l).data.toList.map _ from this)
  rw [← hc]
  have := c.toNat_lt
  omega

set_option maxHeartbeats 1000000 in
set_option maxRecDepth 100000 in
theorem more_crc (l : List UInt8) (A : Option Addr) (c : Nat) (s0 : Int) (w : World) (hl : l.length ≤ 1000000) (hC : (Kd.int .u8).C w A l.length (byN l)) :
    Calls Tryd.prog 57 #[.int .u32 s0, .slice A l.length c] w fun e w' => e = .returned (.int .u32 (crcC s0 (byN l))) ∧ w = w' := by
  have HC := Lib.hid hC; clear hC
  obtain ⟨n, hn⟩ : ∃ n, l.length = n := ⟨_, rfl⟩
  have HN := Lib.hid hn
  rw [hn] at hl HC ⊢
  clear hn
  obtain ⟨R, hR⟩ : ∃ R, (byN l).foldl byteC (bits .xor .u32 IntKind.u32.max s0) = R := ⟨_, rfl⟩
  have hfin : Hid (crcC s0 (byN l) = bits .xor .u32 IntKind.u32.max R) := by show _ = _; rw [← hR]; rfl
  have HR : Hid (((byN l).drop 0).foldl byteC (bits .xor .u32 IntKind.u32.max s0) = R) := by show _ = _; rw [List.drop_zero]; exact hR
  clear hR
  have hst := xorR IntKind.u32.max s0
  go_enter Tryd.func57, Tryd.ntmps57
  go_wp2_with fail
  go_loop [0, 12] (fun vs vi => ∃ (s : Int) (k : Nat), vs = .int .u32 s ∧ 0 ≤ s ∧ s < 4294967296 ∧ vi = .int .i64 k ∧ k ≤ n ∧ Hid (((byN l).drop k).foldl byteC s = R)) (fun _ vi => n - (intOf vi).toNat)
  case atStart => exact ⟨_, 0, rfl, hst.1, hst.2, rfl, Nat.zero_le _, HR⟩
  case round =>
    clear HR hst
    obtain ⟨s, k, rfl, hs0, hs1, rfl, hk, HR⟩ := hrel
    by_cases hlt : k < n
    · have hltz : (k : Int) < (n : Int) := by omega
      have hkl : k < (byN l).length := by rw [byN_length, HN.out]; exact hlt
      obtain ⟨ad, hA, hcell⟩ := Kd.at_int HC.out (k : Int) (by omega) (by omega)
      subst hA
      rw [Int.toNat_natCast] at hcell
      have hrg := byN_range l (k : Int) (by omega) (by rw [HN.out]; exact hltz)
      obtain ⟨x, hx⟩ : ∃ x, rd (byN l) (k : Int) = x := ⟨_, rfl⟩
      rw [hx] at hcell hrg
      obtain ⟨hx0, hx1⟩ := hrg
      have HR2 : Hid (((byN l).drop (k + 1)).foldl byteC (bitsC 8 (bits .xor .u32 s x)) = R) := by
        show _ = _
        have h := HR.out
        rw [List.drop_eq_getElem_cons hkl, List.foldl_cons] at h
        have e : (byN l)[k] = x := by
          rw [← hx]
          unfold rd
          rw [Int.toNat_natCast, List.getD_eq_getElem?_getD, List.getElem?_eq_getElem hkl, Option.getD_some]
        rw [e] at h
        exact h
      clear HR hx hkl
      have hxr := xorR s x
      obtain ⟨T, hT⟩ : ∃ T, bitsC 8 (bits .xor .u32 s x) = T := ⟨_, rfl⟩
      rw [hT] at HR2
      have HT : Hid (bitsC (8 - 0) (bits .xor .u32 s x) = T) := hT
      clear hT
      go_wp2_with fail
      go_loop [0, 20] (fun vs vi => ∃ (s : Int) (j : Nat), vs = .int .u32 s ∧ 0 ≤ s ∧ s < 4294967296 ∧ vi = .int .i64 j ∧ j ≤ 8 ∧ Hid (bitsC (8 - j) s = T)) (fun _ vi => 8 - (intOf vi).toNat)
      case atStart => exact ⟨_, 0, rfl, hxr.1, hxr.2, rfl, Nat.zero_le _, HT⟩
      case round =>
        clear HT hxr hcell
        obtain ⟨s2, j, rfl, hs20, hs21, rfl, hj, HT⟩ := hrel
        by_cases hj8 : j < 8
        · have hjz : (j : Int) < 8 := by omega
          have hb := bitR s2 ⟨hs20, hs21⟩
          have HT2 : Hid (bitsC (8 - (j + 1)) (bitC s2) = T) := by
            show _ = _
            have h := HT.out
            rw [show 8 - j = (8 - (j + 1)) + 1 by omega, bitsC] at h
            exact h
          clear HT
          unfold bitC at hb HT2
          obtain ⟨q, hq⟩ : ∃ q, (bits .and .u32 s2 1 == 1) = q := ⟨_, rfl⟩
          rw [hq] at hb HT2
          cases q
          · rw [if_neg (by simp)] at hb
            have HT3 : Hid (bitsC (8 - (j + 1)) (s2 / 2) = T) := by have h := HT2.out; rw [if_neg (by simp)] at h; exact h
            clear HT2
            go_wp2_with fail
            go_round
            case rel => exact ⟨_, j + 1, rfl, hb.1, hb.2, by go_num, by omega, HT3⟩
            case measure => simp [intOf]; omega
          · rw [if_pos rfl] at hb
            have HT3 : Hid (bitsC (8 - (j + 1)) (bits .xor .u32 (s2 / 2) 2197175160) = T) := by have h := HT2.out; rw [if_pos rfl] at h; exact h
            clear HT2
            go_wp2_with fail
            go_round
            case rel => exact ⟨_, j + 1, rfl, hb.1, hb.2, by go_num, by omega, HT3⟩
            case measure => simp [intOf]; omega
        · obtain rfl : j = 8 := by omega
          have hs2 : s2 = T := HT.out
          subst hs2
          clear HT
          go_wp2_with fail
          go_round
          case rel => exact ⟨_, k + 1, rfl, hs20, hs21, by go_num, by omega, HR2⟩
          case measure => simp [intOf]; omega
    · obtain rfl : k = n := by omega
      have hs2 : s = R := by
        have h := HR.out
        rw [List.drop_eq_nil_of_le (by rw [byN_length, HN.out]; omega)] at h
        exact h
      subst hs2
      clear HR
      go_wp2_with fail
      go_ret
      exact ⟨by rw [hfin.out]; rfl, rfl⟩

theorem sum_is (l : List UInt8) (A : Option Addr) (c : Nat) (w : World) (hl : l.length ≤ 1000000) (hC : (Kd.int .u8).C w A l.length (byN l)) :
    Calls Tryd.prog 41 #[.slice A l.length c] w fun e w' => e = .returned (.int .u32 (sumC l)) ∧ w = w' := by
  have HM := Lib.hid (more_crc l A c 0 w hl hC)
  clear hC hl
  go_enter Tryd.func41, Tryd.ntmps41
  go_wp2_with fail
  refine HM.out.mono ?_
  rintro e w' ⟨rfl, rfl⟩
  go_wp2_with fail
  go_ret
  exact ⟨rfl, rfl⟩
end Go.Proofs.YtjbjcfnbgcloiaaDoor

/- What package name's functions compute (keys, the order, prefixes, the next text): contracts over lists of bytes. -/
namespace Go.Proofs.YtjbjcfnbgcloiaaDoor
open Go.RowKit Nam

/-- utf8's two tables stand as their initialisers lay them. -/
def Tabs (w : World) : Prop := Lib.Utf8Tabs (Tryd.laysValid_ren.g 3) (Tryd.laysValid_ren.g 4) w
theorem Tabs.below {w w' : World} (h : Tabs w) (hb : Below w.heap.size w w') : Tabs w' := Utf8Tabs_below h hb

theorem valid_is (s : ByteArray) (w : World) (hs : s.size ≤ maxLen) (hT : Tabs w) :
    Calls Tryd.prog 67 #[.string s] w fun e w' => e = .returned (.bool (Lib.validD s.data.toList)) ∧ Below w.heap.size w w' :=
  Any.utf8_ValidString Tryd.laysValid s w (by unfold maxLen at hs; omega) hT

set_option maxHeartbeats 400000 in
theorem less_is (a b : ByteArray) (w : World) : Calls Tryd.prog 51 #[.string a, .string b] w fun e w' => e = .returned (.bool (Op.bytesLess a.toList b.toList)) ∧ w = w' := by
  go_enter Tryd.func51, Tryd.ntmps51
  go_wp2
  go_ret
  exact ⟨rfl, rfl⟩

set_option maxHeartbeats 400000 in
theorem lprefix_is (a b : ByteArray) (w : World) (ha : a.size ≤ maxLen) (hb : b.size ≤ maxLen) : Calls Tryd.prog 93 #[.string a, .string b] w fun e w' => e = .returned (.bool (prefixB a.data.toList b.data.toList)) ∧ w = w' := by
  unfold maxLen at ha hb
  by_cases h : b.size ≤ a.size
  · have hz : (b.size : Int) ≤ (a.size : Int) := by omega
    go_enter Tryd.func93, Tryd.ntmps93
    go_wp2
    go_ret
    refine ⟨congrArg (fun x => Ending.returned (Value.bool x)) ?_, rfl⟩
    unfold prefixB
    rw [ByteArray.toList_eq, ByteArray.toList_eq, Lib.extract_data, size_list, size_list]
    simp [h]
  · have hz : (a.size : Int) < (b.size : Int) := by omega
    go_enter Tryd.func93, Tryd.ntmps93
    go_wp2
    go_ret
    refine ⟨congrArg (fun x => Ending.returned (Value.bool x)) ?_, rfl⟩
    unfold prefixB
    rw [size_list, size_list, decide_eq_false h]
    rfl

set_option maxHeartbeats 400000 in
theorem hasprefix_is (a b : ByteArray) (w : World) (ha : a.size ≤ maxLen) (hb : b.size ≤ maxLen) : Calls Tryd.prog 77 #[.string a, .string b] w fun e w' => e = .returned (.bool (prefixB a.data.toList b.data.toList)) ∧ w = w' := by
  go_enter Tryd.func77, Tryd.ntmps77
  go_wp2_with (go_at_call 93; refine (lprefix_is _ _ _ ha hb).mono ?_; rintro e w' ⟨rfl, rfl⟩)
  go_ret
  exact ⟨rfl, rfl⟩

set_option maxHeartbeats 400000 in
theorem prefix_is (a b : ByteArray) (w : World) (ha : a.size ≤ maxLen) (hb : b.size ≤ maxLen) : Calls Tryd.prog 65 #[.string a, .string b] w fun e w' => e = .returned (.bool (prefixB a.data.toList b.data.toList)) ∧ w = w' := by
  go_enter Tryd.func65, Tryd.ntmps65
  go_wp2_with (go_at_call 77; refine (hasprefix_is _ _ _ ha hb).mono ?_; rintro e w' ⟨rfl, rfl⟩)
  go_ret
  exact ⟨rfl, rfl⟩

set_option maxHeartbeats 2000000 in
theorem key_is (s : ByteArray) (w : World) (hs : s.size ≤ maxLen) (hT : Tabs w) : Calls Tryd.prog 56 #[.string s] w fun e w' => e = .returned (.bool (keyB s.data.toList)) ∧ Below w.heap.size w w' := by
  have hV := valid_is s w hs hT
  unfold maxLen at hs
  have HV := Lib.hid hV; clear hV
  have HT := Lib.hid hT; clear hT
  have hlist : s.toList = s.data.toList := ByteArray.toList_eq s
  by_cases h0 : s.toList = []
  · have hk : keyB s.data.toList = false := by unfold keyB; rw [← hlist, h0]; rfl
    rw [hk]; clear hk
    clear hlist
    go_enter Tryd.func56, Tryd.ntmps56
    go_wp2
    go_ret
    exact ⟨rfl, Below.refl _ _⟩
  · have h0e : s.toList.isEmpty = false := by simpa using h0
    by_cases h2 : s.size ≤ 200
    · have h2z : (s.size : Int) ≤ 200 := by omega
      by_cases hv : Lib.validD s.data.toList = true
      · obtain ⟨R, hR⟩ : ∃ R, s.data.toList.all keyByte = R := ⟨_, rfl⟩
        have hk : keyB s.data.toList = R := by
          unfold keyB
          rw [hR, hv, size_list, decide_eq_true h2, decide_eq_true (by rw [← hlist]; exact h0)]
          simp
        rw [hk]; clear hk hlist
        rw [hv] at HV
        have H0 := Lib.hid h0; clear h0
        have HR : Hid (Lib.validD (s.data.toList.drop 0) = true ∧ (s.data.toList.drop 0).all keyByte = R) := ⟨hv, hR⟩
        clear hv hR
        go_enter Tryd.func56, Tryd.ntmps56
        go_wp2_with fail
        refine HV.out.mono ?_
        rintro e w1 ⟨rfl, hb1⟩
        go_wp2_with fail
        go_loopw [] (fun w' => ∃ (k : Nat), w' = w1.iter s k ∧ k ≤ s.size ∧ Hid (Lib.validD (s.data.toList.drop k) = true ∧ (s.data.toList.drop k).all keyByte = R)) (fun w' => s.size - w'.iterPos w1.heap.size)
        case atStart => exact ⟨0, rfl, Nat.zero_le _, HR⟩
        case round =>
          obtain ⟨k, rfl, hk, HK⟩ := hrel
          have hb2 : Below w.heap.size w (w1.iter s k) := hb1.alloc hb1.size _
          by_cases hp : k < s.size
          · have hnx : ∀ ty, (Instr.next (.pointer (some ⟨w1.heap.size, 0, none⟩)) true ty).run Tryd.prog (w1.iter s k) = _ := fun ty => run_next_any w1 s k ty hp
            have hne : s.data.toList.drop k ≠ [] := by
              intro e
              have := congrArg List.length e
              rw [List.length_drop, size_list] at this
              simp at this; omega
            have hw1 := width_pos s k hp
            have hle := decode_le s k
            have hdl := Lib.decodeL_drop s k
            have hd := drop_at s k hp
            obtain ⟨n, p2, hnp⟩ : ∃ n p2, Utf8.decode s k = (n, p2) := ⟨_, _, rfl⟩
            have STEP : Hid ((n < 128 → p2 = 1 ∧ Lib.validD (s.data.toList.drop (k + 1)) = true ∧ R = (decide (32 ≤ n) && decide (n ≠ 127) && (s.data.toList.drop (k + 1)).all keyByte)) ∧
                (128 ≤ n → k + p2 ≤ s.size ∧ Lib.validD (s.data.toList.drop (k + p2)) = true ∧ (s.data.toList.drop (k + p2)).all keyByte = R)) := by
              show _ ∧ _
              obtain ⟨kv, ka⟩ := HK.out
              by_cases ha : (s[k]).toNat < 128
              · have h1 := decode_ascii s k hp ha
                rw [hnp] at h1
                obtain ⟨e1, e2⟩ := Prod.mk.inj h1
                refine ⟨fun _ => ⟨e2, ?_, ?_⟩, fun h => by omega⟩
                · rw [hd, Lib.validD_cons _ _ ha] at kv
                  exact kv
                · rw [hd, List.all_cons] at ka
                  rw [← ka, e1]
                  rfl
              · have h1 := decode_high s k hp (by omega)
                rw [hnp] at h1
                have h128 : 128 ≤ (((s.data.toList.drop k).getD 0 0)).toNat := by
                  rw [hd]; simp; omega
                have hh := high_key _ hne h128 kv
                have hl := Lib.decodeL_le _ hne
                rw [hdl, hnp] at hh hl
                rw [List.drop_drop] at hh
                simp only [] at hh hl
                rw [List.length_drop, size_list] at hl
                exact ⟨fun h => by have := h1.1; simp at this; omega, fun _ => ⟨by omega, hh.1, by rw [← hh.2]; exact ka⟩⟩
            rw [hnp] at hle hnx hw1
            simp only [] at hle hnx hw1
            clear hnp hne hdl hd
            have h32 : IntKind.i32.wrap (n : Int) = (n : Int) := IntWalk.i32_in _ (by omega)
            by_cases hn : n < 128
            · obtain ⟨rfl, sv, sr⟩ := STEP.out.1 hn
              have SR := Lib.hid sr; clear sr
              by_cases hn32 : n < 32
              · have hz : (n : Int) < 32 := by omega
                have hrf : R = false := by rw [SR.out, decide_eq_false (by omega : ¬ 32 ≤ n)]; rfl
                have HRF := Lib.hid hrf; clear hrf
                go_wp2
                go_ret
                exact ⟨congrArg (fun x => Ending.returned (Value.bool x)) HRF.out.symm, hb1.alloc hb1.size _⟩
              · have hz : (32 : Int) ≤ (n : Int) := by omega
                by_cases hn7 : n = 127
                · have hrf : R = false := by rw [SR.out, hn7]; rfl
                  have HRF := Lib.hid hrf; clear hrf
                  have hz7 : ((n : Int) == 127) = true := by rw [beq_iff_eq]; omega
                  have HN7 := Lib.hid hn7; clear hn7
                  go_wp2
                  go_ret
                  exact ⟨congrArg (fun x => Ending.returned (Value.bool x)) HRF.out.symm, hb1.alloc hb1.size _⟩
                · have hz7 : ((n : Int) == 127) = false := by rw [beq_eq_false_iff_ne]; omega
                  have hg : (s.data.toList.drop (k + 1)).all keyByte = R := by rw [SR.out, decide_eq_true (by omega : 32 ≤ n), decide_eq_true hn7]; simp
                  have HG := Lib.hid hg; clear hg
                  go_wp2
                  go_roundw
                  case rel => exact ⟨k + 1, rfl, by omega, ⟨sv, HG.out⟩⟩
                  case measure => simp; omega
            · obtain ⟨s1, s2, s3⟩ := STEP.out.2 (by omega)
              have S3 := Lib.hid s3; clear s3
              have hz : (32 : Int) ≤ (n : Int) := by omega
              have hz7 : ((n : Int) == 127) = false := by rw [beq_eq_false_iff_ne]; omega
              go_wp2
              go_roundw
              case rel => exact ⟨k + p2, rfl, by omega, ⟨s2, S3.out⟩⟩
              case measure => simp; omega
          · have hnx : ∀ ty, (Instr.next (.pointer (some ⟨w1.heap.size, 0, none⟩)) true ty).run Tryd.prog (w1.iter s k) = _ := fun ty => run_next_end w1 s k ty hp
            have hr : R = true := by
              have e2 := HK.out.2
              rw [List.drop_eq_nil_of_le (by rw [size_list]; omega)] at e2
              exact e2.symm
            have HRT := Lib.hid hr; clear hr
            go_wp2
            go_ret
            exact ⟨congrArg (fun x => Ending.returned (Value.bool x)) HRT.out.symm, hb2⟩
      · have hk : keyB s.data.toList = false := by unfold keyB; simp [hv]
        rw [hk]; clear hk hlist
        have hv' : Lib.validD s.data.toList = false := by simpa using hv
        rw [hv'] at HV
        clear hv hv'
        go_enter Tryd.func56, Tryd.ntmps56
        go_wp2_with fail
        refine HV.out.mono ?_
        rintro e w1 ⟨rfl, hb1⟩
        go_wp2
        go_ret
        exact ⟨rfl, hb1⟩
    · have h2z : (200 : Int) < (s.size : Int) := by omega
      have hk : keyB s.data.toList = false := by unfold keyB; rw [size_list, decide_eq_false h2]; simp
      rw [hk]; clear hk
      clear hlist
      go_enter Tryd.func56, Tryd.ntmps56
      go_wp2
      go_ret
      exact ⟨rfl, Below.refl _ _⟩
end Go.Proofs.YtjbjcfnbgcloiaaDoor

/- Slices of versions, copied; a version more. -/
namespace Go.Proofs.YtjbjcfnbgcloiaaDoor
open Go.RowKit Nam YtjbjcfnbgcloiaaDoorW.PrintWords

theorem infoKp : (Tryd.prog.info? 74).map (fun i => (i.zero, i.size, i.bytes)) = some (some (.agg #[.int .i64 0, .bool false, .int .i64 0, .int .u32 0, .slice none 0 0]), 5, 56) := by kernel_rfl
theorem own_cells {w : World} {base n size : Nat} {e : TypeId} {v : Value} {news : List Value} (h : w.ownsRow base e size v n news) {g c : Nat} (hv : v = .slice (some ⟨g, 0, none⟩) n c) (j : Nat) (u : Value) (hu : news[j]? = some u) : w.cell? ⟨g, j, none⟩ = some u := by
  rcases h.2 with ⟨h0, _⟩ | ⟨g', cap, cur, h0, _, hg, _, _, hsz, htk⟩
  · rw [h0] at hv; cases hv
  · rw [h0] at hv
    injection hv with hA _ _
    injection hA with hA
    injection hA with hA _ _
    subst hA
    have := blk_cell hg j
    rw [this]
    rw [← htk, List.getElem?_take] at hu
    split at hu
    · simpa using hu
    · cases hu
theorem rowV_of_own {w : World} {base n : Nat} {v : Value} {l : List Kp} {news : List Value} {F : Nat → Prop} (h : w.ownsRow base 74 5 v n news) (hr : Reps (KpF w F) 5 l news) (hn : l.length = n) (hF : ∀ g, v.ownBlock = some g → F g) : RowV w F v l := by
  subst hn
  refine ⟨news, ?_, hr⟩
  rcases h.2 with ⟨h0, h1⟩ | ⟨g', cap, cur, h0, _, hg, hle, _⟩
  · exact .inl ⟨h0, h1, List.length_eq_zero_iff.1 (by rw [h.1, h1])⟩
  · exact .inr ⟨g', cap, h0, hle, hF g' (by rw [h0]; rfl), fun j u hu => own_cells h h0 j u hu⟩
theorem reps_kept {w w' : World} {F : Nat → Prop} {l : List Kp} {news : List Value} (h : Reps (KpF w F) 5 l news) (hk : FKept F w w') : Reps (KpF w' F) 5 l news := h.imp_ fun _ _ hp => hp.kept hk
theorem reps_mono {w : World} {F F' : Nat → Prop} {l : List Kp} {news : List Value} (h : Reps (KpF w F) 5 l news) (hf : ∀ k, F k → F' k) : Reps (KpF w F') 5 l news := h.imp_ fun _ _ hp => hp.mono hf
theorem reps_ones {w : World} {F : Nat → Prop} {l : List Kp} {news : List Value} (hr : Reps (KpF w F) 5 l news) : ∀ u ∈ news, u.oneCell' = true := Kd.reps_one hr (by decide) (fun p c h u hu => KpF.one h u hu)
/-- slices.Clone of a slice of versions. -/
theorem kclone_at (w : World) (F : Nat → Prop) (v : Value) (news : List Value) (n : Nat) (hl : n ≤ 1000) (hn : news.length = n * 5) (h1 : ∀ u ∈ news, u.oneCell' = true) (hv : NewsAt w F v news n) :
    Calls Tryd.prog 38 #[v] w fun e w' => (∃ v', e = .returned v' ∧ w'.ownsRow w.heap.size 74 5 v' n news) ∧ Below w.heap.size w w' := by
  rcases hv with ⟨rfl, rfl, rfl⟩ | ⟨g, c, rfl, hc, _, hC⟩
  · refine (AnyE.slices_Clone_nil Tryd.cloneK 0 0 w).mono fun e w' ⟨he, hw⟩ => ?_
    subst hw
    exact ⟨⟨.slice none 0 0, he, own_nil _ _ _ _⟩, Below.refl _ _⟩
  · obtain ⟨i0, hi, hz0, hz1, hz2⟩ := info_parts infoKp
    refine (AnyE.slices_Clone Tryd.cloneK i0 _ 5 56 hi hz0 hz1 hz2 rfl (by decide) (fun w => by kernel_rfl) g 0 n c news w hn (by unfold maxLen; omega) (by omega) (fun j u hu => by rw [Nat.zero_add]; exact hC j u hu) h1).mono fun e w' ⟨v', he, ho, _, hb⟩ => ?_
    exact ⟨⟨v', he, ho⟩, hb⟩
/-- bytes.Clone. -/
theorem bclone_is (w : World) (A : Option Addr) (c : Nat) (l : List UInt8) (hl : l.length ≤ 1000000) (hC : (Kd.int .u8).C w A l.length (byN l)) :
    Calls Tryd.prog 42 #[.slice A l.length c] w fun e w' => (∃ A' c', e = .returned (.slice A' l.length c') ∧ l.length ≤ c' ∧ ∃ Fb, DatF w' Fb A' l ∧ ∀ k, Fb k → IsC w' k ∧ w.heap.size ≤ k) ∧ Below w.heap.size w w' := by
  cases A with
  | none =>
    have h0 : l = [] := by
      rcases Nat.eq_zero_or_pos l.length with h | h
      · exact List.length_eq_zero_iff.1 h
      · obtain ⟨ad, e, _⟩ := hC.2.2 h
        cases e
    subst h0
    refine (Any.bytes_Clone_nil Tryd.bcloneL _ _ w).mono fun e w' ⟨he, hw⟩ => ?_
    subst hw
    exact ⟨⟨none, 0, he, Nat.le_refl _, fun _ => False, fun _ _ => Kd.C_nil _ _, fun k hk => hk.elim⟩, Below.refl _ _⟩
  | some ad =>
    refine (Any.bytes_Clone_at Tryd.bcloneL ad l.length c (byN l) w (byN_length l) (by omega) (fun i hi => ?_)).mono fun e w' ⟨v', he, ho, _, hb⟩ => ?_
    · obtain ⟨ad', e, hcell⟩ := Kd.at_int hC (i : Int) (by omega) (by omega)
      injection e with e
      subst e
      rw [Int.toNat_natCast] at hcell
      exact hcell
    · obtain ⟨A', c', rfl, hle, hR⟩ := own_reads_of_le (enc := Value.int .u8) (d := (0 : Int)) ho
      refine ⟨⟨A', c', he, hle, fun k => (Value.slice A' l.length c').ownBlock = some k, fun w2 hk => ?_, fun k hk => ⟨?_, own_base ho k hk⟩⟩, hb⟩
      rotate_left
      · obtain ⟨cells, hc⟩ := own_typed ho k hk
        exact ⟨_, _, _, hc⟩
      obtain ⟨A2, c2, e2, _, hR2⟩ := own_reads_of_le (enc := Value.int .u8) (d := (0 : Int)) (own_move ho (fun k hk' => hk k hk'))
      injection e2 with e3 _ _
      subst e3
      exact Kd.C_of_reads (h1 := fun _ => rfl) hR2
end Go.Proofs.YtjbjcfnbgcloiaaDoor

/- named and more of package model. -/
namespace Go.Proofs.YtjbjcfnbgcloiaaDoor
open Go.RowKit Nam YtjbjcfnbgcloiaaDoorW.PrintWords

def namedB (b k : List UInt8) : Bool := bucketB b && keyB k
set_option maxHeartbeats 1000000 in
theorem named_is (w : World) (g mb : Nat) (b k : List UInt8) (hb : b.length ≤ 100000) (hk : k.length ≤ 100000) (hT : Tabs w) (hc : w.heap[g]? = some (.cells #[.map (some mb)] 61 (0, 0))) :
    Calls Tryd.prog 39 #[.pointer (some ⟨g, 0, none⟩), .string (mkS b), .string (mkS k)] w fun e w' => e = .returned (.int .i64 (if namedB b k = true then 0 else 12)) ∧ Below w.heap.size w w' := by
  have hsb : (mkS b).size ≤ maxLen := by rw [mkS_size]; unfold maxLen; omega
  have hsk : (mkS k).size ≤ maxLen := by rw [mkS_size]; unfold maxLen; omega
  have HTh := Lib.hid (there_is w g mb hc)
  have HT := Lib.hid hT; clear hT hc
  obtain ⟨ok, hok⟩ : ∃ ok, bucketB b = ok := ⟨_, rfl⟩
  obtain ⟨kk, hkk⟩ : ∃ kk, keyB k = kk := ⟨_, rfl⟩
  have HBk : Hid (∀ W, Calls Tryd.prog 20 #[.string (mkS b)] W fun e w' => e = .returned (.bool ok) ∧ Below W.heap.size W w') := fun W => by
    have := bucket_is (mkS b) W hsb
    rw [mkS_list, hok] at this
    exact this
  have HKy : Hid (∀ W, Below w.heap.size w W → Calls Tryd.prog 56 #[.string (mkS k)] W fun e w' => e = .returned (.bool kk) ∧ Below W.heap.size W w') := fun W hW => by
    have := key_is (mkS k) W hsk (HT.out.below hW)
    rw [mkS_list, hkk] at this
    exact this
  have hn : namedB b k = (ok && kk) := by unfold namedB; rw [hok, hkk]
  rw [hn]
  clear hok hkk hn hsb hsk
  cases ok with
  | false =>
    go_enter Tryd.func39, Tryd.ntmps39
    go_wp2_with fail
    refine HTh.out.mono ?_
    rintro e w' ⟨rfl, rfl⟩
    go_wp2_with fail
    refine (HBk.out _).mono ?_
    rintro e w1 ⟨rfl, hb1⟩
    go_wp2_with fail
    go_ret
    exact ⟨rfl, hb1⟩
  | true =>
    cases kk
    all_goals
      go_enter Tryd.func39, Tryd.ntmps39
      go_wp2_with fail
      refine HTh.out.mono ?_
      rintro e w' ⟨rfl, rfl⟩
      go_wp2_with fail
      refine (HBk.out _).mono ?_
      rintro e w1 ⟨rfl, hb1⟩
      go_wp2_with fail
      refine (HKy.out _ hb1).mono ?_
      rintro e w2 ⟨rfl, hb2⟩
      go_wp2_with fail
      go_ret
      exact ⟨rfl, hb1.trans (hb2.mono hb1.size)⟩

/-! ### a version more -/
def St.put (S : St) (b k : List UInt8) (l : List Kp) : St := { S with V := fun b' k' => if b' = b ∧ k' = k then l else S.V b' k' }
def moreE (l : List Kp) (x : Kp) : Int :=
  if 64 ≤ l.length then 18 else if x.id < 1 ∨ 2147483647 < x.id then 1 else match l.getLast? with
    | some y => if x.id ≤ y.id then 1 else 0
    | none => 0
def St.more (S : St) (b k : List UInt8) (x : Kp) : St := if moreE (S.V b k) x = 0 then S.put b k (S.V b k ++ [x]) else S
def kp0 : Kp := ⟨0, false, 0, 0, []⟩
def verV (x : Kp) : Value := .agg #[.int .i64 x.id, .bool x.mark, .int .i64 x.sz, .int .u32 x.sum]
def MoreIs (S : St) (n : Nat) (Q F Fx : Nat → Prop) (g : Nat) (b k : List UInt8) (x : Kp) (w : World) (e : Ending) (w' : World) : Prop :=
  e = .returned (.tuple #[verV (if moreE (S.V b k) x = 0 then x else kp0), .int .i64 (moreE (S.V b k) x)]) ∧ (∃ F', HasM w' g (S.more b k x) (n + 1) Q F' ∧ ∀ j, F' j → F j ∨ Fx j ∨ w.heap.size ≤ j) ∧ Moved Q w w'

/-- A key's versions are others: what was known as the call began, and what the world is then. -/
theorem stored {w w2 : World} {g n mb ib : Nat} {S : St} {Q F F' : Nat → Prop} {D D2 : DataW Unit} {b k : List UInt8} {l : List Kp} {v : Value} {d : DataW Unit} (hq : ∀ k, Q k → IsM w k) (hF : ∀ k, F k → IsC w k) (hF1 : ∀ k, F k → F' k) (hF2 : ∀ k, F' k → IsC w2 k) (nd : S.B.Nodup) (off : ∀ s, s ∉ S.B → ∀ k, S.V s k = []) (h : Outer w g S n Q F mb D) (hb : b ∈ S.B)
    (hat : D.atKey (.string b) .nil = .lit (.int .i64 ib)) (hqi : Q ib) (hne : ib ≠ mb) (hin : w.ownsMap Tryd.prog 9 R2 ib n D2) (hv2 : ∀ s, ∃ v ps, R2 v = some (D2.atKey (.string s) .nil, ps) ∧ RowV w F v (S.V b s))
    (hv : R2 v = some (d, [])) (hown : w2.ownsMap Tryd.prog 9 R2 ib (n + 1) (D2.put (.string k) d)) (hg : Moved (fun j => j = ib) w w2) (hrow : RowV w2 F' v l) : HasM w2 g (S.put b k l) (n + 1) Q F' ∧ Moved Q w w2 := by
  have hold : ∀ j, j < w.heap.size → j ≠ ib → w2.heap[j]? = w.heap[j]? := fun j hj hn => hg.block j hj hn
  have hck : FKept F w w2 := fun j hj => hold j (isC_lt (hF j hj)) (fun e => isC_not (hF j hj) (hq j (by rw [e]; exact hqi)))
  obtain ⟨h1, hfg, h2, h3, h4, h5, h6, h7⟩ := h
  have hmq : mb < w.heap.size := isM_lt (hq mb h3)
  refine ⟨⟨fun j hj => ?_, hF2, nd, fun t ht k' => ?_, mb, D, ⟨(hck g hfg).trans h1, hF1 g hfg, (ownsMap_kept h2 (hold mb hmq (fun e => hne e.symm))).mono (by omega), h3, h4, h5, fun t ht => ?_, h7⟩⟩, ⟨hg.os, hg.tape, hg.output, hg.size, fun j hj hn => hg.block j hj (fun e => hn (by rw [e]; exact hqi))⟩⟩
  · by_cases e : j = ib
    · subst e; exact ownsMap_isM hown
    · obtain ⟨a, c, hh⟩ := hq j hj
      exact ⟨a, c, (hold j (isM_lt (hq j hj)) e).trans hh⟩
  · show (if t = b ∧ k' = k then l else S.V t k') = []
    rw [if_neg (fun e => ht (by rw [e.1]; exact hb))]
    exact off t ht k'
  · by_cases e : t = b
    · subst e
      refine ⟨ib, hat, hqi, hne, _, hown, fun s => ?_⟩
      show ∃ v ps, _ ∧ RowV w2 F' v (if t = t ∧ s = k then l else S.V t s)
      by_cases es : s = k
      · subst es
        rw [if_pos ⟨rfl, rfl⟩, Maps.atKey_put_same hin.isMap (isKey_str s)]
        exact ⟨v, [], hv, hrow⟩
      · rw [if_neg (fun e => es e.2), Maps.atKey_put_other (fun e' => es (by injection e'))]
        obtain ⟨u, ps, e1, e2⟩ := hv2 s
        exact ⟨u, ps, e1, (e2.kept hck).mono hF1⟩
    · obtain ⟨b', e1, e2, e3, e4⟩ := h6 t ht
      have hbb : b' ≠ ib := fun eb => e (h7 t ht b hb (by rw [e1, hat, eb]))
      refine ⟨b', e1, e2, e3, ?_⟩
      have hf : (S.put b k l).V t = S.V t := by
        funext s
        show (if t = b ∧ s = k then l else S.V t s) = _
        rw [if_neg (fun e' => e e'.1)]
      rw [hf]
      exact ((e4.kept (hold b' (isM_lt (hq b' e2)) hbb) hck).more hF1).mono (by omega)
theorem Moved.setRow {Q : Nat → Prop} {w a : World} (h : Moved Q w a) (r : Nat) (hr : w.heap.size ≤ r) (cs : Array Value) : Moved Q w (a.setRow r cs) := by
  have hb := below_setRow (Below.refl w.heap.size a) hr cs
  exact ⟨hb.os.trans h.os, hb.tape.trans h.tape, hb.output.trans h.output, Nat.le_trans h.size hb.size, fun k hk hq => (hb.block k hk).trans (h.block k hk hq)⟩
end Go.Proofs.YtjbjcfnbgcloiaaDoor

/- The last step of every law: what was there before the call reads as it read, whatever the arguments' types. -/
namespace Go.Proofs.YtjbjcfnbgcloiaaDoor
open Go.ChangeShapes Go.WideShapes Go.ChangeAt Go.RowKit

section
variable {H : Type} {enc : TypeId × Value → H} {P : Program}

/-- Arguments read behind the call as before, where only new blocks have come. -/
theorem trodAll_stays (hl : laidOutB P = true) {W W' : World} (hb : Below W.heap.size W W') : ∀ {ts : List TypeId} {vs : List Value} {ds : List (DataW H)} {p : List MemPlace},
    (∀ t ∈ ts, P.readableRec t = true ∧ t < P.types.size) → DataW.TrodAll enc P W 0 (fun _ => true) true ts vs ds p → (∀ x ∈ p, x.block < W.heap.size) →
    ∀ sp : Nat → Bool, (∀ x ∈ p, sp x.block = true) → DataW.TrodAll enc P W' 0 sp true ts vs ds p
  | [], [], [], _, _, h, _, _, _ => h
  | t :: ts, v :: vs, d :: ds, ps, hr, h, hlt, sp, hsp => by
    obtain ⟨p, q, h1, h2, rfl⟩ := h
    have h0 := hr t (List.mem_cons_self ..)
    refine ⟨p, q, ?_, ?_, rfl⟩
    · exact WideElems.Trod_stays hl h0.1 h0.2 h1 (fun x hx => hb.same (hlt x (List.mem_append_left _ hx))) (fun x hx => hsp x (List.mem_append_left _ hx))
    · exact trodAll_stays hl hb (fun t ht => hr t (List.mem_cons_of_mem _ ht)) h2 (fun x hx => hlt x (List.mem_append_right _ hx)) sp (fun x hx => hsp x (List.mem_append_right _ hx))
  | [], _ :: _, _, _, _, h, _, _, _ => h.elim
  | [], [], _ :: _, _, _, h, _, _, _ => h.elim
  | _ :: _, [], _, _, _, h, _, _, _ => h.elim
  | _ :: _, _ :: _, [], _, _, h, _, _, _ => h.elim

/-- The row's last step where of the world behind the call 'Below' alone is known. -/
theorem post_of_below {f : Func} {s : ChangeSpec} {apart fresh handsOn again : Bool} {W W' : World} {args : Array Value} {v : Value} {ds gs : List (DataW H)} {before pa pv : List MemPlace}
    (hW : DataW.Whole enc P f.params.toList s.vars apart W args.toList ds gs before)
    (hres : ∀ (b : Nat) (sp : Nat → Bool) (hd : Bool), DataW.TrodAll enc P W' b sp hd f.resultTypes.toList (v.resultList f.resultTypes.size) (s.fn H (ds ++ gs)).results [])
    (hargs : ∀ sp : Nat → Bool, (∀ p ∈ before, sp p.block = true) → DataW.TrodAll enc P W' 0 sp true f.params.toList args.toList (s.fn H (ds ++ gs)).args pa)
    (hvars : ∀ sp : Nat → Bool, (∀ p ∈ before, sp p.block = true) → DataW.TrodVars enc P W' sp s.vars (s.fn H (ds ++ gs)).vars pv)
    (hps : before = pa ++ pv) (hb : Below W.heap.size W W')
    (hok : ∀ (j : Nat) (t : TypeId) (r : Value), f.resultTypes[j]? = some t → (v.resultList f.resultTypes.size)[j]? = some r → Value.okWide P W' .any 0 t r) :
    s.post enc P f apart fresh handsOn again W args v W' := by
  have hlt : ∀ p ∈ before, p.block < W.heap.size := fun p hp => hW.lt p hp
  have hold : ∀ p ∈ before, (fun b => decide (b < W.heap.size)) p.block = true := fun p hp => by simpa using hlt p hp
  refine ⟨ds, gs, before, [], pa, pv, hW, hres _ _ _, hargs _ hold, hvars _ hold, World.keptBut_mono (fun p hp => ⟨hp, ?_⟩) (hb.frame (· ∈ before)), fun _ => ?_⟩
  · rw [hps, List.mem_append] at hp
    exact Or.inr hp
  · obtain ⟨_, _, _, _, _, hz, hn⟩ := hW
    refine ⟨hok, _, _, ([] ++ pa) ++ pv, ⟨[] ++ pa, pv, trodAll_append (hargs _ (fun _ _ => rfl)) (hres _ _ _), hvars _ (fun _ _ => rfl), rfl, ?_, ?_⟩, ?_⟩
    · intro b off hp
      have hin : MemPlace.cell b off ∈ before := by rw [hps]; simpa using hp
      rw [hb.frozen (hlt _ hin)]
      exact hz b off hin
    · intro ha
      have := hn ha
      rw [hps] at this
      simpa using this
    · intro p hp _
      rw [hps]
      simpa using hp

/-- A law's post: it answered true, and only new blocks have come. -/
theorem law_post {f : Func} {s : ChangeSpec} {apart fresh handsOn again : Bool} {W W' : World} {args : Array Value} {bt : TypeId} {ds : List (DataW H)} {before : List MemPlace}
    (hl : laidOutB P = true) (hr : ∀ t ∈ f.params.toList, P.readableRec t = true ∧ t < P.types.size) (hbt : P.underlying bt = some .bool) (hf : f.resultTypes = #[bt])
    (hfr : (s.fn H (ds ++ [])).results = [.lit (.bool true)]) (hfa : (s.fn H (ds ++ [])).args = ds) (hfv : (s.fn H (ds ++ [])).vars = [])
    (hv : s.vars = [])
    (hW : DataW.Whole enc P f.params.toList s.vars apart W args.toList ds [] before) (hb : Below W.heap.size W W') :
    s.post enc P f apart fresh handsOn again W args (.bool true) W' := by
  have hlt : ∀ p ∈ before, p.block < W.heap.size := fun p hp => hW.lt p hp
  obtain ⟨pa, pv, hA, hV, hps, hz, hn⟩ := id hW
  have hpv : pv = [] := by
    rw [hv] at hV
    exact hV
  subst hpv
  obtain rfl : before = pa := by simpa using hps
  refine post_of_below (pa := before) (pv := []) hW (fun b sp hd => ?_) (fun sp hsp => ?_) (fun sp _ => ?_) (by simp) hb ?_
  · rw [hfr, hf]
    exact trodAll_cons_mk (shut_bool hbt _) trodAll_mk0
  · rw [hfa]
    exact trodAll_stays hl hb hr hA hlt sp hsp
  · rw [hfv, hv]
    rfl
  · intro j t r ht hr'
    rw [hf] at ht hr'
    have hj : j = 0 := by
      rcases Nat.eq_zero_or_pos j with h | h
      · exact h
      · rw [Array.getElem?_eq_none (by simp; omega)] at ht; cases ht
    subst hj
    simp [Value.resultList] at ht hr'
    subst ht; subst hr'
    exact okWide_bool_mk hbt _
end
end Go.Proofs.YtjbjcfnbgcloiaaDoor

/- A life's choices as they lie; Room of the statements of layer 22. -/
namespace Go.Proofs.YtjbjcfnbgcloiaaDoor
open Go.ChangeShapes Go.WideShapes Go.ChangeAt Go.RowKit Go.Deep Nam YtjbjcfnbgcloiaaDoorW.PrintWords PModelOrder

/-- A choice. -/
structure Ch where
  d : Int
  bk : List UInt8
  ky : List UInt8
  dt : List UInt8
  n : Int
  a : Int
  pf : List UInt8
  fr : List UInt8
  fi : Int
  mo : Int
deriving DecidableEq

/-- Its numbers are ints, its texts are short. -/
structure Ch.Ok (x : Ch) (m : Nat) : Prop where
  d : -9223372036854775808 ≤ x.d ∧ x.d ≤ 9223372036854775807
  n : -9223372036854775808 ≤ x.n ∧ x.n ≤ 9223372036854775807
  a : -9223372036854775808 ≤ x.a ∧ x.a ≤ 9223372036854775807
  fi : -9223372036854775808 ≤ x.fi ∧ x.fi ≤ 9223372036854775807
  mo : -9223372036854775808 ≤ x.mo ∧ x.mo ≤ 9223372036854775807
  bk : x.bk.length ≤ m
  ky : x.ky.length ≤ m
  dt : x.dt.length ≤ m
  pf : x.pf.length ≤ m
  fr : x.fr.length ≤ m

def chCells (x : Ch) (v : Value) : List Value := [.int .i64 x.d, .string (mkS x.bk), .string (mkS x.ky), v, .int .i64 x.n, .int .i64 x.a, .string (mkS x.pf), .string (mkS x.fr), .int .i64 x.fi, .int .i64 x.mo]
def kCh : Kd Ch := Kd.iso (Kd.pair (Kd.int .i64) (Kd.pair Kd.string (Kd.pair Kd.string (Kd.pair (Kd.slice 5 (Kd.int .u8)) (Kd.pair (Kd.int .i64) (Kd.pair (Kd.int .i64) (Kd.pair Kd.string (Kd.pair Kd.string (Kd.pair (Kd.int .i64) (Kd.int .i64)))))))))) (fun x : Ch => (x.d, mkS x.bk, mkS x.ky, byN x.dt, x.n, x.a, mkS x.pf, mkS x.fr, x.fi, x.mo))
abbrev Dt (W : World) (ok : Nat → Prop) (v : Value) (l : List UInt8) : Prop := Kd.V (Kd.int .u8) 5 W 0 ok v (byN l)
theorem kCh_open {w : World} {x : Ch} {cs : List Value} (h : kCh.K w x cs) : ∃ A c, cs = chCells x (.slice A (byN x.dt).length c) ∧ (byN x.dt).length ≤ c ∧ (Kd.int .u8).C w A (byN x.dt).length (byN x.dt) := by
  obtain ⟨_, _, rfl, rfl, ⟨_, _, rfl, rfl, ⟨_, _, rfl, rfl, ⟨_, _, rfl, ⟨A3, c3, rfl, l3, g3⟩, ⟨_, _, rfl, rfl, ⟨_, _, rfl, rfl, ⟨_, _, rfl, rfl, ⟨_, _, rfl, rfl, ⟨_, _, rfl, rfl, rfl⟩⟩⟩⟩⟩⟩⟩⟩⟩ := h
  exact ⟨A3, c3, rfl, l3, g3⟩
theorem kCh_mk (w : World) (x : Ch) {A : Option Addr} {c : Nat} (l3 : (byN x.dt).length ≤ c) (g3 : (Kd.int .u8).C w A (byN x.dt).length (byN x.dt)) : kCh.K w x (chCells x (.slice A (byN x.dt).length c)) :=
  ⟨[_], _, rfl, rfl, ⟨[_], _, rfl, rfl, ⟨[_], _, rfl, rfl, ⟨[_], _, rfl, ⟨A, c, rfl, l3, g3⟩, ⟨[_], _, rfl, rfl, ⟨[_], _, rfl, rfl, ⟨[_], _, rfl, rfl, ⟨[_], _, rfl, rfl, ⟨[_], [_], rfl, rfl, rfl⟩⟩⟩⟩⟩⟩⟩⟩⟩
theorem kCh_openF {W : World} {ok : Nat → Prop} {x : Ch} {cs : List Value} (h : Kd.FK kCh W ok x cs) : ∃ v, cs = chCells x v ∧ Dt W ok v x.dt := by
  obtain ⟨A3, c3, rfl, l3, _⟩ := kCh_open (Kd.FK_now h)
  exact ⟨_, rfl, A3, c3, rfl, l3, fun W' hW => by
    obtain ⟨A3_, c3_, he, l3_, g3_⟩ := kCh_open (h W' hW)
    injection (Option.some.inj (show some (Value.slice A3 (byN x.dt).length c3) = some (Value.slice A3_ (byN x.dt).length c3_) from congrArg (fun l => l[3]?) he)) with ha_ _ _
    rw [ha_]; exact g3_⟩
theorem kCh_mkF {W : World} {ok : Nat → Prop} {x : Ch} {v : Value} (h : Dt W ok v x.dt) : Kd.FK kCh W ok x (chCells x v) := by
  obtain ⟨A, c, rfl, hl, hf⟩ := h
  exact fun W2 hW => kCh_mk W2 x hl (hf W2 hW)

/-- An element of a row of choices, as it is loaded. -/
theorem at_Ch {w : World} {A : Option Addr} {n : Nat} {xs : List Ch} (h : Kd.C kCh w A n xs) (k : Nat) (hk : k < xs.length) : ∃ ad A3 c3, A = some ad ∧ Dt w (fun _ => True) (.slice A3 (byN xs[k].dt).length c3) xs[k].dt ∧
    ∀ j u, (chCells xs[k] (.slice A3 (byN xs[k].dt).length c3))[j]? = some u → w.cell? (ad.add (k * 10 + j)) = some u := by
  have hn := h.1
  obtain ⟨ad, c, e, _, hK, hc0⟩ := Kd.C_get h xs[k] (k : Int) (by omega) (by omega)
  rw [List.getD_eq_getElem?_getD, Int.toNat_natCast, List.getElem?_eq_getElem hk, Option.getD_some] at hK
  obtain ⟨A3, c3, rfl, l3, g3⟩ := kCh_open hK
  refine ⟨ad, A3, c3, e, ⟨A3, c3, rfl, l3, fun W' hW => ?_⟩, fun j u hu => ?_⟩
  · exact Kd.Heap.C (Kd.heap_int .u8) (fun j hj => hW j trivial hj) g3
  · have := hc0 j u hu
    rwa [Int.toNat_natCast] at this

def toS (x : Ch) : S33 := ⟨x.d, mkS x.bk, mkS x.ky, byN x.dt, x.n, x.a, ⟨mkS x.pf, mkS x.fr, x.fi, x.mo⟩⟩
theorem C_toS {w : World} {A : Option Addr} {n : Nat} {l : List Ch} (h : Kd.C kCh w A n l) : Kd.C k33 w A n (l.map toS) := by
  obtain ⟨h1, h2, h3⟩ := h
  refine ⟨by rw [List.length_map]; exact h1, h2, fun hn => ?_⟩
  obtain ⟨ad, e, hc⟩ := h3 hn
  refine ⟨ad, e, fun j p hp => ?_⟩
  rw [List.getElem?_map] at hp
  cases hx : l[j]? with
  | none => rw [hx] at hp; cases hp
  | some x =>
    rw [hx] at hp
    simp only [Option.map_some, Option.some.injEq] at hp
    subst hp
    obtain ⟨c, hl, hK, hcell⟩ := hc j x hx
    refine ⟨c, hl, ?_, hcell⟩
    obtain ⟨A3, c3, rfl, l3, g3⟩ := kCh_open hK
    exact k33_mk w (toS x) l3 g3

/-- Few choices, short texts. -/
def roomX (x : Ch) : Bool := decide (x.bk.length ≤ 300) && decide (x.ky.length ≤ 300) && decide (x.dt.length ≤ 3000) && decide (x.pf.length ≤ 300) && decide (x.fr.length ≤ 300)
def roomB (l : List Ch) (m : Nat) : Bool := decide (l.length ≤ m) && l.all roomX
theorem room_l0 (l : List Ch) (hl : l.length ≤ 1000000) : ∀ (k j : Nat), j ≤ l.length → l.length - j < k → strongboxlaw22_Room.l0 k (l.map toS) (j : Int) = some ((l.drop j).all roomX)
  | 0, j, _, h => by omega
  | k + 1, j, hj, h => by
    rw [strongboxlaw22_Room.l0, List.length_map]
    by_cases hlt : j < l.length
    · rw [if_pos (by omega), if_pos (by omega)]
      have hrd : rd_T33 (l.map toS) (j : Int) = toS l[j] := by
        unfold rd_T33
        rw [Int.toNat_natCast, List.getD_eq_getElem?_getD, List.getElem?_map, List.getElem?_eq_getElem hlt]
        rfl
      rw [hrd]
      have hw : wrap64 ((j : Int) + 1) = ((j + 1 : Nat) : Int) := by unfold wrap64; omega
      rw [hw, room_l0 l hl k (j + 1) (by omega) (by omega), List.drop_eq_getElem_cons hlt, List.all_cons]
      obtain ⟨x, hx⟩ : ∃ x, l[j] = x := ⟨_, rfl⟩
      rw [hx]
      unfold toS roomX
      simp only [mkS_size, byN_length]
      by_cases h1 : x.bk.length ≤ 300
      · rw [if_neg (by omega), decide_eq_true h1]
        by_cases h2 : x.ky.length ≤ 300
        · rw [if_neg (by omega), decide_eq_true h2]
          by_cases h3 : x.dt.length ≤ 3000
          · rw [if_neg (by omega), decide_eq_true h3]
            by_cases h4 : x.pf.length ≤ 300
            · rw [if_neg (by omega), decide_eq_true h4]
              by_cases h5 : x.fr.length ≤ 300
              · rw [if_neg (by omega), decide_eq_true h5]; simp
              · rw [if_pos (by omega), decide_eq_false h5]; simp
            · rw [if_pos (by omega), decide_eq_false h4]; simp
          · rw [if_pos (by omega), decide_eq_false h3]; simp
        · rw [if_pos (by omega), decide_eq_false h2]; simp
      · rw [if_pos (by omega), decide_eq_false h1]; simp
    · rw [if_neg (by omega), List.drop_eq_nil_of_le (by omega)]
      rfl
theorem room_is (l : List Ch) (m : Nat) (A : Option Addr) (c : Nat) (w : World) (hc : l.length ≤ c) (hm : m ≤ 1000000) (hC : Kd.C kCh w A l.length l) :
    Calls Tryd.prog 7 #[.slice A l.length c, .int .i64 (m : Int)] w fun e w' => e = .returned (.bool (roomB l m)) ∧ Below w.heap.size w w' := by
  have h := strongboxlaw22_Room.calls (l.length + 1) A c (l.map toS) (m : Int) (roomB l m) w (by rw [List.length_map]; exact C_toS hC) (by rw [List.length_map]; exact hc) (by
    unfold strongboxlaw22_Room.f roomB
    rw [List.length_map]
    by_cases h : l.length ≤ m
    · rw [if_neg (by omega), decide_eq_true h]
      have := room_l0 l (by omega) (l.length + 1) 0 (Nat.zero_le _) (by omega)
      rw [List.drop_zero] at this
      exact this
    · rw [if_pos (by omega), decide_eq_false h]; rfl)
  rw [List.length_map] at h
  exact h
theorem roomB_ok {l : List Ch} {m : Nat} (h : roomB l m = true) : l.length ≤ m ∧ ∀ x ∈ l, x.bk.length ≤ 300 ∧ x.ky.length ≤ 300 ∧ x.dt.length ≤ 3000 ∧ x.pf.length ≤ 300 ∧ x.fr.length ≤ 300 := by
  unfold roomB at h
  simp only [Bool.and_eq_true, decide_eq_true_eq, List.all_eq_true] at h
  refine ⟨h.1, fun x hx => ?_⟩
  have := h.2 x hx
  unfold roomX at this
  simp only [Bool.and_eq_true, decide_eq_true_eq] at this
  exact ⟨this.1.1.1.1, this.1.1.1.2, this.1.1.2, this.1.2, this.2⟩

/-- Its texts are short, but for the data. -/
structure Ch.Short (x : Ch) : Prop where
  bk : x.bk.length ≤ 300
  ky : x.ky.length ≤ 300
  dt : x.dt.length ≤ 3000
  pf : x.pf.length ≤ 300
  fr : x.fr.length ≤ 300
def ofNums (zs : List Int) : List UInt8 := zs.map fun z => UInt8.ofNat z.toNat
theorem byN_ofNums (zs : List Int) (h : ∀ z ∈ zs, 0 ≤ z ∧ z ≤ 255) : byN (ofNums zs) = zs := by
  unfold byN bytesOf ofNums
  rw [mkS_list, List.map_map]
  conv => rhs; rw [← List.map_id zs]
  apply List.map_congr_left
  intro z hz
  have := h z hz
  simp
  omega

instance : Inhabited Ch := ⟨⟨0, [], [], [], 0, 0, [], [], 0, 0⟩⟩
/-- A choice's numbers are ints. -/
structure Ch.Num (x : Ch) : Prop where
  d : -9223372036854775808 ≤ x.d ∧ x.d ≤ 9223372036854775807
  n : -9223372036854775808 ≤ x.n ∧ x.n ≤ 9223372036854775807
  a : -9223372036854775808 ≤ x.a ∧ x.a ≤ 9223372036854775807
  fi : -9223372036854775808 ≤ x.fi ∧ x.fi ≤ 9223372036854775807
  mo : -9223372036854775808 ≤ x.mo ∧ x.mo ≤ 9223372036854775807

section
variable {H : Type} {enc : TypeId × Value → H}
set_option maxRecDepth 100000 in
theorem open_ch {w : World} {base : Nat} {spare : Nat → Bool} {held : Bool} {fuel : Nat} {cs : List Value} {x : DataW H × List MemPlace}
    (h : DataW.trod enc Tryd.prog w base spare held fuel 33 cs = some x) : ∃ c : Ch, kCh.K w c cs ∧ c.Num := by
  have c39 : Tryd.prog.cellsOf 33 = 10 := by kernel_rfl
  have c37 : Tryd.prog.cellsOf 31 = 4 := by kernel_rfl
  have c9 : Tryd.prog.cellsOf 9 = 1 := by kernel_rfl
  have c5 : Tryd.prog.cellsOf 29 = 1 := by kernel_rfl
  have cu : Tryd.prog.cellsOf 5 = 1 := by kernel_rfl
  have c3 : Tryd.prog.cellsOf 3 = 1 := by kernel_rfl
  obtain ⟨xs, n, _, _, hl, hxl, hf⟩ := DataW.trod_struct Tryd.underlying33 h
  rw [c39] at hl
  match cs, hl with
  | [v0, v1, v2, v3, v4, v5, v6, v7, v8, v9], _ =>
    have hxl : xs.length = 7 := hxl
    have k0 := hf 0 _ rfl
    have k1 := hf 1 _ rfl
    have k2 := hf 2 _ rfl
    have k3 := hf 3 _ rfl
    have k4 := hf 4 _ rfl
    have k5 := hf 5 _ rfl
    have k6 := hf 6 _ rfl
    rw [List.getElem?_eq_getElem (by omega)] at k0 k1 k2 k3 k4 k5 k6
    simp [c9, c5, c37, c3] at k0 k1 k2 k3 k4 k5 k6
    obtain ⟨i0, e0, _, w0⟩ := DataW.trod_int Tryd.underlying3 k0
    obtain ⟨s1, e1, _, _⟩ := DataW.trod_string Tryd.underlying9 k1
    obtain ⟨s2, e2, _, _⟩ := DataW.trod_string Tryd.underlying9 k2
    obtain ⟨i4, e4, _, w4⟩ := DataW.trod_int Tryd.underlying3 k4
    obtain ⟨i5, e5, _, w5⟩ := DataW.trod_int Tryd.underlying3 k5
    obtain ⟨ys, n', _, _, _, hyl, hg⟩ := DataW.trod_struct Tryd.underlying31 k6
    have hyl : ys.length = 4 := hyl
    have m0 := hg 0 _ rfl
    have m1 := hg 1 _ rfl
    have m2 := hg 2 _ rfl
    have m3 := hg 3 _ rfl
    rw [List.getElem?_eq_getElem (by omega)] at m0 m1 m2 m3
    simp [c9, c3] at m0 m1 m2 m3
    obtain ⟨s6, e6, _, _⟩ := DataW.trod_string Tryd.underlying9 m0
    obtain ⟨s7, e7, _, _⟩ := DataW.trod_string Tryd.underlying9 m1
    obtain ⟨i8, e8, _, w8⟩ := DataW.trod_int Tryd.underlying3 m2
    obtain ⟨i9, e9, _, w9⟩ := DataW.trod_int Tryd.underlying3 m3
    simp only [List.cons.injEq, and_true] at e0 e1 e2 e4 e5 e6 e7 e8 e9
    subst e0; subst e1; subst e2; subst e4; subst e5; subst e6; subst e7; subst e8; subst e9
    have hdt : ∃ (A : Option Addr) (zs : List Int) (c : Nat), v3 = .slice A zs.length c ∧ zs.length ≤ c ∧ (∀ z ∈ zs, 0 ≤ z ∧ z ≤ 255) ∧ (Kd.int .u8).C w A zs.length zs := by
      rcases open_ints Tryd.underlying29 Tryd.underlying5 cu k3 with ⟨hcs, _⟩ | ⟨a, len, cap, zs, hcs, _, hl, hm, hz, _, hcell, hwz⟩
      · simp only [List.cons.injEq, and_true] at hcs
        exact ⟨none, [], 0, hcs, Nat.le_refl _, (fun z hz => by cases hz), Kd.C_nil _ _⟩
      · simp only [List.cons.injEq, and_true] at hcs
        have hlz : len ≤ zs.length := by rw [hz]; split <;> omega
        have hlt : (zs.take len).length = len := by rw [List.length_take]; omega
        refine ⟨some a, zs.take len, cap, by rw [hlt]; exact hcs, by rw [hlt]; exact hl, fun z hz => wf_u8 (hwz z (List.mem_of_mem_take hz)), ?_⟩
        rw [hlt]
        unfold maxLen at hm
        refine Kd.C_of_reads (enc := Value.int .u8) (d := (0 : Int)) (h1 := fun _ => rfl) ⟨hlt, by omega, fun _ => ⟨a, rfl, fun j hj => ?_⟩⟩
        rw [hcell j (by omega), List.getD_eq_getElem?_getD, List.getD_eq_getElem?_getD, List.getElem?_take_of_lt hj]
    obtain ⟨A, zs, c, rfl, hc, hz, hC⟩ := hdt
    have hbz := byN_ofNums zs hz
    have key := kCh_mk w (⟨i0, s1.data.toList, s2.data.toList, ofNums zs, i4, i5, s6.data.toList, s7.data.toList, i8, i9⟩ : Ch) (A := A) (c := c) (by rw [hbz]; exact hc) (by rw [hbz]; exact hC)
    unfold chCells at key
    simp only [hbz, mkS_of] at key
    exact ⟨_, key, ⟨wf_i64 w0, wf_i64 w4, wf_i64 w5, wf_i64 w8, wf_i64 w9⟩⟩

set_option maxRecDepth 100000 in
/-- The row itself. -/
theorem open_chs {w : World} {base : Nat} {r : Reach} {held : Bool} {v : Value} {d : DataW H} {ps : List MemPlace} (hval : Value.okWide Tryd.prog w r base 22 v)
    (hd : DataW.Trod enc Tryd.prog w 0 (fun _ => true) held 22 v d ps) : ∃ (l : List Ch) (A : Option Addr) (c : Nat), v = .slice A l.length c ∧ l.length ≤ c ∧ Kd.C kCh w A l.length l ∧ ∀ x ∈ l, x.Num := by
  have ht : Tryd.prog.underlying 22 = some (.slice 33) := Tryd.underlying22
  have c39 : Tryd.prog.cellsOf 33 = 10 := by kernel_rfl
  obtain ⟨a0, len0, cap0, rfl⟩ := okWide_slice ht hval
  obtain ⟨fuel, hf⟩ := hd
  rcases open_slice ht hf with ⟨h, _⟩ | ⟨a, len, cap, m, n, D, Pl, h, _, hl, hm, hmm, _, hx⟩
  · simp [Value.cells] at h
    obtain ⟨rfl, rfl, rfl⟩ := h
    exact ⟨[], none, 0, rfl, Nat.le_refl _, Kd.C_nil _ _, fun x hx => by cases hx⟩
  · simp [Value.cells] at h
    obtain ⟨rfl, rfl, rfl⟩ := h
    rw [if_pos rfl] at hmm
    obtain rfl : cap0 = m := hmm.symm
    have key : ∀ i, i < len0 → ∃ c : Ch, c.Num ∧ ∃ cs, cs.length = 10 ∧ kCh.K w c cs ∧ ∀ k u, cs[k]? = some u → w.cell? (a.add (i * 10 + k)) = some u := fun i hi => by
      obtain ⟨cs', h1, h2⟩ := hx i (by omega)
      rw [c39] at h1
      obtain ⟨c, hK, hN⟩ := open_ch h2
      obtain ⟨_, hl', hcell⟩ := World.cells?_some h1
      refine ⟨c, hN, cs', hl', hK, fun k u hu => ?_⟩
      have hk : k < 10 := by rw [← hl']; exact (List.getElem?_eq_some_iff.1 hu).1
      have := hcell k hk
      rw [hu, Go.Deep.add_add] at this
      exact this
    obtain ⟨E, hE⟩ := choose_lt (α := Ch) (p := fun i c => c.Num ∧ ∃ cs, cs.length = 10 ∧ kCh.K w c cs ∧ ∀ k u, cs[k]? = some u → w.cell? (a.add (i * 10 + k)) = some u) key
    refine ⟨(List.range len0).map E, some a, cap0, by simp, by simpa using hl, ?_, fun x hx => ?_⟩
    · unfold maxLen at hm
      refine ⟨by simp, by simp; omega, fun _ => ⟨a, rfl, fun j p hp => ?_⟩⟩
      rw [List.getElem?_map] at hp
      have hj : j < len0 := by
        by_cases h : j < len0
        · exact h
        · rw [List.getElem?_eq_none (by simp; omega)] at hp; cases hp
      rw [List.getElem?_range hj] at hp
      simp only [Option.map_some, Option.some.injEq] at hp
      subst hp
      exact (hE j hj).2
    · obtain ⟨j, hj, rfl⟩ := List.mem_map.1 hx
      exact (hE j (List.mem_range.1 hj)).1

end
theorem ch_ok {x : Ch} (h : x.Num) (hs : x.Short) : x.Ok 3000 := ⟨h.d, h.n, h.a, h.fi, h.mo, by have := hs.bk; omega, by have := hs.ky; omega, hs.dt, by have := hs.pf; omega, by have := hs.fr; omega⟩
theorem ch_short {l : List Ch} {m : Nat} (h : roomB l m = true) : ∀ x ∈ l, x.Short := fun x hx => by
  obtain ⟨h1, h2, h3, h4, h5⟩ := (roomB_ok h).2 x hx
  exact ⟨h1, h2, h3, h4, h5⟩
/-- What lies in a row of choices, and stays. -/
def HasC (w : World) (A : Option Addr) (l : List Ch) : Prop := ∀ w', Below w.heap.size w w' → Kd.C kCh w' A l.length l
theorem HasC.of {w : World} {A : Option Addr} {l : List Ch} (h : Kd.C kCh w A l.length l) : HasC w A l := fun _ hb => Kd.C_below h hb
theorem HasC.below {w w' : World} {A : Option Addr} {l : List Ch} (h : HasC w A l) (hb : Below w.heap.size w w') : HasC w' A l := fun _ hb2 => h _ (hb.trans (hb2.mono hb.size))
theorem HasC.now {w : World} {A : Option Addr} {l : List Ch} (h : HasC w A l) : Kd.C kCh w A l.length l := h _ (Below.refl _ _)
/-- Data that stays. -/
def HasD (w : World) (v : Value) (l : List UInt8) : Prop := ∀ w', Below w.heap.size w w' → Dt w' (fun _ => True) v l
theorem HasD.of {w : World} {ok : Nat → Prop} {v : Value} {l : List UInt8} (h : Dt w ok v l) : HasD w v l := fun _ hb => Kd.V_mono (Kd.V_below h hb) (fun _ _ => trivial)
theorem HasD.below {w w' : World} {v : Value} {l : List UInt8} (h : HasD w v l) (hb : Below w.heap.size w w') : HasD w' v l := fun _ hb2 => h _ (hb.trans (hb2.mono hb.size))
theorem HasD.now {w : World} {v : Value} {l : List UInt8} (h : HasD w v l) : Dt w (fun _ => True) v l := h _ (Below.refl _ _)
end Go.Proofs.YtjbjcfnbgcloiaaDoor
