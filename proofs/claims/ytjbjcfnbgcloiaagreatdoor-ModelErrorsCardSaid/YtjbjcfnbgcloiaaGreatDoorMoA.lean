/- A model in memory: its buckets, their keys, the versions of these; plainly, and as it lies. -/
import Derived.Test.YtjbjcfnbgcloiaaGreatDoorProg
import Derived.Test.YtjbjcfnbgcloiaaGreatDoorWN
import Derived.Test.YtjbjcfnbgcloiaaGreatDoorWNEv
import Derived.Test.YtjbjcfnbgcloiaaGreatDoorWKept
import Derived.Test.YtjbjcfnbgcloiaaGreatDoorWShare
import Derived.Test.YtjbjcfnbgcloiaaGreatDoorWFoot
import Derived.Maps.OwnOps
import Derived.Maps.OwnSet
import Derived.Maps.Ext
import Derived.Maps.RangeWalk
import Derived.Lib.Hide
namespace Go.Proofs.YtjbjcfnbgcloiaaGreatDoor
open Go.RowKit YtjbjcfnbgcloiaaGreatDoorW.PrintWords

/-! ### bytes -/
def mkS (l : List UInt8) : ByteArray := ⟨l.toArray⟩
theorem mkS_list (l : List UInt8) : (mkS l).data.toList = l := rfl
theorem mkS_of (s : ByteArray) : mkS s.data.toList = s := by cases s; rfl
theorem mkS_size (l : List UInt8) : (mkS l).size = l.length := by simp [mkS, ByteArray.size]
theorem eq_mkS {t : ByteArray} {l : List UInt8} (h : t.data.toList = l) : t = mkS l := by rw [← h, mkS_of]
theorem mkS_inj {a b : List UInt8} : mkS a = mkS b ↔ a = b := ⟨fun h => congrArg (fun t : ByteArray => t.data.toList) h, fun h => by rw [h]⟩
def byN (l : List UInt8) : List Int := bytesOf (mkS l)
theorem byN_length (l : List UInt8) : (byN l).length = l.length := by unfold byN; rw [bytesOf_length, mkS_size]
theorem byN_str (l : List UInt8) : strOfNums (byN l) = mkS l := by
  apply ByteArray.ext
  apply Array.toList_inj.1
  rw [strOfNums_data]
  unfold byN bytesOf
  rw [List.map_map, mkS_list]
  conv => rhs; rw [← List.map_id l]
  apply List.map_congr_left
  intro c _
  simp
theorem byN_inj {a b : List UInt8} (h : byN a = byN b) : a = b := mkS_inj.1 (by rw [← byN_str, h, byN_str])

/-! ### a version, and its data -/
structure Kp where
  id : Int
  mark : Bool
  sz : Int
  sum : Int
  dt : List UInt8
deriving DecidableEq
def kpCells (x : Kp) (v : Value) : List Value := [.int .i64 x.id, .bool x.mark, .int .i64 x.sz, .int .u32 x.sum, v]
/-! ### blocks of cells, maps; what is read out of some blocks stays read while these stay -/
def IsC (w : World) (k : Nat) : Prop := ∃ a b c, w.heap[k]? = some (.cells a b c)
def IsM (w : World) (k : Nat) : Prop := ∃ a b, w.heap[k]? = some (.map a b)
theorem isC_lt {w : World} {k : Nat} (h : IsC w k) : k < w.heap.size := by
  obtain ⟨a, b, c, h⟩ := h
  exact (Array.getElem?_eq_some_iff.1 h).1
theorem isM_lt {w : World} {k : Nat} (h : IsM w k) : k < w.heap.size := by
  obtain ⟨a, b, h⟩ := h
  exact (Array.getElem?_eq_some_iff.1 h).1
theorem isC_not {w : World} {k : Nat} (h : IsC w k) (hm : IsM w k) : False := by
  obtain ⟨a, b, c, h⟩ := h
  obtain ⟨a', b', hm⟩ := hm
  rw [h] at hm
  cases hm
theorem cell_isC {w : World} {a : Addr} {v : Value} (h : w.cell? a = some v) : IsC w a.block := by
  unfold World.cell? at h
  cases hh : w.heap[a.block]? with
  | none => rw [hh] at h; cases h
  | some o =>
    cases o <;> (rw [hh] at h; first | exact ⟨_, _, _, hh⟩ | cases h)
/-- The blocks of F stay. -/
def FKept (F : Nat → Prop) (w w' : World) : Prop := ∀ k, F k → w'.heap[k]? = w.heap[k]?
theorem FKept.refl (F : Nat → Prop) (w : World) : FKept F w w := fun _ _ => rfl
theorem FKept.trans {F : Nat → Prop} {a b c : World} (h : FKept F a b) (k : FKept F b c) : FKept F a c := fun i hi => (k i hi).trans (h i hi)
theorem FKept.less {F F' : Nat → Prop} {a b : World} (h : FKept F a b) (hf : ∀ k, F' k → F k) : FKept F' a b := fun i hi => h i (hf i hi)
/-- Bytes that lie in blocks of F. -/
def DatF (w : World) (F : Nat → Prop) (A : Option Addr) (l : List UInt8) : Prop := ∀ w', FKept F w w' → (Kd.int .u8).C w' A l.length (byN l)
theorem DatF.kept {w w' : World} {F : Nat → Prop} {A : Option Addr} {l : List UInt8} (h : DatF w F A l) (hk : FKept F w w') : DatF w' F A l := fun _ h2 => h _ (hk.trans h2)
theorem DatF.mono {w : World} {F F' : Nat → Prop} {A : Option Addr} {l : List UInt8} (h : DatF w F A l) (hf : ∀ k, F k → F' k) : DatF w F' A l := fun _ h2 => h _ (h2.less hf)
theorem DatF.now {w : World} {F : Nat → Prop} {A : Option Addr} {l : List UInt8} (h : DatF w F A l) : (Kd.int .u8).C w A l.length (byN l) := h w (FKept.refl _ _)
/-- A version's cells; its bytes lie in blocks of F. -/
def KpF (w : World) (F : Nat → Prop) (x : Kp) (cs : List Value) : Prop := ∃ A c, cs = kpCells x (.slice A x.dt.length c) ∧ x.dt.length ≤ c ∧ DatF w F A x.dt
theorem KpF.kept {w w' : World} {F : Nat → Prop} {x : Kp} {cs : List Value} (h : KpF w F x cs) (hk : FKept F w w') : KpF w' F x cs := by
  obtain ⟨A, c, h1, h2, h3⟩ := h
  exact ⟨A, c, h1, h2, h3.kept hk⟩
theorem KpF.mono {w : World} {F F' : Nat → Prop} {x : Kp} {cs : List Value} (h : KpF w F x cs) (hf : ∀ k, F k → F' k) : KpF w F' x cs := by
  obtain ⟨A, c, h1, h2, h3⟩ := h
  exact ⟨A, c, h1, h2, h3.mono hf⟩
theorem KpF.len {w : World} {F : Nat → Prop} {x : Kp} {cs : List Value} (h : KpF w F x cs) : cs.length = 5 := by
  obtain ⟨A, c, rfl, _⟩ := h
  rfl
theorem KpF.one {w : World} {F : Nat → Prop} {x : Kp} {cs : List Value} (h : KpF w F x cs) : ∀ u ∈ cs, u.oneCell' = true := by
  obtain ⟨A, c, rfl, _⟩ := h
  simp [kpCells, Value.oneCell']
theorem cell_kept {F : Nat → Prop} {w w' : World} {a : Addr} {v : Value} (h : w.cell? a = some v) (hf : F a.block) (hk : FKept F w w') : w'.cell? a = some v := (World.cell?_of_block (hk a.block hf)).trans h

/-! ### how the maps' elements are told -/
def R1 : Value → Option (DataW Unit × List MemPlace)
  | .map none => some (.nil, [])
  | .map (some b) => some (.lit (.int .i64 b), [])
  | _ => none
def R2 : Value → Option (DataW Unit × List MemPlace)
  | .slice none 0 0 => some (.nil, [])
  | .slice (some ⟨g, 0, none⟩) n c => some (.agg [.lit (.int .i64 g), .lit (.int .i64 n), .lit (.int .i64 c)], [])
  | _ => none
theorem R1_inv {v : Value} {d : DataW Unit} {ps : List MemPlace} (h : R1 v = some (d, ps)) : (v = .map none ∧ d = .nil) ∨ ∃ b : Nat, v = .map (some b) ∧ d = .lit (.int .i64 b) := by
  unfold R1 at h
  split at h
  · simp only [Option.some.injEq, Prod.mk.injEq] at h
    exact .inl ⟨rfl, h.1.symm⟩
  · simp only [Option.some.injEq, Prod.mk.injEq] at h
    exact .inr ⟨_, rfl, h.1.symm⟩
  · cases h
theorem R2_inv {v : Value} {d : DataW Unit} {ps : List MemPlace} (h : R2 v = some (d, ps)) : (v = .slice none 0 0 ∧ d = .nil) ∨ ∃ g n c : Nat, v = .slice (some ⟨g, 0, none⟩) n c ∧ d = .agg [.lit (.int .i64 g), .lit (.int .i64 n), .lit (.int .i64 c)] := by
  unfold R2 at h
  split at h
  · simp only [Option.some.injEq, Prod.mk.injEq] at h
    exact .inl ⟨rfl, h.1.symm⟩
  · simp only [Option.some.injEq, Prod.mk.injEq] at h
    exact .inr ⟨_, _, _, rfl, h.1.symm⟩
  · cases h
theorem R1_one {v v' : Value} {d : DataW Unit} {ps ps' : List MemPlace} (h : R1 v = some (d, ps)) (h' : R1 v' = some (d, ps')) : v = v' := by
  rcases R1_inv h with ⟨rfl, rfl⟩ | ⟨b, rfl, rfl⟩ <;> rcases R1_inv h' with ⟨rfl, e⟩ | ⟨b', rfl, e⟩
  · rfl
  · cases e
  · cases e
  · simp only [DataW.lit.injEq, Lit.int.injEq, true_and] at e
    rw [show b = b' by omega]
theorem R2_one {v v' : Value} {d : DataW Unit} {ps ps' : List MemPlace} (h : R2 v = some (d, ps)) (h' : R2 v' = some (d, ps')) : v = v' := by
  rcases R2_inv h with ⟨rfl, rfl⟩ | ⟨g, n, c, rfl, rfl⟩ <;> rcases R2_inv h' with ⟨rfl, e⟩ | ⟨g', n', c', rfl, e⟩
  · rfl
  · cases e
  · cases e
  · simp only [DataW.agg.injEq, List.cons.injEq, DataW.lit.injEq, Lit.int.injEq, true_and, and_true] at e
    rw [show g = g' by omega, show n = n' by omega, show c = c' by omega]
abbrev KS : Maps.Keyed Tryz.prog 9 := Maps.string_keyed Tryz.underlying9
theorem key_str (s : List UInt8) (hs : s.length ≤ maxLen) : keyOf Tryz.prog 9 (.string (mkS s)) = some (.string s) := by
  unfold keyOf
  simp [mapKey, Tryz.underlying9, mkS_size, hs, mkS_list]
theorem isKey_str (s : List UInt8) : WideAt.IsKeyLit (.string s) := by
  simp [WideAt.IsKeyLit]

/-- Where a slice's cells lie. -/
def NewsAt (w : World) (F : Nat → Prop) (v : Value) (news : List Value) (n : Nat) : Prop := (v = .slice none 0 0 ∧ n = 0 ∧ news = []) ∨ ∃ g c, v = .slice (some ⟨g, 0, none⟩) n c ∧ n ≤ c ∧ F g ∧ ∀ j u, news[j]? = some u → w.cell? ⟨g, j, none⟩ = some u
theorem NewsAt.kept {w w' : World} {F : Nat → Prop} {v : Value} {news : List Value} {n : Nat} (h : NewsAt w F v news n) (hk : FKept F w w') : NewsAt w' F v news n := by
  rcases h with h | ⟨g, c, h1, h2, h3, h4⟩
  · exact .inl h
  · exact .inr ⟨g, c, h1, h2, h3, fun j u hu => cell_kept (h4 j u hu) h3 hk⟩
theorem NewsAt.mono {w : World} {F F' : Nat → Prop} {v : Value} {news : List Value} {n : Nat} (h : NewsAt w F v news n) (hf : ∀ k, F k → F' k) : NewsAt w F' v news n := by
  rcases h with h | ⟨g, c, h1, h2, h3, h4⟩
  · exact .inl h
  · exact .inr ⟨g, c, h1, h2, hf g h3, h4⟩
theorem NewsAt.slice {w : World} {F : Nat → Prop} {v : Value} {news : List Value} {n : Nat} (h : NewsAt w F v news n) : ∃ A c, v = .slice A n c ∧ n ≤ c := by
  rcases h with ⟨rfl, rfl, _⟩ | ⟨g, c, h1, h2, _⟩
  · exact ⟨none, 0, rfl, Nat.le_refl _⟩
  · exact ⟨_, c, h1, h2⟩
/-- A slice of versions: nil, or at the head of a block. -/
def RowV (w : World) (F : Nat → Prop) (v : Value) (l : List Kp) : Prop := ∃ news, NewsAt w F v news l.length ∧ Reps (KpF w F) 5 l news
theorem RowV.kept {w w' : World} {F : Nat → Prop} {v : Value} {l : List Kp} (h : RowV w F v l) (hk : FKept F w w') : RowV w' F v l := by
  obtain ⟨news, h1, h2⟩ := h
  exact ⟨news, h1.kept hk, h2.imp_ fun _ _ hp => hp.kept hk⟩
theorem RowV.mono {w : World} {F F' : Nat → Prop} {v : Value} {l : List Kp} (h : RowV w F v l) (hf : ∀ k, F k → F' k) : RowV w F' v l := by
  obtain ⟨news, h1, h2⟩ := h
  exact ⟨news, h1.mono hf, h2.imp_ fun _ _ hp => hp.mono hf⟩
theorem rowV_nil (w : World) (F : Nat → Prop) : RowV w F (.slice none 0 0) [] := ⟨[], .inl ⟨rfl, rfl, rfl⟩, Reps.none _ _⟩
theorem RowV.slice {w : World} {F : Nat → Prop} {v : Value} {l : List Kp} (h : RowV w F v l) : ∃ A c, v = .slice A l.length c ∧ l.length ≤ c := by
  obtain ⟨news, h1, _⟩ := h
  exact h1.slice
theorem RowV.r2 {w : World} {F : Nat → Prop} {v : Value} {l : List Kp} (h : RowV w F v l) : ∃ d, R2 v = some (d, []) := by
  obtain ⟨news, h1, _⟩ := h
  rcases h1 with ⟨rfl, _⟩ | ⟨g, c, rfl, _⟩
  · exact ⟨_, rfl⟩
  · exact ⟨_, rfl⟩
/-- An element's cells. -/
theorem RowV.at_ {w : World} {F : Nat → Prop} {g c : Nat} {l : List Kp} {n : Nat} (h : RowV w F (.slice (some ⟨g, 0, none⟩) n c) l) (j : Nat) {y : Kp} (hy : l[j]? = some y) : ∃ A c', y.dt.length ≤ c' ∧ DatF w F A y.dt ∧ ∀ i u, (kpCells y (.slice A y.dt.length c'))[i]? = some u → w.cell? ⟨g, j * 5 + i, none⟩ = some u := by
  obtain ⟨news, h1, h2⟩ := h
  rcases h1 with ⟨e, _⟩ | ⟨g', c', e, _, _, h4⟩
  · cases e
  injection e with e _ _
  injection e with e
  injection e with e _ _
  subst e
  obtain ⟨A, c2, e2, h5, h6⟩ := h2.2 j y hy
  refine ⟨A, c2, h5, h6, fun i u hu => h4 (j * 5 + i) u ?_⟩
  rw [← e2, List.getElem?_take, List.getElem?_drop] at hu
  split at hu
  · exact hu
  · cases hu
/-- Block b is a bucket's keys. -/
def InnerM (w : World) (F : Nat → Prop) (b n : Nat) (f : List UInt8 → List Kp) : Prop :=
  ∃ D, w.ownsMap Tryz.prog 9 R2 b n D ∧ ∀ s, ∃ v ps, R2 v = some (D.atKey (.string s) .nil, ps) ∧ RowV w F v (f s)
theorem ownsMap_kept {w w' : World} {R : Value → Option (DataW Unit × List MemPlace)} {b n : Nat} {D : DataW Unit} (h : w.ownsMap Tryz.prog 9 R b n D) (hb : w'.heap[b]? = w.heap[b]?) : w'.ownsMap Tryz.prog 9 R b n D := by
  obtain ⟨es, clock, h1, h2⟩ := h
  exact ⟨es, clock, hb.trans h1, h2⟩
theorem ownsMap_isM {w : World} {R : Value → Option (DataW Unit × List MemPlace)} {b n : Nat} {D : DataW Unit} (h : w.ownsMap Tryz.prog 9 R b n D) : IsM w b := by
  obtain ⟨es, clock, h1, h2⟩ := h
  exact ⟨es, clock, h1⟩
theorem InnerM.kept {w w' : World} {F : Nat → Prop} {b n : Nat} {f : List UInt8 → List Kp} (h : InnerM w F b n f) (hb : w'.heap[b]? = w.heap[b]?) (hc : FKept F w w') : InnerM w' F b n f := by
  obtain ⟨D, h1, h2⟩ := h
  refine ⟨D, ownsMap_kept h1 hb, fun s => ?_⟩
  obtain ⟨v, ps, h3, h4⟩ := h2 s
  exact ⟨v, ps, h3, h4.kept hc⟩
theorem InnerM.mono {w : World} {F : Nat → Prop} {b n n' : Nat} {f : List UInt8 → List Kp} (h : InnerM w F b n f) (hn : n ≤ n') : InnerM w F b n' f := by
  obtain ⟨D, h1, h2⟩ := h
  exact ⟨D, h1.mono hn, h2⟩
theorem InnerM.more {w : World} {F F' : Nat → Prop} {b n : Nat} {f : List UInt8 → List Kp} (h : InnerM w F b n f) (hf : ∀ k, F k → F' k) : InnerM w F' b n f := by
  obtain ⟨D, h1, h2⟩ := h
  refine ⟨D, h1, fun s => ?_⟩
  obtain ⟨v, ps, h3, h4⟩ := h2 s
  exact ⟨v, ps, h3, h4.mono hf⟩

/-! ### a model's state, plainly, and as it lies: its maps are the blocks Q, its cells the blocks F -/
structure St where
  B : List (List UInt8)
  V : List UInt8 → List UInt8 → List Kp
structure Outer (w : World) (g : Nat) (S : St) (n : Nat) (Q F : Nat → Prop) (mb : Nat) (D : DataW Unit) : Prop where
  c : w.heap[g]? = some (.cells #[.map (some mb)] 59 (0, 0))
  fg : F g
  o : w.ownsMap Tryz.prog 9 R1 mb n D
  qm : Q mb
  sz : Maps.size D = S.B.length
  hs : ∀ s, Maps.has D (.string s) = decide (s ∈ S.B)
  at_ : ∀ s, s ∈ S.B → ∃ b : Nat, D.atKey (.string s) .nil = .lit (.int .i64 b) ∧ Q b ∧ b ≠ mb ∧ InnerM w F b n (S.V s)
  ne : ∀ s, s ∈ S.B → ∀ s', s' ∈ S.B → D.atKey (.string s) .nil = D.atKey (.string s') .nil → s = s'
structure HasM (w : World) (g : Nat) (S : St) (n : Nat) (Q F : Nat → Prop) : Prop where
  q : ∀ k, Q k → IsM w k
  f : ∀ k, F k → IsC w k
  nd : S.B.Nodup
  off : ∀ s, s ∉ S.B → ∀ k, S.V s k = []
  ex : ∃ mb D, Outer w g S n Q F mb D
/-- What a call on a model may turn: its maps, and new blocks. -/
structure Moved (Q : Nat → Prop) (w w' : World) : Prop where
  os : w'.os = w.os
  tape : w'.tape = w.tape
  output : w'.output = w.output
  size : w.heap.size ≤ w'.heap.size
  block : ∀ k, k < w.heap.size → ¬ Q k → w'.heap[k]? = w.heap[k]?
theorem Moved.refl (Q : Nat → Prop) (w : World) : Moved Q w w := ⟨rfl, rfl, rfl, Nat.le_refl _, fun _ _ _ => rfl⟩
theorem Moved.of_below {Q : Nat → Prop} {w w' : World} (h : Below w.heap.size w w') : Moved Q w w' := ⟨h.os, h.tape, h.output, h.size, fun k hk _ => h.block k hk⟩
theorem Moved.of_grown {Q : Nat → Prop} {w w' : World} {b : Nat} (h : w.grownBy w' (some b)) (hb : Q b) : Moved Q w w' := ⟨h.os, h.tape, h.output, h.size, fun k hk hq => h.block k hk (fun e => hq (by injection e with e; subst e; exact hb))⟩
theorem Moved.trans {Q Q' : Nat → Prop} {a b c : World} (h : Moved Q a b) (k : Moved Q' b c) (hq : ∀ i, Q' i → Q i ∨ a.heap.size ≤ i) : Moved Q a c :=
  ⟨k.os.trans h.os, k.tape.trans h.tape, k.output.trans h.output, Nat.le_trans h.size k.size, fun i hi hn => (k.block i (Nat.lt_of_lt_of_le hi h.size) (fun e => (hq i e).elim hn (fun e => by omega))).trans (h.block i hi hn)⟩
theorem Moved.below {Q : Nat → Prop} {B : Nat} {a w w' : World} (h : Moved Q w w') (hb : Below B a w) (hB : B ≤ w.heap.size) (hq : ∀ k, Q k → B ≤ k) : Below B a w' :=
  ⟨h.os.trans hb.os, h.tape.trans hb.tape, h.output.trans hb.output, Nat.le_trans hb.size h.size, fun k hk => (h.block k (by omega) (fun e => by have := hq k e; omega)).trans (hb.block k hk)⟩
theorem Moved.cells {Q F : Nat → Prop} {w w' : World} (h : Moved Q w w') (hq : ∀ k, Q k → IsM w k) (hf : ∀ k, F k → IsC w k) : FKept F w w' := fun k hk => h.block k (isC_lt (hf k hk)) (fun q => isC_not (hf k hk) (hq k q))
theorem below_cells {F : Nat → Prop} {w w' : World} (h : Below w.heap.size w w') (hf : ∀ k, F k → IsC w k) : FKept F w w' := fun k hk => h.block k (isC_lt (hf k hk))
theorem Outer.kept {w w' : World} {g : Nat} {S : St} {n : Nat} {Q F : Nat → Prop} {mb : Nat} {D : DataW Unit} (h : Outer w g S n Q F mb D) (hc : FKept F w w') (hq : ∀ k, Q k → w'.heap[k]? = w.heap[k]?) : Outer w' g S n Q F mb D := by
  obtain ⟨h1, hf, h2, h3, h4, h5, h6, h7⟩ := h
  refine ⟨(hc g hf).trans h1, hf, ownsMap_kept h2 (hq mb h3), h3, h4, h5, fun s hs => ?_, h7⟩
  obtain ⟨b, e1, e2, e3, e4⟩ := h6 s hs
  exact ⟨b, e1, e2, e3, e4.kept (hq b e2) hc⟩
theorem Outer.below {w w' : World} {g : Nat} {S : St} {n : Nat} {Q F : Nat → Prop} {mb : Nat} {D : DataW Unit} (h : Outer w g S n Q F mb D) (hq : ∀ k, Q k → IsM w k) (hf : ∀ k, F k → IsC w k) (hb : Below w.heap.size w w') : Outer w' g S n Q F mb D :=
  h.kept (below_cells hb hf) (fun k hk => hb.block k (isM_lt (hq k hk)))
/-- A model stays while its maps, and its cells, stay. -/
theorem HasM.kept {w w' : World} {g : Nat} {S : St} {n : Nat} {Q F : Nat → Prop} (h : HasM w g S n Q F) (hc : FKept F w w') (hq : ∀ k, Q k → w'.heap[k]? = w.heap[k]?) : HasM w' g S n Q F := by
  obtain ⟨mb, D, hO⟩ := h.ex
  refine ⟨fun k hk => ?_, fun k hk => ?_, h.nd, h.off, mb, D, hO.kept hc hq⟩
  · obtain ⟨a, b, e⟩ := h.q k hk
    exact ⟨a, b, (hq k hk).trans e⟩
  · obtain ⟨a, b, c, e⟩ := h.f k hk
    exact ⟨a, b, c, (hc k hk).trans e⟩
theorem HasM.below {w w' : World} {g : Nat} {S : St} {n : Nat} {Q F : Nat → Prop} (h : HasM w g S n Q F) (hb : Below w.heap.size w w') : HasM w' g S n Q F :=
  h.kept (below_cells hb h.f) (fun k hk => hb.block k (isM_lt (h.q k hk)))
theorem HasM.mono {w : World} {g : Nat} {S : St} {n n' : Nat} {Q F : Nat → Prop} (h : HasM w g S n Q F) (hn : n ≤ n') : HasM w g S n' Q F := by
  obtain ⟨mb, D, h1, hf, h2, h3, h4, h5, h6, h7⟩ := h.ex
  refine ⟨h.q, h.f, h.nd, h.off, mb, D, h1, hf, h2.mono hn, h3, h4, h5, fun s hs => ?_, h7⟩
  obtain ⟨b, e1, e2, e3, e4⟩ := h6 s hs
  exact ⟨b, e1, e2, e3, e4.mono hn⟩
/-- Another model's call leaves it. -/
theorem HasM.apart {w w' : World} {g : Nat} {S : St} {n : Nat} {Q F Q2 : Nat → Prop} (h : HasM w g S n Q F) (hm : Moved Q2 w w') (hq : ∀ k, Q2 k → IsM w k) (hd : ∀ k, Q k → ¬ Q2 k) : HasM w' g S n Q F :=
  h.kept (hm.cells hq h.f) (fun k hk => hm.block k (isM_lt (h.q k hk)) (hd k hk))
end Go.Proofs.YtjbjcfnbgcloiaaGreatDoor
