/- Worlds that keep all blocks below a number but one. -/
import Derived.Test.YtgaejaadjmcckaaPAsk
namespace Go.Proofs.Ytgaejaadjmcckaa
open Go.Shelf Go.RowKit Go.Lib

/-- Below block N all is as it was, but for block g. -/
structure KeptBut (N g : Nat) (a b : World) : Prop where
  os : b.os = a.os
  tape : b.tape = a.tape
  output : b.output = a.output
  size : a.heap.size ≤ b.heap.size
  block : ∀ k, k < N → k ≠ g → b.heap[k]? = a.heap[k]?

theorem KeptBut.refl (N g : Nat) (a : World) : KeptBut N g a a := ⟨rfl, rfl, rfl, Nat.le_refl _, fun _ _ _ => rfl⟩
theorem KeptBut.below {N g : Nat} {a b c : World} (h : KeptBut N g a b) (hN : N ≤ b.heap.size) (hb : Below b.heap.size b c) : KeptBut N g a c :=
  ⟨hb.os.trans h.os, hb.tape.trans h.tape, hb.output.trans h.output, Nat.le_trans h.size hb.size, fun k hk hg => (hb.block k (by omega)).trans (h.block k hk hg)⟩
theorem KeptBut.alloc {N g : Nat} {a b : World} (h : KeptBut N g a b) (hN : N ≤ b.heap.size) (o : Obj) : KeptBut N g a (b.alloc o) := h.below hN ((Below.refl _ _).alloc (Nat.le_refl _) o)
theorem KeptBut.grown {N g : Nat} {a b c : World} {row : Option Nat} (h : KeptBut N g a b) (hN : N ≤ b.heap.size) (hg : b.grownBy c row) (hr : ∀ k, row = some k → N ≤ k) : KeptBut N g a c :=
  ⟨hg.os.trans h.os, hg.tape.trans h.tape, hg.output.trans h.output, Nat.le_trans h.size hg.size, fun k hk hkg => (hg.block k (by omega) (fun e => by have := hr k e.symm; omega)).trans (h.block k hk hkg)⟩
theorem KeptBut.setCell {N g : Nat} {a b : World} (h : KeptBut N g a b) (i : Nat) (u : Value) : KeptBut N g a (b.setCell ⟨g, i, none⟩ u) :=
  ⟨h.os, h.tape, h.output, Nat.le_trans h.size (by simp [World.setCell]), fun k hk hkg => (Below.heap_setCell _ _ _ _ hkg).trans (h.block k hk hkg)⟩
theorem KeptBut.drewN {N g : Nat} {a b : World} (h : KeptBut N g a b) (n : Nat) : KeptBut N g a (b.drewN n) := ⟨h.os, h.tape, h.output, h.size, h.block⟩
theorem KeptBut.cell {N g : Nat} {a b : World} (h : KeptBut N g a b) {p : Addr} (hp : p.block < N) (hg : p.block ≠ g) : b.cell? p = a.cell? p := World.cell?_of_block (h.block _ hp hg)
theorem KeptBut.frozen {N g : Nat} {a b : World} (h : KeptBut N g a b) {p : Addr} (hp : p.block < N) (hg : p.block ≠ g) : b.frozen? p = a.frozen? p := World.frozen?_of_block (h.block _ hp hg)
theorem KeptBut.toBelow {N g B : Nat} {a b w : World} (h : KeptBut N g a b) (hw : Below B w a) (hB : B ≤ N) (hg : B ≤ g) : Below B w b :=
  ⟨h.os.trans hw.os, h.tape.trans hw.tape, h.output.trans hw.output, Nat.le_trans hw.size h.size, fun k hk => (h.block k (by omega) (by omega)).trans (hw.block k hk)⟩

/-- What a block of cells gives its reader. -/
theorem cells_of_heap {W : World} {g : Nat} {cs : Array Value} {t : TypeId} (h : W.heap[g]? = some (.cells cs t (0, 0))) : (∀ i u, cs[i]? = some u → W.cell? ⟨g, i, none⟩ = some u) ∧ ∀ i, W.frozen? ⟨g, i, none⟩ = false := by
  constructor
  · intro i u hu
    simp [World.cell?, h, hu]
  · intro i
    simp [World.frozen?, h]

theorem heap_set {W : World} {g : Nat} {cs : Array Value} {t : TypeId} (h : W.heap[g]? = some (.cells cs t (0, 0))) (i : Nat) (u : Value) : (W.setCell ⟨g, i, none⟩ u).heap[g]? = some (.cells (cs.setIfInBounds i u) t (0, 0)) :=
  heap_setCell_same W g i cs t u h
end Go.Proofs.Ytgaejaadjmcckaa
