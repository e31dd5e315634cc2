/- The first sentence of layer 8's statements: a page is told. -/
import Derived.Test.YtgaejaadjmcckaaPOb
namespace Go.Proofs.Ytgaejaadjmcckaa
open Go.Shelf Go.RowKit Go.Lib Nam

def entB : Ent := ⟨⟨#[98]⟩, 0, false, 0, 0, true⟩
def entA : Ent := ⟨⟨#[97]⟩, 0, false, 0, 0, true⟩
def askOne : AskV := ⟨⟨#[]⟩, ⟨#[]⟩, 0, 1⟩

theorem two_sorted {l : List Ent} (hp : l.Perm [entB, entA]) (hs : SortedE l) : l = [entA, entB] := by
  have hk : entB.key ≠ entA.key := by decide
  refine sortedE_unique (fun x hx y hy h1 _ => ?_) (hp.trans (List.Perm.swap _ _ _)) hs ?_
  · have hx' := hp.subset hx
    have hy' := hp.subset hy
    simp only [List.mem_cons, List.not_mem_nil, or_false] at hx' hy'
    rcases hx' with rfl | rfl <;> rcases hy' with rfl | rfl
    · rfl
    · exact absurd h1 hk
    · exact absurd h1.symm hk
    · rfl
  · refine List.Pairwise.cons (fun y hy => ?_) (List.Pairwise.cons (fun y hy => by cases hy) List.Pairwise.nil)
    simp only [List.mem_cons, List.not_mem_nil, or_false] at hy
    subst hy
    rw [ltE_not]
    left
    rw [ByteArray.toList_eq, ByteArray.toList_eq]
    decide

set_option maxHeartbeats 4000000 in
theorem pawake_is (w : World) : Calls Try.prog 8 #[] w fun e w' => e = .returned (.bool true) ∧ Below w.heap.size w w' := by
  go_enter Try.func8, Try.ntmps8
  go_wp2_with fail
  generalize hw1 : w.alloc _ = w1
  have h1 : w1.heap[w.heap.size]? = some (.cells #[.string ⟨#[98]⟩, .int .i64 0, .bool false, .int .i64 0, .int .u32 0, .bool true, .string ⟨#[97]⟩, .int .i64 0, .bool false, .int .i64 0, .int .u32 0, .bool true] 32 (0, 0)) := by rw [← hw1]; exact heap_alloc_new w _
  have hb1 : Below w.heap.size w w1 := by rw [← hw1]; exact (Below.refl _ _).alloc (Nat.le_refl _) _
  have s1 : w.heap.size < w1.heap.size := by rw [← hw1]; simp
  have hrow : RowE w1 (.slice (some ⟨w.heap.size, 0, none⟩) 2 2) [entB, entA] := .inr ⟨w.heap.size, 0, 2, rfl, s1, fun j u hj => by
    rw [Nat.zero_add]
    exact (cells_of_heap h1).1 j u (by simpa [encE, entB, entA] using hj)⟩
  clear hw1 h1
  have ho := objects_is askOne [entB, entA] (by decide) (fun x hx => by
    simp only [List.mem_cons, List.not_mem_nil, or_false] at hx
    rcases hx with rfl | rfl <;> (unfold maxLen; decide)) (by unfold maxLen; decide) (by decide) _ w1 hrow
  change Calls _ _ #[_, .agg #[.string ⟨#[]⟩, .string ⟨#[]⟩, .int .i64 0, .int .i64 1]] _ _ at ho
  refine ho.mono ?_
  rintro e w2 ⟨l', sv, hp, hs, hr, _, hb2, rfl⟩
  obtain rfl := two_sorted hp hs
  have hsel : selE (objB askOne) askOne [entA, entB] = [entA, entB] := by simp [selE, objB, askOne, entA, entB, prefixB, ByteArray.toList_eq]
  rw [hsel] at hr ⊢
  have e1 : [entA, entB].take askOne.most.toNat = [entA] := rfl
  have e2 : cutKey askOne.most.toNat [entA, entB] = ⟨#[97]⟩ := rfl
  have e3 : decide (askOne.most.toNat < [entA, entB].length) = true := rfl
  rw [e1] at hr
  rw [e2, e3]
  rcases hr with ⟨_, h⟩ | ⟨b, o, cap, rfl, hbl, hc⟩
  · cases h
  · have c0 : w2.cell? ⟨b, o, none⟩ = some (.string ⟨#[97]⟩) := hc 0 _ rfl
    have c1 : ∀ ob, (w2.alloc ob).cell? ⟨b, o, none⟩ = some (.string ⟨#[97]⟩) := fun ob => by rw [World.cell?_alloc_lt _ _ _ hbl]; exact c0
    have hb : Below w.heap.size w w2 := hb1.trans (hb2.mono (by omega))
    clear hc hsel hp hs ho
    go_wp2
    go_ret
    exact ⟨rfl, hb.alloc hb.size _⟩
end Go.Proofs.Ytgaejaadjmcckaa
