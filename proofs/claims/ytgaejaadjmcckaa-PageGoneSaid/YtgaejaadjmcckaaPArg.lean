/- A row of entries that came in, opened. -/
import Derived.Test.YtgaejaadjmcckaaPAwake
import Derived.Test.YtgaejaadjmcckaaLaw
import Derived.Deep.Slices
import Derived.Deep.Strs
namespace Go.Proofs.Ytgaejaadjmcckaa
open Go.ChangeShapes Go.WideShapes Go.ChangeAt Go.RowKit Go.Shelf Go.Deep

section
variable {H : Type} {enc : TypeId × Value → H}
theorem open_ent {w : World} {base : Nat} {spare : Nat → Bool} {held : Bool} {fuel : Nat} {cs : List Value} {x : DataW H × List MemPlace}
    (h : DataW.trod enc Try.prog w base spare held fuel 32 cs = some x) : ∃ e : Ent, cs = encE e := by
  have c50 : Try.prog.cellsOf 32 = 6 := by kernel_rfl
  have c48 : Try.prog.cellsOf 30 = 4 := by kernel_rfl
  have c9 : Try.prog.cellsOf 9 = 1 := by kernel_rfl
  have c4 : Try.prog.cellsOf 4 = 1 := by kernel_rfl
  have c3 : Try.prog.cellsOf 3 = 1 := by kernel_rfl
  have c46 : Try.prog.cellsOf 28 = 1 := by kernel_rfl
  obtain ⟨xs, n, _, _, hl, hxl, hf⟩ := DataW.trod_struct Try.underlying32 h
  rw [c50] at hl
  match cs, hl with
  | [v0, v1, v2, v3, v4, v5], _ =>
    have hxl : xs.length = 3 := hxl
    have k0 := hf 0 _ rfl
    have k1 := hf 1 _ rfl
    have k2 := hf 2 _ rfl
    rw [List.getElem?_eq_getElem (by omega)] at k0 k1 k2
    simp [c9, c48, c4] at k0 k1 k2
    obtain ⟨a, e0, _, _⟩ := DataW.trod_string Try.underlying9 k0
    obtain ⟨ys, n', _, _, _, hyl, hg⟩ := DataW.trod_struct Try.underlying30 k1
    have hyl : ys.length = 4 := hyl
    have m0 := hg 0 _ rfl
    have m1 := hg 1 _ rfl
    have m2 := hg 2 _ rfl
    have m3 := hg 3 _ rfl
    rw [List.getElem?_eq_getElem (by omega)] at m0 m1 m2 m3
    simp [c3, c4, c46] at m0 m1 m2 m3
    obtain ⟨i, e1, _, _⟩ := DataW.trod_int Try.underlying3 m0
    obtain ⟨mk, e2, _⟩ := DataW.trod_bool Try.underlying4 m1
    obtain ⟨sz, e3, _, _⟩ := DataW.trod_int Try.underlying3 m2
    obtain ⟨su, e4, _, _⟩ := DataW.trod_int Try.underlying28 m3
    obtain ⟨la, e5, _⟩ := DataW.trod_bool Try.underlying4 k2
    simp only [List.cons.injEq, and_true] at e0 e1 e2 e3 e4 e5
    subst e0; subst e1; subst e2; subst e3; subst e4; subst e5
    exact ⟨⟨a, i, mk, sz, su, la⟩, rfl⟩

/-- The row itself. -/
theorem open_row {w : World} {base : Nat} {r : Reach} {held : Bool} {v : Value} {d : DataW H} {ps : List MemPlace} (hval : Value.okWide Try.prog w r base 22 v)
    (hd : DataW.Trod enc Try.prog w 0 (fun _ => true) held 22 v d ps) : ∃ l, RowE w v l ∧ l.length ≤ maxLen ∧ ∃ p c, v = .slice p l.length c ∧ l.length ≤ c ∧ (p = none → c = 0) := by
  have ht : Try.prog.underlying 22 = some (.slice 32) := Try.underlying22
  have c50 : Try.prog.cellsOf 32 = 6 := by kernel_rfl
  obtain ⟨a0, len0, cap0, rfl⟩ := okWide_slice ht hval
  obtain ⟨fuel, hf⟩ := hd
  rcases open_slice ht hf with ⟨h, _⟩ | ⟨a, len, cap, m, n, D, Pl, h, _, hl, hm, hmm, _, hx⟩
  · simp [Value.cells] at h
    obtain ⟨rfl, rfl, rfl⟩ := h
    exact ⟨[], .inl ⟨rfl, rfl⟩, by simp, none, 0, rfl, Nat.le_refl _, fun _ => rfl⟩
  · simp [Value.cells] at h
    obtain ⟨rfl, rfl, rfl⟩ := h
    have hc : Cell.ok Try.prog w r base 22 (.slice (some a) len0 cap0) := by
      unfold Value.okWide at hval
      rw [ht] at hval
      unfold Cell.okWide at hval
      rw [ht] at hval
      exact hval
    unfold Cell.ok at hc
    rw [ht] at hc
    obtain ⟨_, _, _, hsp, row, cells, hsh, _⟩ := hc
    obtain ⟨b, o, spot⟩ := a
    simp only [] at hsp hsh
    subst hsp
    have hb : b < w.heap.size := by
      by_cases c : b < w.heap.size
      · exact c
      · rw [World.shape?, Array.getElem?_eq_none (by omega)] at hsh
        simp at hsh
    rw [if_pos rfl] at hmm
    obtain rfl : cap0 = m := hmm.symm
    have key : ∀ i, i < len0 → ∃ e : Ent, ∀ k, k < 6 → w.cell? ⟨b, o + (i * 6 + k), none⟩ = (encE e)[k]? := fun i hi => by
      obtain ⟨cs', h1, h2⟩ := hx i (by omega)
      rw [c50] at h1
      obtain ⟨e, rfl⟩ := open_ent h2
      obtain ⟨_, _, hcell⟩ := World.cells?_some h1
      refine ⟨e, fun k hk => ?_⟩
      have := hcell k hk
      rw [Go.WideShapes.add_plain, Go.WideShapes.add_plain] at this
      rw [← this, Nat.add_assoc]
    obtain ⟨E, hE⟩ := choose_lt (α := Ent) (p := fun i e => ∀ k, k < 6 → w.cell? ⟨b, o + (i * 6 + k), none⟩ = (encE e)[k]?) key
    refine ⟨(List.range len0).map E, .inr ⟨b, o, cap0, by simp, hb, fun j u hj => ?_⟩, by simp; omega, some ⟨b, o, none⟩, cap0, by simp, by simpa using hl, fun h => by cases h⟩
    have hj' : j < len0 * 6 := by
      have := (List.getElem?_eq_some_iff.1 hj).1
      rw [flat_length] at this
      simpa using this
    have h1 : j / 6 < len0 := by omega
    have e : j = j / 6 * 6 + j % 6 := by omega
    rw [e, flat_get _ _ _ (by simpa using h1) (Nat.mod_lt _ (by omega))] at hj
    rw [e, hE _ h1 _ (Nat.mod_lt _ (by omega)), ← hj]
    simp [List.getD_eq_getElem?_getD, h1]
end
end Go.Proofs.Ytgaejaadjmcckaa
