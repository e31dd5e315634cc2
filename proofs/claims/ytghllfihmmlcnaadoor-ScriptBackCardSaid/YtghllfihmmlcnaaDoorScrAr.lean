/- The statements' arguments, opened: a row of choices, a choice, an array. -/
import Derived.Test.YtghllfihmmlcnaaDoorScrS
import Derived.Test.YtghllfihmmlcnaaDoorLaw
import Derived.Deep.Slices
import Derived.Deep.Strs
namespace Go.Proofs.YtghllfihmmlcnaaDoor
open Go.ChangeShapes Go.WideShapes Go.ChangeAt Go.RowKit Go.Shelf Go.Deep YtghllfihmmlcnaaDoorW.PrintWords

def ofNums (zs : List Int) : List UInt8 := zs.map fun z => UInt8.ofNat z.toNat
theorem byN_ofNums (zs : List Int) (h : ∀ z ∈ zs, 0 ≤ z ∧ z ≤ 255) : byN (ofNums zs) = zs := by
  unfold byN bytesOf ofNums
  rw [mkS_list, List.map_map]
  conv => rhs; rw [← List.map_id zs]
  apply List.map_congr_left
  intro z hz
  have := h z hz
  simp
  omega

instance : Inhabited Ch := ⟨⟨0, [], [], [], 0, 0, [], [], 0, 0⟩⟩
/-- A choice's numbers are ints. -/
structure Ch.Num (x : Ch) : Prop where
  d : -9223372036854775808 ≤ x.d ∧ x.d ≤ 9223372036854775807
  n : -9223372036854775808 ≤ x.n ∧ x.n ≤ 9223372036854775807
  a : -9223372036854775808 ≤ x.a ∧ x.a ≤ 9223372036854775807
  fi : -9223372036854775808 ≤ x.fi ∧ x.fi ≤ 9223372036854775807
  mo : -9223372036854775808 ≤ x.mo ∧ x.mo ≤ 9223372036854775807

section
variable {H : Type} {enc : TypeId × Value → H}
set_option maxRecDepth 100000 in
theorem open_ch {w : World} {base : Nat} {spare : Nat → Bool} {held : Bool} {fuel : Nat} {cs : List Value} {x : DataW H × List MemPlace}
    (h : DataW.trod enc Tryd.prog w base spare held fuel 39 cs = some x) : ∃ c : Ch, kCh.K w c cs ∧ c.Num := by
  have c39 : Tryd.prog.cellsOf 39 = 10 := by kernel_rfl
  have c37 : Tryd.prog.cellsOf 37 = 4 := by kernel_rfl
  have c9 : Tryd.prog.cellsOf 9 = 1 := by kernel_rfl
  have c5 : Tryd.prog.cellsOf 35 = 1 := by kernel_rfl
  have cu : Tryd.prog.cellsOf 5 = 1 := by kernel_rfl
  have c3 : Tryd.prog.cellsOf 3 = 1 := by kernel_rfl
  obtain ⟨xs, n, _, _, hl, hxl, hf⟩ := DataW.trod_struct Tryd.underlying39 h
  rw [c39] at hl
  match cs, hl with
  | [v0, v1, v2, v3, v4, v5, v6, v7, v8, v9], _ =>
    have hxl : xs.length = 7 := hxl
    have k0 := hf 0 _ rfl
    have k1 := hf 1 _ rfl
    have k2 := hf 2 _ rfl
    have k3 := hf 3 _ rfl
    have k4 := hf 4 _ rfl
    have k5 := hf 5 _ rfl
    have k6 := hf 6 _ rfl
    rw [List.getElem?_eq_getElem (by omega)] at k0 k1 k2 k3 k4 k5 k6
    simp [c9, c5, c37, c3] at k0 k1 k2 k3 k4 k5 k6
    obtain ⟨i0, e0, _, w0⟩ := DataW.trod_int Tryd.underlying3 k0
    obtain ⟨s1, e1, _, _⟩ := DataW.trod_string Tryd.underlying9 k1
    obtain ⟨s2, e2, _, _⟩ := DataW.trod_string Tryd.underlying9 k2
    obtain ⟨i4, e4, _, w4⟩ := DataW.trod_int Tryd.underlying3 k4
    obtain ⟨i5, e5, _, w5⟩ := DataW.trod_int Tryd.underlying3 k5
    obtain ⟨ys, n', _, _, _, hyl, hg⟩ := DataW.trod_struct Tryd.underlying37 k6
    have hyl : ys.length = 4 := hyl
    have m0 := hg 0 _ rfl
    have m1 := hg 1 _ rfl
    have m2 := hg 2 _ rfl
    have m3 := hg 3 _ rfl
    rw [List.getElem?_eq_getElem (by omega)] at m0 m1 m2 m3
    simp [c9, c3] at m0 m1 m2 m3
    obtain ⟨s6, e6, _, _⟩ := DataW.trod_string Tryd.underlying9 m0
    obtain ⟨s7, e7, _, _⟩ := DataW.trod_string Tryd.underlying9 m1
    obtain ⟨i8, e8, _, w8⟩ := DataW.trod_int Tryd.underlying3 m2
    obtain ⟨i9, e9, _, w9⟩ := DataW.trod_int Tryd.underlying3 m3
    simp only [List.cons.injEq, and_true] at e0 e1 e2 e4 e5 e6 e7 e8 e9
    subst e0; subst e1; subst e2; subst e4; subst e5; subst e6; subst e7; subst e8; subst e9
    have hdt : ∃ (A : Option Addr) (zs : List Int) (c : Nat), v3 = .slice A zs.length c ∧ zs.length ≤ c ∧ (∀ z ∈ zs, 0 ≤ z ∧ z ≤ 255) ∧ (Kd.int .u8).C w A zs.length zs := by
      rcases open_ints Tryd.underlying35 Tryd.underlying5 cu k3 with ⟨hcs, _⟩ | ⟨a, len, cap, zs, hcs, _, hl, hm, hz, _, hcell, hwz⟩
      · simp only [List.cons.injEq, and_true] at hcs
        exact ⟨none, [], 0, hcs, Nat.le_refl _, (fun z hz => by cases hz), Kd.C_nil _ _⟩
      · simp only [List.cons.injEq, and_true] at hcs
        have hlz : len ≤ zs.length := by rw [hz]; split <;> omega
        have hlt : (zs.take len).length = len := by rw [List.length_take]; omega
        refine ⟨some a, zs.take len, cap, by rw [hlt]; exact hcs, by rw [hlt]; exact hl, fun z hz => wf_u8 (hwz z (List.mem_of_mem_take hz)), ?_⟩
        rw [hlt]
        unfold maxLen at hm
        refine Kd.C_of_reads (enc := Value.int .u8) (d := (0 : Int)) (h1 := fun _ => rfl) ⟨hlt, by omega, fun _ => ⟨a, rfl, fun j hj => ?_⟩⟩
        rw [hcell j (by omega), List.getD_eq_getElem?_getD, List.getD_eq_getElem?_getD, List.getElem?_take_of_lt hj]
    obtain ⟨A, zs, c, rfl, hc, hz, hC⟩ := hdt
    have hbz := byN_ofNums zs hz
    have key := kCh_mk w (⟨i0, s1.data.toList, s2.data.toList, ofNums zs, i4, i5, s6.data.toList, s7.data.toList, i8, i9⟩ : Ch) (A := A) (c := c) (by rw [hbz]; exact hc) (by rw [hbz]; exact hC)
    unfold chCells at key
    simp only [hbz, mkS_of] at key
    exact ⟨_, key, ⟨wf_i64 w0, wf_i64 w4, wf_i64 w5, wf_i64 w8, wf_i64 w9⟩⟩

set_option maxRecDepth 100000 in
/-- The row itself. -/
theorem open_chs {w : World} {base : Nat} {r : Reach} {held : Bool} {v : Value} {d : DataW H} {ps : List MemPlace} (hval : Value.okWide Tryd.prog w r base 22 v)
    (hd : DataW.Trod enc Tryd.prog w 0 (fun _ => true) held 22 v d ps) : ∃ (l : List Ch) (A : Option Addr) (c : Nat), v = .slice A l.length c ∧ l.length ≤ c ∧ Kd.C kCh w A l.length l ∧ ∀ x ∈ l, x.Num := by
  have ht : Tryd.prog.underlying 22 = some (.slice 39) := Tryd.underlying22
  have c39 : Tryd.prog.cellsOf 39 = 10 := by kernel_rfl
  obtain ⟨a0, len0, cap0, rfl⟩ := okWide_slice ht hval
  obtain ⟨fuel, hf⟩ := hd
  rcases open_slice ht hf with ⟨h, _⟩ | ⟨a, len, cap, m, n, D, Pl, h, _, hl, hm, hmm, _, hx⟩
  · simp [Value.cells] at h
    obtain ⟨rfl, rfl, rfl⟩ := h
    exact ⟨[], none, 0, rfl, Nat.le_refl _, Kd.C_nil _ _, fun x hx => by cases hx⟩
  · simp [Value.cells] at h
    obtain ⟨rfl, rfl, rfl⟩ := h
    rw [if_pos rfl] at hmm
    obtain rfl : cap0 = m := hmm.symm
    have key : ∀ i, i < len0 → ∃ c : Ch, c.Num ∧ ∃ cs, cs.length = 10 ∧ kCh.K w c cs ∧ ∀ k u, cs[k]? = some u → w.cell? (a.add (i * 10 + k)) = some u := fun i hi => by
      obtain ⟨cs', h1, h2⟩ := hx i (by omega)
      rw [c39] at h1
      obtain ⟨c, hK, hN⟩ := open_ch h2
      obtain ⟨_, hl', hcell⟩ := World.cells?_some h1
      refine ⟨c, hN, cs', hl', hK, fun k u hu => ?_⟩
      have hk : k < 10 := by rw [← hl']; exact (List.getElem?_eq_some_iff.1 hu).1
      have := hcell k hk
      rw [hu, Go.Deep.add_add] at this
      exact this
    obtain ⟨E, hE⟩ := choose_lt (α := Ch) (p := fun i c => c.Num ∧ ∃ cs, cs.length = 10 ∧ kCh.K w c cs ∧ ∀ k u, cs[k]? = some u → w.cell? (a.add (i * 10 + k)) = some u) key
    refine ⟨(List.range len0).map E, some a, cap0, by simp, by simpa using hl, ?_, fun x hx => ?_⟩
    · unfold maxLen at hm
      refine ⟨by simp, by simp; omega, fun _ => ⟨a, rfl, fun j p hp => ?_⟩⟩
      rw [List.getElem?_map] at hp
      have hj : j < len0 := by
        by_cases h : j < len0
        · exact h
        · rw [List.getElem?_eq_none (by simp; omega)] at hp; cases hp
      rw [List.getElem?_range hj] at hp
      simp only [Option.map_some, Option.some.injEq] at hp
      subst hp
      exact (hE j hj).2
    · obtain ⟨j, hj, rfl⟩ := List.mem_map.1 hx
      exact (hE j (List.mem_range.1 hj)).1

set_option maxRecDepth 100000 in
theorem open_shape {w : World} {base : Nat} {r : Reach} {held : Bool} {v : Value} {d : DataW H} {ps : List MemPlace} (hval : Value.okWide Tryd.prog w r base 26 v)
    (hd : DataW.Trod enc Tryd.prog w 0 (fun _ => true) held 26 v d ps) : ∃ k m b : Int, v = .agg #[.int .i64 k, .int .i64 m, .int .i64 b] ∧ ∀ n ∈ [k, m, b], -9223372036854775808 ≤ n ∧ n ≤ 9223372036854775807 := by
  have c3 : Tryd.prog.cellsOf 3 = 1 := by kernel_rfl
  have c26 : Tryd.prog.cellsOf 26 = 3 := by kernel_rfl
  obtain ⟨cs, rfl, hsz⟩ := okWide_struct Tryd.underlying26 hval
  obtain ⟨fuel, hf⟩ := hd
  obtain ⟨xs, n, _, _, hl, hxl, hg⟩ := DataW.trod_struct Tryd.underlying26 hf
  rw [c26] at hsz
  obtain ⟨v0, v1, v2, rfl⟩ : ∃ v0 v1 v2, cs = #[v0, v1, v2] := by
    obtain ⟨l⟩ := cs
    match l, hsz with
    | [a, b, c], _ => exact ⟨a, b, c, rfl⟩
  have hxl : xs.length = 3 := hxl
  have m0 := hg 0 _ rfl
  have m1 := hg 1 _ rfl
  have m2 := hg 2 _ rfl
  rw [List.getElem?_eq_getElem (by omega)] at m0 m1 m2
  simp [Value.cells, c3] at m0 m1 m2
  obtain ⟨i0, e0, _, w0⟩ := DataW.trod_int Tryd.underlying3 m0
  obtain ⟨i1, e1, _, w1⟩ := DataW.trod_int Tryd.underlying3 m1
  obtain ⟨i2, e2, _, w2⟩ := DataW.trod_int Tryd.underlying3 m2
  simp only [List.cons.injEq, and_true] at e0 e1 e2
  subst e0; subst e1; subst e2
  refine ⟨i0, i1, i2, rfl, fun n hn => ?_⟩
  simp only [List.mem_cons, List.not_mem_nil, or_false] at hn
  rcases hn with rfl | rfl | rfl
  · exact wf_i64 w0
  · exact wf_i64 w1
  · exact wf_i64 w2

set_option maxRecDepth 100000 in
/-- One choice. -/
theorem open_choice {w : World} {base : Nat} {r : Reach} {held : Bool} {v : Value} {d : DataW H} {ps : List MemPlace} (hval : Value.okWide Tryd.prog w r base 39 v)
    (hd : DataW.Trod enc Tryd.prog w 0 (fun _ => true) held 39 v d ps) : ∃ (x : Ch) (A : Option Addr) (c : Nat), v = .agg (chCells x (.slice A (byN x.dt).length c)).toArray ∧ (byN x.dt).length ≤ c ∧ (Kd.int .u8).C w A (byN x.dt).length (byN x.dt) ∧ x.Num := by
  obtain ⟨cs, rfl, hsz⟩ := okWide_struct Tryd.underlying39 hval
  obtain ⟨fuel, hf⟩ := hd
  obtain ⟨x, hK, hN⟩ := open_ch hf
  obtain ⟨A, c, he, hl, hC⟩ := kCh_open hK
  refine ⟨x, A, c, ?_, hl, hC, hN⟩
  rw [← he]
  simp [Value.cells]
end
end Go.Proofs.YtghllfihmmlcnaaDoor
