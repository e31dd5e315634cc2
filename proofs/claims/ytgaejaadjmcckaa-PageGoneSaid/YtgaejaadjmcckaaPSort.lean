/- page.Sort: what it answers: all the entries, sorted. -/
import Derived.Test.YtgaejaadjmcckaaEnt
import Derived.Test.YtgaejaadjmcckaaLaysS
import Derived.Shelf.SlicesE.Clone
namespace Go.Proofs.Ytgaejaadjmcckaa
open Go.Shelf Go.RowKit Go.Lib Go.Sort Srt

/-- A slice that holds these entries (nil: none). -/
def RowE (W : World) (v : Value) (l : List Ent) : Prop :=
  (v = .slice none 0 0 ∧ l = []) ∨ ∃ b o cap, v = .slice (some ⟨b, o, none⟩) l.length cap ∧ b < W.heap.size ∧ ∀ j u, (l.flatMap encE)[j]? = some u → W.cell? ⟨b, o + j, none⟩ = some u

theorem RowE.below {W W' : World} {v : Value} {l : List Ent} (h : RowE W v l) (hb : Below W.heap.size W W') : RowE W' v l := by
  rcases h with h | ⟨b, o, cap, hv, hlt, hc⟩
  · exact .inl h
  · refine .inr ⟨b, o, cap, hv, Nat.lt_of_lt_of_le hlt hb.size, fun j u hj => ?_⟩
    rw [hb.cell (p := ⟨b, o + j, none⟩) hlt]
    exact hc j u hj

theorem flat_length (l : List Ent) : (l.flatMap encE).length = l.length * 6 := by
  induction l with
  | nil => rfl
  | cons x t ih => rw [List.flatMap_cons, List.length_append, ih, encE_length, List.length_cons]; omega

theorem flat_get : ∀ (l : List Ent) (i c : Nat), i < l.length → c < 6 → (l.flatMap encE)[i * 6 + c]? = (encE (l.getD i default))[c]?
  | [], i, c, h, _ => by simp at h
  | x :: t, 0, c, _, hc => by
    rw [List.flatMap_cons, Nat.zero_mul, Nat.zero_add, List.getElem?_append_left (by rw [encE_length]; exact hc)]
    rfl
  | x :: t, i + 1, c, h, hc => by
    rw [List.flatMap_cons, List.getElem?_append_right (by rw [encE_length]; omega), encE_length, show (i + 1) * 6 + c - 6 = i * 6 + c by omega, flat_get t i c (by simpa using h) hc]
    rfl

theorem flat_flatK (l : List Ent) (j : Nat) (hj : j < l.length * 6) : (l.flatMap encE)[j]? = some ((flatK encE 6 l.toArray)[j]!) := by
  rw [get_flatK _ _ _ _ (by simpa using hj)]
  have h1 : j / 6 < l.length := by omega
  have e : j = j / 6 * 6 + j % 6 := by omega
  conv => lhs; rw [e]
  rw [flat_get l (j / 6) (j % 6) h1 (Nat.mod_lt _ (by omega))]
  have e2 : l.toArray[j / 6]! = l.getD (j / 6) default := by simp [h1]
  rw [e2]
  have h6 : j % 6 < (encE (l.getD (j / 6) default)).length := by rw [encE_length]; exact Nat.mod_lt _ (by omega)
  rw [List.getElem?_eq_getElem h6, getElem!_pos (encE (l.getD (j / 6) default)) (j % 6) h6]

/-- A world of the sort's, seen from below. -/
theorem below_swk {k : Nat} {α : Type} [Inhabited α] {enc : α → List Value} {B : Nat} {a w w' : World} {g off : Nat} {d : Array α} (h : Below B a w) (hB : B ≤ w.heap.size) (hg : B ≤ g) (hs : SWK enc k w g off d w') : Below B a w' := by
  obtain ⟨n, os, rfl⟩ := hs
  refine ⟨h.os, h.tape, h.output, ?_, fun j hj => ?_⟩
  · unfold sortWorldK
    rw [size_grow, size_putRowK]
    exact Nat.le_trans h.size (Nat.le_add_right _ _)
  · unfold sortWorldK
    have e1 : j < (putRowK enc k (Sort.ahead w n) g off d).heap.size := by rw [size_putRowK]; exact Nat.lt_of_lt_of_le hj hB
    rw [heap_grow_old _ _ e1]
    unfold putRowK putRow mapBlock
    simp only [Array.getElem?_modify]
    rw [if_neg (by omega)]
    exact h.block j hj

/-- The entries in the page's order. -/
def SortedE (l : List Ent) : Prop := l.Pairwise (fun x y => ltOf cfE y x = false)

theorem sortedE_of {d : Array Ent} (h : SortedIn (ltOf cfE) 0 d.size d) : SortedE d.toList := by
  unfold SortedE
  rw [List.pairwise_iff_getElem]
  intro i j hi hj hij
  have := h i j (Nat.zero_le _) hij (by simpa using hj)
  rw [getElem!_pos d j (by simpa using hj), getElem!_pos d i (by simpa using hi)] at this
  simpa using this
theorem perm_of {d d' : Array Ent} (h : PermIn 0 d.size d d') : d'.toList.Perm d.toList := by
  have := h.2.2
  rw [Array.extract_size, show d.size = d'.size from h.1.symm, Array.extract_size] at this
  exact this

/-- One order alone is sorted, if no two are of one key and one id. -/
theorem sortedE_unique {l m : List Ent} (h : ∀ x ∈ l, ∀ y ∈ l, x.key = y.key → x.id = y.id → x = y) (hp : l.Perm m) (h1 : SortedE l) (h2 : SortedE m) : l = m := by
  refine List.Perm.eq_of_pairwise (le := fun x y => ltOf cfE y x = false) ?_ h1 h2 hp
  intro x y hx hy hxy hyx
  have hy' := hp.symm.subset hy
  rw [ltE_not] at hxy hyx
  rcases hxy with c | ⟨c1, c2⟩
  · rcases hyx with e | ⟨e1, _⟩
    · rw [Nam.less_asymm _ _ c] at e; cases e
    · rw [e1, Nam.less_irrefl] at c; cases c
  · rcases hyx with e | ⟨e1, e2⟩
    · rw [c1, Nam.less_irrefl] at e; cases e
    · exact h x hx y hy' e1 (by omega)

/-- The library's insertion sort, at the entries. -/
theorem insE_is {w0 : World} {blk off : Nat} {d0 : Array Ent} (hH : HoldsK encE 6 w0 blk off d0) (hblk : blk < w0.heap.size) (hsz : d0.size < 1152921504606846976) (cap : Nat) (a b : Nat) (d : Array Ent) (W : World)
    (h : SWK encE 6 w0 blk off d W) (hs : d.size = d0.size) (hab : a ≤ b) (hb : b ≤ d0.size) :
    Calls Try.prog 38 #[.slice (some ⟨blk, off, none⟩) d0.size cap, .int .i64 a, .int .i64 b, .func (.func 25) #[] #[]] W fun e w' => e = .returned (.tuple #[]) ∧
      ∃ d' : Array Ent, SWK encE 6 w0 blk off d' w' ∧ d'.size = d0.size ∧ PermIn a b d d' ∧ SortedIn (ltOf cfE) a b d' := by
  have hHd := h.holds hblk hH hs
  have key := AnyQ.insertionSortCmpFunc Try.insE 6 Try.isAgg32 Try.sizeOf32 encE encE_length encE_one cfE 25 #[] blk off cap a b d W (enters_of Try.func25 (by kernel_rfl) rfl) (cmpE_lays _ _ _ _) hHd (h.lt hblk) hab (by omega) (by omega)
  rw [hs] at key
  refine Calls.mono key ?_
  rintro e w' ⟨rfl, n, os, rfl⟩
  obtain ⟨p1, p2⟩ := insertionSort_holds swoE d a b hab (by omega)
  exact ⟨rfl, _, h.on hblk n _ os p1.1, p1.1.trans hs, p1, p2⟩

set_option maxHeartbeats 1000000 in
/-- .. at no element. -/
theorem insE_none (v : Value) (g : Nat) (w : World) : Calls Try.prog 38 #[v, .int .i64 0, .int .i64 0, .func (.func g) #[] #[]] w fun e w' => e = .returned (.tuple #[]) ∧ w = w' := by
  go_enter Try.func38, Try.ntmps38
  go_wp2_with fail
  refine wp_loop_rounds 1 ?_
  rw [rounds_succ]
  go_wp2
  go_end0
  exact ⟨rfl, rfl⟩

set_option maxHeartbeats 1000000 in
theorem stableE_none (v : Value) (g : Nat) (w : World) : Calls Try.prog 34 #[v, .int .i64 0, .func (.func g) #[] #[]] w fun e w' => e = .returned (.tuple #[]) ∧ w = w' := by
  go_enter Try.func34, Try.ntmps34
  go_wp2_with fail
  refine wp_loop_rounds 1 ?_
  rw [rounds_succ]
  go_wp2_with (go_at_call 38; refine (insE_none _ _ _).mono ?_; rintro e w' ⟨rfl, rfl⟩)
  refine wp_loop_rounds 1 ?_
  rw [rounds_succ]
  go_wp2
  go_end0
  exact ⟨rfl, rfl⟩

set_option maxHeartbeats 1000000 in
theorem sortF_of (p : Option Addr) (n cap g : Nat) (w : World) (R : World → Prop)
    (h : Calls Try.prog 34 #[.slice p n cap, .int .i64 n, .func (.func g) #[] #[]] w fun e w' => e = .returned (.tuple #[]) ∧ R w') :
    Calls Try.prog 24 #[.slice p n cap, .func (.func g) #[] #[]] w fun e w' => e = .returned (.tuple #[]) ∧ R w' := by
  have H := Lib.hid h; clear h
  go_enter Try.func24, Try.ntmps24
  go_wp2_with (go_at_call 34; refine H.out.mono ?_; rintro e w' ⟨rfl, hR⟩)
  go_end0
  exact ⟨rfl, hR⟩

/-- slices.Clone at the entries. -/
theorem cloneE_is (l : List Ent) (hl : l.length ≤ 1000000) (v : Value) (w : World) (h : RowE w v l) :
    Calls Try.prog 23 #[v] w fun e w' =>
      ∃ v', e = .returned v' ∧ w'.ownsRow w.heap.size 32 6 v' l.length (l.flatMap encE) ∧ Below w.heap.size w w' := by
  obtain ⟨i0, hi, hz0, hz1, hz2⟩ := info_parts (show (Try.prog.info? 32).map (fun i => (i.zero, i.size, i.bytes)) = some (some (.agg #[.string ⟨#[]⟩, .int .i64 0, .bool false, .int .i64 0, .int .u32 0, .bool false]), 6, 56) by kernel_rfl)
  rcases h with ⟨rfl, rfl⟩ | ⟨b, o, cap, rfl, hb, hc⟩
  · have key := AnyE.slices_Clone_nil Try.cloneE 0 0 w
    refine Calls.mono key ?_
    rintro e w' ⟨rfl, rfl⟩
    exact ⟨_, rfl, ⟨rfl, .inl ⟨rfl, rfl⟩⟩, Below.refl _ _⟩
  · have key := AnyE.slices_Clone Try.cloneE i0 _ 6 56 hi hz0 hz1 hz2 rfl (by omega) Try.sizeOf32 b o l.length cap (l.flatMap encE) w (flat_length l) (by unfold maxLen; omega) (by omega) hc (by
      intro u hu
      obtain ⟨x, _, hx⟩ := List.mem_flatMap.1 hu
      exact encE_one x u hx)
    refine Calls.mono key ?_
    rintro e w' ⟨v', rfl, h1, _, h2⟩
    exact ⟨v', rfl, h1, h2⟩

set_option maxHeartbeats 2000000 in
theorem psort_is (l : List Ent) (hl : l.length ≤ 1000000) (v : Value) (w : World) (h : RowE w v l) :
    Calls Try.prog 11 #[v] w fun e w' => ∃ v' l', e = .returned v' ∧ RowE w' v' l' ∧ l'.Perm l ∧ SortedE l' ∧ (∀ b o n c, v' = .slice (some ⟨b, o, none⟩) n c → w.heap.size ≤ b) ∧ Below w.heap.size w w' := by
  have HC := Lib.hid (cloneE_is l hl v w h)
  clear h
  go_enter Try.func11, Try.ntmps11
  go_wp2_with fail
  refine HC.out.mono ?_
  rintro e w1 ⟨v1, rfl, hown, hb1⟩
  by_cases h0 : l.length = 0
  · have hl0 : l = [] := List.length_eq_zero_iff.1 h0
    subst hl0
    obtain ⟨p, c, hv1, hR, hfr⟩ : ∃ p c, v1 = .slice p 0 c ∧ RowE w1 v1 [] ∧ ∀ b o n c, v1 = .slice (some ⟨b, o, none⟩) n c → w.heap.size ≤ b := by
      rcases hown.2 with ⟨h1, _⟩ | ⟨g, cap, cur, h1, h2, h3, _⟩
      · exact ⟨none, 0, h1, .inl ⟨h1, rfl⟩, fun b o n c h => by rw [h1] at h; cases h⟩
      · exact ⟨_, _, h1, .inr ⟨g, 0, cap, h1, (Array.getElem?_eq_some_iff.1 h3).1, fun j u hj => by simp at hj⟩, fun b o n c h => by rw [h1] at h; cases h; exact h2⟩
    subst hv1
    have c := Lib.hid (sortF_of p 0 c 25 w1 (fun w' => w1 = w') (stableE_none _ _ _))
    clear hown HC h0
    go_wp2_with (go_at_call 24; refine c.out.mono ?_; rintro e w' ⟨rfl, rfl⟩)
    go_ret
    exact ⟨_, [], rfl, hR, List.Perm.refl _, List.Pairwise.nil, hfr, hb1⟩
  · obtain ⟨g, cap, cur, hv1, hg, hhp, hcap⟩ : ∃ g cap cur, v1 = .slice (some ⟨g, 0, none⟩) l.length cap ∧ w.heap.size ≤ g ∧ w1.heap[g]? = some (.cells cur 32 (0, 0)) ∧ True := by
      rcases hown.2 with ⟨_, h1⟩ | ⟨g, cap, cur, h1, h2, h3, _⟩
      · omega
      · exact ⟨g, cap, cur, h1, h2, h3, trivial⟩
    subst hv1
    have hgl : g < w1.heap.size := (Array.getElem?_eq_some_iff.1 hhp).1
    have hH : HoldsK encE 6 w1 g 0 l.toArray := by
      intro j hj
      rw [size_flatK] at hj
      have hj' : j < l.length * 6 := by simpa using hj
      rw [Nat.zero_add]
      exact ⟨by rw [hown.cellAt j hj', flat_flatK l j hj']; rfl, hown.frozenAt j⟩
    have R : RowK encE 6 w1 g 0 l.toArray := ⟨encE_length, encE_one, hH, hgl⟩
    have hsz : l.toArray.size < 1152921504606846976 := by simp; omega
    have st := stable_is stb R cfE 25 #[] (enters_of Try.func25 (by kernel_rfl) rfl) (cmpE_lays _ _ _ _) swoE hsz cap (enters_of Try.func38 (by kernel_rfl) rfl) (fun a b d W => insE_is hH hgl hsz cap a b d W) (SWK.start hH) rfl
    rw [show l.toArray.size = l.length by simp] at st
    have c := Lib.hid (sortF_of _ _ _ _ _ _ st)
    have hB : w.heap.size ≤ w1.heap.size := hb1.size
    have HH := Lib.hid hH
    clear hown HC h0 hhp st hH R hsz
    go_wp2_with (go_at_call 24; refine c.out.mono ?_; rintro e w' ⟨rfl, d', hS, hz, hP, hD⟩)
    go_ret
    have hz' : d'.size = l.toArray.size := by simpa using hz
    have hHd := hS.holds hgl HH.out hz'
    refine ⟨_, d'.toList, rfl, .inr ⟨g, 0, cap, by simp [hz], Nat.lt_of_lt_of_le hgl hS.le, fun j u hj => ?_⟩, ?_, ?_, fun b o n c h => by cases h; exact hg, below_swk hb1 hB hg hS⟩
    · have hj' : j < d'.toList.length * 6 := by
        rw [← flat_length]
        exact (List.getElem?_eq_some_iff.1 hj).1
      rw [flat_flatK _ _ hj'] at hj
      injection hj with hj
      have := (hHd j (by rw [size_flatK]; simpa using hj')).1
      rw [this, ← hj]
      rfl
    · have := perm_of (d := l.toArray) (d' := d') (by rw [show l.toArray.size = l.length by simp]; exact hP)
      simpa using this
    · exact sortedE_of (by rw [hz]; exact hD)
end Go.Proofs.Ytgaejaadjmcckaa
