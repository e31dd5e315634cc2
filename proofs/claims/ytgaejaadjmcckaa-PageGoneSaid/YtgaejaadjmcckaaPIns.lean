/- The document's own sort of entries, plainly: one more is brought to its place by exchanges. -/
import Derived.Test.YtgaejaadjmcckaaPPlain
namespace Go.Proofs.Ytgaejaadjmcckaa
open Go.Shelf Go.RowKit Go.Lib Go.Sort Nam

theorem ltE_ahead (x y : Ent) : ltOf cfE x y = true ↔ AheadE x y := ltE_iff x y
theorem ltE_nahead (x y : Ent) : ltOf cfE x y = false ↔ ¬ AheadE x y := by rw [← ltE_ahead, Bool.not_eq_true]

/-- The row while x is brought to its place: at k, and all behind it are behind x. -/
def midE (s : List Ent) (x : Ent) (k : Nat) : List Ent := s.take k ++ x :: s.drop k

theorem midE_length (s : List Ent) (x : Ent) (k : Nat) (hk : k ≤ s.length) : (midE s x k).length = s.length + 1 := by
  unfold midE; simp; omega
theorem midE_perm (s : List Ent) (x : Ent) (k : Nat) : (midE s x k).Perm (x :: s) := by
  unfold midE
  refine List.perm_middle.trans ?_
  rw [List.take_append_drop]
theorem midE_at (s : List Ent) (x : Ent) (k : Nat) (hk : k ≤ s.length) : (midE s x k).getD k default = x := by
  unfold midE
  rw [List.getD_eq_getElem?_getD, List.getElem?_append_right (by rw [List.length_take]; omega), List.length_take, Nat.min_eq_left hk, Nat.sub_self]
  rfl
theorem midE_lo (s : List Ent) (x : Ent) (k j : Nat) (hk : k ≤ s.length) (hj : j < k) : (midE s x k).getD j default = s.getD j default := by
  unfold midE
  rw [List.getD_eq_getElem?_getD, List.getD_eq_getElem?_getD, List.getElem?_append_left (by simp; omega), List.getElem?_take_of_lt hj]
theorem midE_hi (s : List Ent) (x : Ent) (k j : Nat) (hk : k ≤ s.length) (hj : k < j) : (midE s x k).getD j default = s.getD (j - 1) default := by
  unfold midE
  rw [List.getD_eq_getElem?_getD, List.getD_eq_getElem?_getD, List.getElem?_append_right (by simp; omega), List.length_take, Nat.min_eq_left hk]
  obtain ⟨d, rfl⟩ : ∃ d, j = k + 1 + d := ⟨j - k - 1, by omega⟩
  rw [show k + 1 + d - k = d + 1 by omega, List.getElem?_cons_succ, List.getElem?_drop, show k + 1 + d - 1 = k + d by omega]

theorem midE_swap (s : List Ent) (x : Ent) (k : Nat) (hk : k + 1 ≤ s.length) : swp (midE s x (k + 1)).toArray (k + 1) k = (midE s x k).toArray := by
  have h1 := midE_length s x (k + 1) hk
  have h0 := midE_length s x k (by omega)
  refine Array.ext (by rw [swp_size]; simp [h1, h0]) fun j hj hj' => ?_
  have hjl : j < s.length + 1 := by simpa [h0] using hj'
  have e : ∀ (l : List Ent) (i : Nat) , l.toArray[i]! = l.getD i default := fun l i => by
    rw [List.getD_eq_getElem?_getD, getElem!_def]
    simp
    cases l[i]? <;> rfl
  have g1 : (swp (midE s x (k + 1)).toArray (k + 1) k)[j]! = (midE s x k).toArray[j]! := by
    rw [swp_get _ (by simp [h1]; omega) (by simp [h1]; omega), e, e, e, e]
    by_cases c1 : j = k
    · rw [if_pos c1, c1, midE_at _ _ _ hk, midE_at _ _ _ (by omega)]
    · rw [if_neg c1]
      by_cases c2 : j = k + 1
      · rw [if_pos c2, c2, midE_lo _ _ _ _ hk (by omega), midE_hi _ _ _ _ (by omega) (by omega)]
        rfl
      · rw [if_neg c2]
        by_cases c3 : j < k
        · rw [midE_lo _ _ _ _ hk (by omega), midE_lo _ _ _ _ (by omega) c3]
        · rw [midE_hi _ _ _ _ hk (by omega), midE_hi _ _ _ _ (by omega) (by omega)]
  rw [getElem!_pos _ j hj, getElem!_pos _ j hj'] at g1
  exact g1

/-- x has come to its place. -/
theorem midE_sorted {s : List Ent} (hs : SortedE s) {x : Ent} {k : Nat} (hk : k ≤ s.length) (hb : ∀ y ∈ s.drop k, AheadE x y) (ht : k = 0 ∨ ¬ AheadE x (s.getD (k - 1) default)) : SortedE (midE s x k) := by
  have hs' : s.Pairwise fun x y => ltOf cfE y x = false := hs
  show (midE s x k).Pairwise fun x y => ltOf cfE y x = false
  unfold midE
  have hall : ∀ a ∈ s.take k, ¬ AheadE x a := by
    intro a ha hax
    rcases ht with ht | ht
    · subst ht; simp at ha
    · obtain ⟨i, hi, rfl⟩ := List.getElem_of_mem ha
      rw [List.length_take] at hi
      rw [List.getElem_take] at hax
      have hk1 : k - 1 < s.length := by omega
      rw [getD_of hk1] at ht
      by_cases c : i = k - 1
      · subst c; exact ht hax
      · have := (List.pairwise_iff_getElem.1 hs') i (k - 1) (by omega) hk1 (by omega)
        rw [ltE_nahead] at this
        by_cases c2 : AheadE s[i] s[k - 1]
        · exact ht (hax.trans c2)
        · have e := ahead_total c2 this
          apply ht
          rcases hax with h | ⟨h1, h2⟩
          · exact .inl (by rw [← e.1]; exact h)
          · exact .inr ⟨h1.trans e.1, by rw [← e.2]; exact h2⟩
  rw [List.pairwise_append]
  refine ⟨hs'.sublist (List.take_sublist _ _), List.Pairwise.cons (fun y hy => ?_) (hs'.sublist (List.drop_sublist _ _)), fun a ha y hy => ?_⟩
  · rw [ltE_nahead]
    exact (hb y hy).not
  · rw [ltE_nahead]
    rcases List.mem_cons.1 hy with rfl | hy
    · exact hall a ha
    · intro h
      exact hall a ha ((hb y hy).trans h)
end Go.Proofs.Ytgaejaadjmcckaa
