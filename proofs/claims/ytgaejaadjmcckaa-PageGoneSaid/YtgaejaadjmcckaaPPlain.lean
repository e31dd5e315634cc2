/- Fair rows, plainly: what their sorted order is. -/
import Derived.Test.YtgaejaadjmcckaaPApp
namespace Go.Proofs.Ytgaejaadjmcckaa
open Go.Shelf Go.RowKit Go.Lib Nam

/-- A fair row, told by its members alone. -/
structure FairM (l : List Ent) : Prop where
  nodup : l.Nodup
  key : ∀ x ∈ l, x.key ≠ ⟨#[]⟩
  id : ∀ x ∈ l, 0 ≤ x.id
  uniq : ∀ x ∈ l, ∀ y ∈ l, x.key = y.key → x.id = y.id → x = y
  latest : ∀ x ∈ l, (x.latest = true ↔ ∀ y ∈ l, y.key = x.key → y.id ≤ x.id)

theorem getD_of {l : List Ent} {i : Nat} (h : i < l.length) : l.getD i default = l[i] := by
  rw [List.getD_eq_getElem?_getD, List.getElem?_eq_getElem h]; rfl

theorem FairP.m {l : List Ent} (h : FairP l) : FairM l := by
  have ap : ∀ i j (hi : i < l.length) (hj : j < l.length), j ≠ i → l[j].key = l[i].key → l[j].id ≠ l[i].id := fun i j hi hj hne hk => by
    have := (h i hi).apart.apart j hj hne
    rw [getD_of hi, getD_of hj] at this
    exact this hk
  have uq : ∀ x ∈ l, ∀ y ∈ l, x.key = y.key → x.id = y.id → x = y := fun x hx y hy hk hid => by
    obtain ⟨i, hi, rfl⟩ := List.getElem_of_mem hx
    obtain ⟨j, hj, rfl⟩ := List.getElem_of_mem hy
    by_cases c : i = j
    · subst c; rfl
    · exact absurd hid (ap j i hj hi c hk)
  refine ⟨?_, fun x hx => ?_, fun x hx => ?_, uq, fun x hx => ?_⟩
  · unfold List.Nodup
    rw [List.pairwise_iff_getElem]
    intro i j hi hj hij he
    exact ap i j hi hj (by omega) (by rw [he]) (by rw [he])
  · obtain ⟨i, hi, rfl⟩ := List.getElem_of_mem hx
    have := (h i hi).key
    rwa [getD_of hi] at this
  · obtain ⟨i, hi, rfl⟩ := List.getElem_of_mem hx
    have := (h i hi).id
    rwa [getD_of hi] at this
  · obtain ⟨i, hi, rfl⟩ := List.getElem_of_mem hx
    have hl := (h i hi).latest
    rw [getD_of hi] at hl
    rw [hl]
    constructor
    · intro hm y hy hk
      obtain ⟨j, hj, rfl⟩ := List.getElem_of_mem hy
      by_cases c : j = i
      · subst c; exact Int.le_refl _
      · have := hm j hj c
        rw [getD_of hi, getD_of hj] at this
        exact Int.le_of_lt (this hk)
    · intro hm j hj hne hk
      rw [getD_of hi, getD_of hj] at hk ⊢
      have h1 := hm l[j] (List.getElem_mem hj) hk
      have h2 := ap i j hi hj hne hk
      omega

theorem FairM.perm {l m : List Ent} (h : FairM l) (hp : m.Perm l) : FairM m := by
  have e : ∀ x, x ∈ m ↔ x ∈ l := fun x => hp.mem_iff
  refine ⟨hp.symm.nodup h.nodup, fun x hx => h.key x ((e x).1 hx), fun x hx => h.id x ((e x).1 hx), fun x hx y hy => h.uniq x ((e x).1 hx) y ((e y).1 hy), fun x hx => ?_⟩
  rw [h.latest x ((e x).1 hx)]
  exact ⟨fun hh y hy => hh y ((e y).1 hy), fun hh y hy => hh y ((e y).2 hy)⟩

/-- Ahead: of a lesser key, or of one key and a greater id. -/
def AheadE (x y : Ent) : Prop := Op.bytesLess x.key.toList y.key.toList = true ∨ (x.key = y.key ∧ y.id < x.id)

theorem AheadE.not {x y : Ent} (h : AheadE x y) : ¬ AheadE y x := by
  rintro (c | ⟨c1, c2⟩)
  · rcases h with h | ⟨h, _⟩
    · rw [less_asymm _ _ h] at c; cases c
    · rw [h, less_irrefl] at c; cases c
  · rcases h with h | ⟨_, h⟩
    · rw [c1, less_irrefl] at h; cases h
    · omega
theorem AheadE.trans {x y z : Ent} (h : AheadE x y) (h' : AheadE y z) : AheadE x z := by
  rcases h with h | ⟨e, h⟩ <;> rcases h' with h' | ⟨e', h'⟩
  · exact .inl (less_trans _ _ _ h h')
  · exact .inl (by rw [← e']; exact h)
  · exact .inl (by rw [e]; exact h')
  · exact .inr ⟨e.trans e', by omega⟩
theorem ahead_total {x y : Ent} (h : ¬ AheadE x y) (h' : ¬ AheadE y x) : x.key = y.key ∧ x.id = y.id := by
  have h1 : Op.bytesLess x.key.toList y.key.toList = false := by rw [← Bool.not_eq_true]; exact fun c => h (.inl c)
  have h2 : Op.bytesLess y.key.toList x.key.toList = false := by rw [← Bool.not_eq_true]; exact fun c => h' (.inl c)
  have e : x.key = y.key := list_inj_data (less_total _ _ h1 h2)
  refine ⟨e, ?_⟩
  have h3 : ¬ y.id < x.id := fun c => h (.inr ⟨e, c⟩)
  have h4 : ¬ x.id < y.id := fun c => h' (.inr ⟨e.symm, c⟩)
  omega

/-- A fair row in order: each is ahead of all behind it. -/
theorem strictE {l : List Ent} (h : FairM l) (hs : SortedE l) : l.Pairwise AheadE := by
  have hs' : l.Pairwise fun x y => ltOf cfE y x = false := hs
  have key : ∀ x ∈ l, ∀ y ∈ l, (x ≠ y ∧ ltOf cfE y x = false) → AheadE x y := fun x hx y hy ⟨hne, hlt⟩ => by
    rw [ltE_not] at hlt
    rcases hlt with c | ⟨c1, c2⟩
    · exact .inl c
    · refine .inr ⟨c1.symm, ?_⟩
      by_cases e : x.id = y.id
      · exact absurd (h.uniq x hx y hy c1.symm e) hne
      · omega
  exact List.Pairwise.imp_of_mem (fun hx hy hh => key _ hx _ hy hh) (List.Pairwise.and h.nodup hs')

theorem sortE_unique {l m : List Ent} (h : FairM l) (hp : m.Perm l) {l' m' : List Ent} (h1 : l'.Perm l) (s1 : SortedE l') (h2 : m'.Perm m) (s2 : SortedE m') : l' = m' :=
  sortedE_unique (h.perm h1).uniq (h1.trans (hp.symm.trans h2.symm)) s1 s2

/-- What PageSorts asks of neighbours. -/
theorem nextE {l : List Ent} (h : FairM l) (hs : SortedE l) (k : Nat) (hk : k + 1 < l.length) :
    Op.bytesLess (l[k + 1]).key.toList (l[k]).key.toList = false ∧ ((l[k + 1]).key = (l[k]).key → (l[k + 1]).id < (l[k]).id ∧ (l[k + 1]).latest = false) := by
  have ha := (List.pairwise_iff_getElem.1 (strictE h hs)) k (k + 1) (by omega) hk (by omega)
  constructor
  · rw [← Bool.not_eq_true]
    exact fun c => ha.not (.inl c)
  · intro he
    rcases ha with c | ⟨_, c⟩
    · rw [he, less_irrefl] at c; cases c
    · refine ⟨c, ?_⟩
      rw [← Bool.not_eq_true, h.latest _ (List.getElem_mem hk)]
      intro hh
      have := hh _ (List.getElem_mem (show k < l.length by omega)) he.symm
      omega
end Go.Proofs.Ytgaejaadjmcckaa
