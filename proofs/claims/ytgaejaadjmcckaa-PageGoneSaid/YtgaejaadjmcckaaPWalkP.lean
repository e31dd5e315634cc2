/- Pages that go on from one another, plainly: a token is the last entry that was shown; what comes behind it is the rest. -/
import Derived.Test.YtgaejaadjmcckaaPVers
import Derived.Test.YtgaejaadjmcckaaPPages
namespace Go.Proofs.Ytgaejaadjmcckaa
open Go.Shelf Go.RowKit Go.Lib Go.Sort Srt Nam

theorem filter_tail {V : List Ent} {p : Ent → Bool} (j : Nat) (h1 : ∀ y ∈ V.take j, p y = false) (h2 : ∀ y ∈ V.drop j, p y = true) : V.filter p = V.drop j := by
  conv => lhs; rw [← List.take_append_drop j V]
  rw [List.filter_append, List.filter_eq_nil_iff.2 (fun y hy => by rw [h1 y hy]; simp), List.filter_eq_self.2 h2, List.nil_append]

/-- Of a strict row: what stands at or ahead of j's entry is not behind it; the rest is. -/
theorem strict_split {V : List Ent} (hV : V.Pairwise AheadE) {j : Nat} (hj : j < V.length) : (∀ y ∈ V.take (j + 1), ¬ AheadE V[j] y) ∧ ∀ y ∈ V.drop (j + 1), AheadE V[j] y := by
  have hp := List.pairwise_iff_getElem.1 hV
  constructor
  · intro y hy h
    obtain ⟨i, hi, rfl⟩ := List.getElem_of_mem hy
    rw [List.length_take] at hi
    rw [List.getElem_take] at h
    by_cases c : i = j
    · subst c; exact h.not h
    · exact (hp i j (by omega) hj (by omega)).not h
  · intro y hy
    obtain ⟨i, hi, rfl⟩ := List.getElem_of_mem hy
    rw [List.length_drop] at hi
    rw [List.getElem_drop]
    exact hp j (j + 1 + i) hj (by omega) (by omega)

/-- The rows that a prefix takes. -/
def versL (pre : ByteArray) (S : List Ent) : List Ent := S.filter fun x => prefixB x.key.data.toList pre.data.toList
def objsL (pre : ByteArray) (S : List Ent) : List Ent := (versL pre S).filter fun x => x.latest && !x.mark

theorem versL_mem {pre : ByteArray} {S : List Ent} {x : Ent} (h : x ∈ versL pre S) : x ∈ S := (List.mem_filter.1 h).1
theorem objsL_mem {pre : ByteArray} {S : List Ent} {x : Ent} (h : x ∈ objsL pre S) : x ∈ S ∧ x.latest = true := by
  have h1 := List.mem_filter.1 h
  simp only [Bool.and_eq_true] at h1
  exact ⟨versL_mem h1.1, h1.2.1⟩

/-- A token: none at the beginning, else of the last entry shown. -/
def TokAt (V : List Ent) (n i : Nat) (fr : ByteArray) (fid : Int) : Prop :=
  (i = 0 ∧ fr = ⟨#[]⟩) ∨ (0 < i ∧ i * n < V.length ∧ fr = (V.getD (i * n - 1) default).key ∧ fid = (V.getD (i * n - 1) default).id)

theorem isEmpty_false {k : ByteArray} (h : k ≠ ⟨#[]⟩) : k.toList.isEmpty = false := by
  cases c : k.toList.isEmpty
  · rfl
  · exact absurd (list_inj_data (by rw [List.isEmpty_iff.1 c, ByteArray.toList_eq])) h

section
variable {S : List Ent} (FM : FairM S) (hs : SortedE S) (pre : ByteArray)
include FM hs

theorem vers_tok {n i : Nat} (hn : 0 < n) (fr : ByteArray) (fid most : Int) (h : TokAt (versL pre S) n i fr fid) :
    selE (verB ⟨pre, fr, fid, most⟩) ⟨pre, fr, fid, most⟩ S = (versL pre S).drop (i * n) := by
  have e : selE (verB ⟨pre, fr, fid, most⟩) ⟨pre, fr, fid, most⟩ S = (versL pre S).filter (verB ⟨pre, fr, fid, most⟩) := by
    unfold selE versL
    rw [List.filter_filter]
    congr 1
    funext x
    rw [Bool.and_comm]
  rw [e]
  rcases h with ⟨rfl, rfl⟩ | ⟨h0, hlt, rfl, rfl⟩
  · rw [Nat.zero_mul, List.drop_zero, List.filter_eq_self]
    intro x _
    exact verB_none _ rfl x
  · obtain ⟨j, hj⟩ : ∃ j, i * n = j + 1 := ⟨i * n - 1, by have := Nat.mul_pos h0 hn; omega⟩
    have hj1 : j < (versL pre S).length := by omega
    rw [hj, Nat.add_sub_cancel, getD_of hj1]
    have hst : (versL pre S).Pairwise AheadE := (strictE FM hs).sublist List.filter_sublist
    obtain ⟨s1, s2⟩ := strict_split hst hj1
    have hne := isEmpty_false (FM.key _ (versL_mem (List.getElem_mem hj1)))
    have key : ∀ y, verB ⟨pre, (versL pre S)[j].key, (versL pre S)[j].id, most⟩ y = true ↔ AheadE (versL pre S)[j] y := fun y => by
      unfold verB AheadE
      simp only [hne, Bool.false_or, Bool.or_eq_true, Bool.and_eq_true, beq_iff_eq, decide_eq_true_eq]
      constructor
      · rintro (h | ⟨h1, h2⟩)
        · exact .inl h
        · exact .inr ⟨list_inj_data h1.symm, h2⟩
      · rintro (h | ⟨h1, h2⟩)
        · exact .inl h
        · exact .inr ⟨by rw [h1], h2⟩
    refine filter_tail (j + 1) (fun y hy => ?_) (fun y hy => (key y).2 (s2 y hy))
    rw [← Bool.not_eq_true, key]
    exact s1 y hy

theorem objs_tok {n i : Nat} (hn : 0 < n) (fr : ByteArray) (fid fid' most : Int) (h : TokAt (objsL pre S) n i fr fid') :
    selE (objB ⟨pre, fr, fid, most⟩) ⟨pre, fr, fid, most⟩ S = (objsL pre S).drop (i * n) := by
  have e : selE (objB ⟨pre, fr, fid, most⟩) ⟨pre, fr, fid, most⟩ S = (objsL pre S).filter (fun y => fr.toList.isEmpty || Op.bytesLess fr.toList y.key.toList) := by
    unfold selE objsL versL
    rw [List.filter_filter, List.filter_filter]
    congr 1
    funext x
    unfold objB
    cases prefixB x.key.data.toList pre.data.toList <;> cases x.latest <;> cases x.mark <;> cases fr.toList.isEmpty <;> cases Op.bytesLess fr.toList x.key.toList <;> rfl
  rw [e]
  rcases h with ⟨rfl, rfl⟩ | ⟨h0, hlt, rfl, -⟩
  · rw [Nat.zero_mul, List.drop_zero, List.filter_eq_self]
    intro x _
    simp [ByteArray.toList_eq]
  · obtain ⟨j, hj⟩ : ∃ j, i * n = j + 1 := ⟨i * n - 1, by have := Nat.mul_pos h0 hn; omega⟩
    have hj1 : j < (objsL pre S).length := by omega
    rw [hj, Nat.add_sub_cancel, getD_of hj1]
    have hst : (objsL pre S).Pairwise AheadE := ((strictE FM hs).sublist List.filter_sublist).sublist List.filter_sublist
    obtain ⟨s1, s2⟩ := strict_split hst hj1
    obtain ⟨hm, hl⟩ := objsL_mem (List.getElem_mem hj1)
    have hne := isEmpty_false (FM.key _ hm)
    refine filter_tail (j + 1) (fun y hy => ?_) (fun y hy => ?_)
    · simp only [hne, Bool.false_or]
      rw [← Bool.not_eq_true]
      exact fun h => s1 y hy (.inl h)
    · simp only [hne, Bool.false_or]
      rcases s2 y hy with h | ⟨h1, h2⟩
      · exact h
      · exfalso
        obtain ⟨ym, yl⟩ := objsL_mem (List.mem_of_mem_drop hy)
        have := (FM.latest y ym).1 yl _ hm h1
        omega
end

/-- The next token. -/
theorem tok_next {V : List Ent} {n i : Nat} (hn : 0 < n) (h : n < (V.drop (i * n)).length) : TokAt V n (i + 1) (cutKey n (V.drop (i * n))) (cutId n (V.drop (i * n))) := by
  have hl : i * n + n < V.length := by rw [List.length_drop] at h; omega
  have e : (V.drop (i * n)).getD (n - 1) default = V.getD ((i + 1) * n - 1) default := by
    rw [List.getD_eq_getElem?_getD, List.getD_eq_getElem?_getD, List.getElem?_drop]
    congr 2
    rw [Nat.add_mul]; omega
  refine .inr ⟨Nat.succ_pos _, by rw [Nat.add_mul]; omega, ?_, ?_⟩
  · unfold cutKey; rw [if_pos h, e]
  · unfold cutId; rw [if_pos h, e]

theorem take_more (V : List Ent) (n i : Nat) : V.take (i * n) ++ (V.drop (i * n)).take n = V.take ((i + 1) * n) := by
  rw [Nat.add_mul, Nat.one_mul, List.take_add]
end Go.Proofs.Ytgaejaadjmcckaa
