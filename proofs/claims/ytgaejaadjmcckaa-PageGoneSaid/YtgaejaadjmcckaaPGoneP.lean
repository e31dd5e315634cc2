/- A token is no place, plainly: of the entries that were there all the while each is seen once. -/
import Derived.Test.YtgaejaadjmcckaaPWalkP
namespace Go.Proofs.Ytgaejaadjmcckaa
open Go.Shelf Go.RowKit Go.Lib Go.Sort Srt Nam

theorem own_below {w w' : World} {base n : Nat} {e : TypeId} {size : Nat} {v : Value} {xs : List Value} (h : w.ownsRow base e size v n xs) (hb : Below w.heap.size w w') : w'.ownsRow base e size v n xs :=
  h.kept (row := none) ⟨hb.os, hb.tape, hb.output, hb.size, fun k hk _ => hb.block k hk⟩ (by cases v.ownBlock <;> simp)
theorem rowE_kept {N g : Nat} {a b : World} {v : Value} {l : List Ent} (h : RowE a v l) (hk : KeptBut N g a b) (hN : a.heap.size ≤ N) (hne : ∀ x o n c, v = .slice (some ⟨x, o, none⟩) n c → x ≠ g) : RowE b v l := by
  rcases h with h | ⟨x, o, cap, h1, h2, h3⟩
  · exact .inl h
  · refine .inr ⟨x, o, cap, h1, Nat.lt_of_lt_of_le h2 hk.size, fun j u hj => ?_⟩
    rw [hk.cell (p := ⟨x, o + j, none⟩) (by show x < N; omega) (hne x o _ _ h1)]
    exact h3 j u hj
theorem rowE_lt {a : World} {v : Value} {l : List Ent} (h : RowE a v l) : ∀ x o n c, v = .slice (some ⟨x, o, none⟩) n c → x < a.heap.size := by
  intro x o n c hv
  rcases h with ⟨h, _⟩ | ⟨y, o', cap, h1, h2, _⟩
  · rw [h] at hv; cases hv
  · rw [h1] at hv; cases hv; exact h2

/-- Rows in which a key and an id have one entry. -/
structure OneM (l : List Ent) : Prop where
  nodup : l.Nodup
  key : ∀ x ∈ l, x.key ≠ ⟨#[]⟩
  uniq : ∀ x ∈ l, ∀ y ∈ l, x.key = y.key → x.id = y.id → x = y

theorem FairM.one {l : List Ent} (h : FairM l) : OneM l := ⟨h.nodup, h.key, h.uniq⟩
theorem OneM.sub {l m : List Ent} (h : OneM l) (hs : m.Sublist l) : OneM m := ⟨h.nodup.sublist hs, fun x hx => h.key x (hs.subset hx), fun x hx y hy => h.uniq x (hs.subset hx) y (hs.subset hy)⟩
theorem OneM.perm {l m : List Ent} (h : OneM l) (hp : m.Perm l) : OneM m := ⟨hp.symm.nodup h.nodup, fun x hx => h.key x (hp.subset hx), fun x hx y hy => h.uniq x (hp.subset hx) y (hp.subset hy)⟩

theorem strictU {l : List Ent} (h : OneM l) (hs : SortedE l) : l.Pairwise AheadE := by
  have hs' : l.Pairwise fun x y => ltOf cfE y x = false := hs
  have key : ∀ x ∈ l, ∀ y ∈ l, (x ≠ y ∧ ltOf cfE y x = false) → AheadE x y := fun x hx y hy ⟨hne, hlt⟩ => by
    rw [ltE_not] at hlt
    rcases hlt with c | ⟨c1, c2⟩
    · exact .inl c
    · refine .inr ⟨c1.symm, ?_⟩
      by_cases e : x.id = y.id
      · exact absurd (h.uniq x hx y hy c1.symm e) hne
      · omega
  exact List.Pairwise.imp_of_mem (fun hx hy hh => key _ hx _ hy hh) (List.Pairwise.and h.nodup hs')

/-- The page of versions, of a row in its order S, whatever its latest ones say. -/
theorem vers_atU {l S : List Ent} (FM : OneM l) (hp : S.Perm l) (hs : SortedE S) (q : AskV) (hl : l.length ≤ 1000000) (hk : ∀ x ∈ l, x.key.size ≤ maxLen) (hq : q.pre.size ≤ maxLen) (hm : 1 ≤ q.most ∧ q.most ≤ 1000) (v : Value) (w : World) (hv : RowE w v l) :
    Calls Try.prog 17 #[v, .agg #[.string q.pre, .string q.fr, .int .i64 q.fid, .int .i64 q.most]] w fun e w' =>
      ∃ sv, RowE w' sv ((selE (verB q) q S).take q.most.toNat) ∧ (∀ b o n c, sv = .slice (some ⟨b, o, none⟩) n c → w.heap.size ≤ b) ∧ Below w.heap.size w w' ∧
        e = .returned (.tuple #[.agg #[sv, .bool (decide (q.most.toNat < (selE (verB q) q S).length)), .string (cutKey q.most.toNat (selE (verB q) q S)), .int .i64 (cutId q.most.toNat (selE (verB q) q S))], .int .i64 0]) := by
  refine Calls.mono (versions_is q l hl hk hq hm v w hv) ?_
  rintro e w' ⟨l', sv, hp', hs', h1, h2, h3, h4⟩
  obtain rfl : l' = S := sortedE_unique (FM.perm hp').uniq (hp'.trans hp.symm) hs' hs
  exact ⟨sv, h1, h2, h3, h4⟩

theorem count_one {l : List Ent} (h : l.Nodup) {y : Ent} (hy : y ∈ l) : l.count y = 1 := by
  rw [List.Nodup.count h, if_pos hy]

section
variable {l left S F : List Ent} (hl : OneM l) (hp : S.Perm l) (hs : SortedE S) (hsub : left.Sublist l) {T : List Ent} (hpT : T.Perm left) (hsT : SortedE T)
include hl hp hs hsub hpT
/-- Each entry that was there all the while is seen once. -/
theorem seen_once {n : Nat} (hn : 0 < n) (hlt : n < S.length) (y : Ent) (hy : y ∈ left) :
    (S.take n ++ selE (verB ⟨⟨#[]⟩, cutKey n S, cutId n S, 1000⟩) ⟨⟨#[]⟩, cutKey n S, cutId n S, 1000⟩ T).count y = 1 := by
  have h1 : n - 1 < S.length := by omega
  have ek : cutKey n S = (S[n - 1]).key := by unfold cutKey; rw [if_pos hlt, getD_of h1]
  have ei : cutId n S = (S[n - 1]).id := by unfold cutId; rw [if_pos hlt, getD_of h1]
  have hS := strictU (hl.perm hp) hs
  obtain ⟨s1, s2⟩ := strict_split hS h1
  rw [show n - 1 + 1 = n by omega] at s1 s2
  have hne := isEmpty_false ((hl.perm hp).key _ (List.getElem_mem h1))
  have key : ∀ z, verB ⟨⟨#[]⟩, cutKey n S, cutId n S, 1000⟩ z = true ↔ AheadE S[n - 1] z := fun z => by
    rw [ek, ei]
    unfold verB AheadE
    simp only [hne, Bool.false_or, Bool.or_eq_true, Bool.and_eq_true, beq_iff_eq, decide_eq_true_eq]
    constructor
    · rintro (h | ⟨h1, h2⟩)
      · exact .inl h
      · exact .inr ⟨list_inj_data h1.symm, h2⟩
    · rintro (h | ⟨h1, h2⟩)
      · exact .inl h
      · exact .inr ⟨by rw [h1], h2⟩
  have hT : T.Nodup := hpT.symm.nodup (hl.nodup.sublist hsub)
  have hyT : y ∈ T := hpT.symm.subset hy
  have hyS : y ∈ S := hp.symm.subset (hsub.subset hy)
  have hsel : ∀ z, z ∈ selE (verB ⟨⟨#[]⟩, cutKey n S, cutId n S, 1000⟩) ⟨⟨#[]⟩, cutKey n S, cutId n S, 1000⟩ T ↔ z ∈ T ∧ AheadE S[n - 1] z := fun z => by
    unfold selE
    rw [List.mem_filter, ← key, Bool.and_eq_true, and_iff_right (prefixB_nil _)]
  have hSn : S.Nodup := (hl.perm hp).nodup
  rw [List.count_append]
  rw [← List.take_append_drop n S, List.mem_append] at hyS
  by_cases hc : y ∈ S.take n
  · rw [count_one (hSn.sublist (List.take_sublist _ _)) hc, List.count_eq_zero.2]
    rw [hsel]
    exact fun h => s1 y hc h.2
  · rcases hyS with h | h
    · exact absurd h hc
    · have hnd : (selE (verB ⟨⟨#[]⟩, cutKey n S, cutId n S, 1000⟩) ⟨⟨#[]⟩, cutKey n S, cutId n S, 1000⟩ T).Nodup := hT.sublist List.filter_sublist
      rw [List.count_eq_zero.2 hc, count_one hnd ((hsel y).2 ⟨hyT, s2 y h⟩)]
end
end Go.Proofs.Ytgaejaadjmcckaa
