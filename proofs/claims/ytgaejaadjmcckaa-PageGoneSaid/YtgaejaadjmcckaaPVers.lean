/- What pages tell of a fair row whose sorted order is known. -/
import Derived.Test.YtgaejaadjmcckaaPPlain
import Derived.Test.YtgaejaadjmcckaaPAwake
namespace Go.Proofs.Ytgaejaadjmcckaa
open Go.Shelf Go.RowKit Go.Lib Go.Sort Srt Nam

/-- A whole row in one page. -/
theorem cutKey_all {n : Nat} {f : List Ent} (h : f.length ≤ n) : cutKey n f = ⟨#[]⟩ := if_neg (by omega)
theorem cutId_all {n : Nat} {f : List Ent} (h : f.length ≤ n) : cutId n f = 0 := if_neg (by omega)

/-- The page of versions, of a fair row in its order S. -/
theorem vers_at {l S : List Ent} (FM : FairM l) (hp : S.Perm l) (hs : SortedE S) (q : AskV) (hl : l.length ≤ 1000000) (hk : ∀ x ∈ l, x.key.size ≤ maxLen) (hq : q.pre.size ≤ maxLen) (hm : 1 ≤ q.most ∧ q.most ≤ 1000) (v : Value) (w : World) (hv : RowE w v l) :
    Calls Try.prog 17 #[v, .agg #[.string q.pre, .string q.fr, .int .i64 q.fid, .int .i64 q.most]] w fun e w' =>
      ∃ sv, RowE w' sv ((selE (verB q) q S).take q.most.toNat) ∧ (∀ b o n c, sv = .slice (some ⟨b, o, none⟩) n c → w.heap.size ≤ b) ∧ Below w.heap.size w w' ∧
        e = .returned (.tuple #[.agg #[sv, .bool (decide (q.most.toNat < (selE (verB q) q S).length)), .string (cutKey q.most.toNat (selE (verB q) q S)), .int .i64 (cutId q.most.toNat (selE (verB q) q S))], .int .i64 0]) := by
  refine Calls.mono (versions_is q l hl hk hq hm v w hv) ?_
  rintro e w' ⟨l', sv, hp', hs', h1, h2, h3, h4⟩
  obtain rfl : l' = S := sortE_unique FM (List.Perm.refl l) hp' hs' hp hs
  exact ⟨sv, h1, h2, h3, h4⟩

/-- .. of objects. -/
theorem objs_at {l S : List Ent} (FM : FairM l) (hp : S.Perm l) (hs : SortedE S) (q : AskV) (hl : l.length ≤ 1000000) (hk : ∀ x ∈ l, x.key.size ≤ maxLen) (hq : q.pre.size ≤ maxLen) (hm : 1 ≤ q.most ∧ q.most ≤ 1000) (v : Value) (w : World) (hv : RowE w v l) :
    Calls Try.prog 14 #[v, .agg #[.string q.pre, .string q.fr, .int .i64 q.fid, .int .i64 q.most]] w fun e w' =>
      ∃ sv, RowE w' sv ((selE (objB q) q S).take q.most.toNat) ∧ (∀ b o n c, sv = .slice (some ⟨b, o, none⟩) n c → w.heap.size ≤ b) ∧ Below w.heap.size w w' ∧
        e = .returned (.tuple #[.agg #[sv, .bool (decide (q.most.toNat < (selE (objB q) q S).length)), .string (cutKey q.most.toNat (selE (objB q) q S)), .int .i64 0], .int .i64 0]) := by
  refine Calls.mono (objects_is q l hl hk hq hm v w hv) ?_
  rintro e w' ⟨l', sv, hp', hs', h1, h2, h3, h4⟩
  obtain rfl : l' = S := sortE_unique FM (List.Perm.refl l) hp' hs' hp hs
  exact ⟨sv, h1, h2, h3, h4⟩

/-- There is the sorted order. -/
theorem sorted_ex (l : List Ent) : ∃ S : List Ent, S.Perm l ∧ SortedE S := by
  induction l with
  | nil => exact ⟨[], List.Perm.refl _, List.Pairwise.nil⟩
  | cons x t ih =>
    obtain ⟨S, h1, h2⟩ := ih
    have h2' : S.Pairwise fun x y => ltOf cfE y x = false := h2
    refine ⟨S.filter (fun y => !ltOf cfE x y) ++ x :: S.filter (fun y => ltOf cfE x y), ?_, ?_⟩
    · refine List.perm_middle.trans (List.Perm.cons _ ?_)
      refine List.Perm.trans ?_ h1
      have := List.filter_append_perm (fun y => ltOf cfE x y) S
      exact List.perm_append_comm.trans this
    · show List.Pairwise _ _
      rw [List.pairwise_append]
      refine ⟨h2'.filter _, List.Pairwise.cons (fun y hy => ?_) (h2'.filter _), fun a ha y hy => ?_⟩
      · have := (List.mem_filter.1 hy).2
        have c : AheadE x y := (ltE_iff x y).1 this
        rw [← Bool.not_eq_true, ltE_iff]
        exact c.not
      · have ha2 : ltOf cfE x a = false := by simpa using (List.mem_filter.1 ha).2
        rcases List.mem_cons.1 hy with rfl | hy
        · exact ha2
        · have c : AheadE x y := (ltE_iff x y).1 (List.mem_filter.1 hy).2
          rw [← Bool.not_eq_true, ltE_iff]
          intro h
          have : ltOf cfE x a = true := (ltE_iff x a).2 (AheadE.trans c h)
          rw [ha2] at this
          cases this

theorem selE_length_le (p : Ent → Bool) (q : AskV) (l : List Ent) : (selE p q l).length ≤ l.length := List.length_filter_le _ _

/-- One entry in a block of its own. -/
theorem rowE_one (w : World) (x : Ent) : RowE (w.alloc (.cells #[.string x.key, .int .i64 x.id, .bool x.mark, .int .i64 x.size, .int .u32 x.sum, .bool x.latest] 32)) (.slice (some ⟨w.heap.size, 0, none⟩) 1 1) [x] :=
  .inr ⟨w.heap.size, 0, 1, rfl, by simp, fun j u hj => by
    rw [Nat.zero_add]
    exact (cells_of_heap (heap_alloc_new w _)).1 j u (by simpa [encE] using hj)⟩

theorem prefixB_nil (l : List UInt8) : prefixB l [] = true := by simp [prefixB]
theorem verB_none (q : AskV) (h : q.fr = ⟨#[]⟩) (x : Ent) : verB q x = true := by
  unfold verB
  rw [h]
  simp [ByteArray.toList_eq]
theorem selE_all (s : ByteArray) (n : Int) (S : List Ent) : selE (verB ⟨s, ⟨#[]⟩, 0, n⟩) ⟨s, ⟨#[]⟩, 0, n⟩ S = S.filter fun x => prefixB x.key.data.toList s.data.toList := by
  unfold selE
  congr 1
  funext x
  rw [verB_none _ rfl, Bool.and_true]
theorem selE_whole (n : Int) (S : List Ent) : selE (verB ⟨⟨#[]⟩, ⟨#[]⟩, 0, n⟩) ⟨⟨#[]⟩, ⟨#[]⟩, 0, n⟩ S = S := by
  rw [selE_all]
  rw [List.filter_eq_self]
  intro x _
  exact prefixB_nil _

/-- All of a prefix in one page. -/
theorem vers_all {l S : List Ent} (FM : FairM l) (hp : S.Perm l) (hs : SortedE S) (s : ByteArray) (hl : l.length ≤ 1000) (hk : ∀ x ∈ l, x.key.size ≤ maxLen) (hq : s.size ≤ maxLen) (v : Value) (w : World) (hv : RowE w v l) :
    Calls Try.prog 17 #[v, .agg #[.string s, .string ⟨#[]⟩, .int .i64 0, .int .i64 1000]] w fun e w' =>
      ∃ sv, RowE w' sv (S.filter fun x => prefixB x.key.data.toList s.data.toList) ∧ Below w.heap.size w w' ∧
        e = .returned (.tuple #[.agg #[sv, .bool false, .string ⟨#[]⟩, .int .i64 0], .int .i64 0]) := by
  refine Calls.mono (vers_at FM hp hs ⟨s, ⟨#[]⟩, 0, 1000⟩ (by omega) hk hq ⟨show (1 : Int) ≤ 1000 by decide, show (1000 : Int) ≤ 1000 by decide⟩ v w hv) ?_
  rintro e w' ⟨sv, h1, _, h3, h4⟩
  have e1 : (⟨s, ⟨#[]⟩, 0, 1000⟩ : AskV).most.toNat = 1000 := rfl
  have hF : (S.filter fun x => prefixB x.key.data.toList s.data.toList).length ≤ 1000 := Nat.le_trans (List.length_filter_le _ _) (by have := hp.length_eq; omega)
  rw [e1, selE_all, List.take_of_length_le hF] at h1
  rw [e1, selE_all, decide_eq_false (by omega), cutKey_all hF, cutId_all hF] at h4
  exact ⟨sv, h1, h3, h4⟩
end Go.Proofs.Ytgaejaadjmcckaa
