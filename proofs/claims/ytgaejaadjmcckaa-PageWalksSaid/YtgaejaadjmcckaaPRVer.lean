/- Pages of versions and of objects, the program's and the document's, for any question: one answer. -/
import Derived.Test.YtgaejaadjmcckaaPPages
import Derived.Test.YtgaejaadjmcckaaPVers
namespace Go.Proofs.Ytgaejaadjmcckaa
open Go.Shelf Go.RowKit Go.Lib Nam

/-- What is known of a page that was handed back. -/
def PgPost (w : World) (X : List Ent → Bool → ByteArray → Int → Int → Prop) (ek : IntKind) (e : Ending) (w' : World) : Prop :=
  ∃ sv L mo ke ci er, e = .returned (.tuple #[.agg #[sv, .bool mo, .string ke, .int .i64 ci], .int ek er]) ∧ RowE w' sv L ∧ (∀ b o n c, sv = .slice (some ⟨b, o, none⟩) n c → w.heap.size ≤ b) ∧ Below w.heap.size w w' ∧ X L mo ke ci er

def pgOk (q : AskV) : Bool := decide (1 ≤ q.most ∧ q.most ≤ 1000)
/-- The answer to a question, of a row in its order. -/
def PgIs (vs : Bool) (q : AskV) (S : List Ent) (L : List Ent) (mo : Bool) (ke : ByteArray) (ci er : Int) : Prop :=
  if pgOk q then L = (selE (pgB vs q) q S).take q.most.toNat ∧ mo = decide (q.most.toNat < (selE (pgB vs q) q S).length) ∧ ke = cutKey q.most.toNat (selE (pgB vs q) q S) ∧ ci = pgId vs q.most.toNat (selE (pgB vs q) q S) ∧ er = 0
  else L = [] ∧ mo = false ∧ ke = ⟨#[]⟩ ∧ ci = 0 ∧ er = 1

theorem PgIs.one {vs : Bool} {q : AskV} {S L L' : List Ent} {mo mo' : Bool} {ke ke' : ByteArray} {ci er ci' er' : Int} (h : PgIs vs q S L mo ke ci er) (h' : PgIs vs q S L' mo' ke' ci' er') : L = L' ∧ mo = mo' ∧ ke = ke' ∧ ci = ci' ∧ er = er' := by
  unfold PgIs at h h'
  split at h
  · rename_i c
    rw [if_pos c] at h'
    obtain ⟨h1, h2, h3, h4, h5⟩ := h
    obtain ⟨k1, k2, k3, k4, k5⟩ := h'
    exact ⟨h1.trans k1.symm, h2.trans k2.symm, h3.trans k3.symm, h4.trans k4.symm, h5.trans k5.symm⟩
  · rename_i c
    rw [if_neg c] at h'
    obtain ⟨h1, h2, h3, h4, h5⟩ := h
    obtain ⟨k1, k2, k3, k4, k5⟩ := h'
    exact ⟨h1.trans k1.symm, h2.trans k2.symm, h3.trans k3.symm, h4.trans k4.symm, h5.trans k5.symm⟩

theorem PgIs.len {vs : Bool} {q : AskV} {S L : List Ent} {mo : Bool} {ke : ByteArray} {ci er : Int} (h : PgIs vs q S L mo ke ci er) : L.length ≤ S.length := by
  unfold PgIs at h
  split at h
  · rw [h.1, List.length_take]
    exact Nat.le_trans (Nat.min_le_right _ _) (selE_length_le _ _ _)
  · rw [h.1]; simp

set_option maxHeartbeats 1000000 in
set_option maxRecDepth 100000 in
theorem rpages_no (q : AskV) (hm : ¬ (1 ≤ q.most ∧ q.most ≤ 1000)) (v : Value) (vs : Bool) (w : World) :
    Calls Try.prog 32 #[v, .agg #[.string q.pre, .string q.fr, .int .i64 q.fid, .int .i64 q.most], .bool vs] w fun e w' => e = .returned (.tuple #[.agg #[.slice none 0 0, .bool false, .string ⟨#[]⟩, .int .i64 0], .int .i64 1]) ∧ Below w.heap.size w w' := by
  obtain ⟨pre, fr, fid, most⟩ := q
  simp only [] at hm
  have h31 : ((w.alloc (.cells #[.string pre, .string fr, .int .i64 fid, .int .i64 most] 35)).alloc (.cells #[.slice none 0 0, .bool false, .string ⟨#[]⟩, .int .i64 0] 43)).heap[w.heap.size + 1]? = some (.cells #[.slice none 0 0, .bool false, .string ⟨#[]⟩, .int .i64 0] 43 (0, 0)) := by
    have := heap_alloc_new (w.alloc (.cells #[.string pre, .string fr, .int .i64 fid, .int .i64 most] 35)) (.cells #[.slice none 0 0, .bool false, .string ⟨#[]⟩, .int .i64 0] 43)
    simpa using this
  have H31 := Lib.hid h31; clear h31
  by_cases h1 : most < 1
  · clear hm
    go_enter Try.func32, Try.ntmps32
    go_wp2
    (try simp only [Exit.inBlock, Exit.then])
    refine bodyPost_ret (ret_pair rfl _ _ (w.heap.size + 1) _ _ _ _ rfl H31.out Try.underlying43 rfl (by kernel_rfl)) rfl ?_
    exact ⟨rfl, ((Below.refl _ _).alloc (Nat.le_refl _) _).alloc (by simp) _⟩
  · have h2 : 1000 < most := by
      by_cases c : 1000 < most
      · exact c
      · exact absurd ⟨by omega, by omega⟩ hm
    have h1' : 1 ≤ most := by omega
    clear hm
    go_enter Try.func32, Try.ntmps32
    go_wp2
    (try simp only [Exit.inBlock, Exit.then])
    refine bodyPost_ret (ret_pair rfl _ _ (w.heap.size + 1) _ _ _ _ rfl H31.out Try.underlying43 rfl (by kernel_rfl)) rfl ?_
    exact ⟨rfl, ((Below.refl _ _).alloc (Nat.le_refl _) _).alloc (by simp) _⟩

set_option maxHeartbeats 1000000 in
set_option maxRecDepth 100000 in
theorem cut_no (q : AskV) (hm : ¬ (1 ≤ q.most ∧ q.most ≤ 1000)) (v : Value) (g a : Nat) (w : World) :
    Calls Try.prog 29 #[v, .agg #[.string q.pre, .string q.fr, .int .i64 q.fid, .int .i64 q.most], .func (.func g) #[] #[.pointer (some ⟨a, 0, none⟩)]] w fun e w' => e = .returned (.tuple #[.agg #[.slice none 0 0, .bool false, .string ⟨#[]⟩, .int .i64 0], .int .i64 1]) ∧ Below w.heap.size w w' := by
  obtain ⟨pre, fr, fid, most⟩ := q
  simp only [] at hm
  have h31 : ((w.alloc (.cells #[.string pre, .string fr, .int .i64 fid, .int .i64 most] 41)).alloc (.cells #[.slice none 0 0, .bool false, .string ⟨#[]⟩, .int .i64 0] 37)).heap[w.heap.size + 1]? = some (.cells #[.slice none 0 0, .bool false, .string ⟨#[]⟩, .int .i64 0] 37 (0, 0)) := by
    have := heap_alloc_new (w.alloc (.cells #[.string pre, .string fr, .int .i64 fid, .int .i64 most] 41)) (.cells #[.slice none 0 0, .bool false, .string ⟨#[]⟩, .int .i64 0] 37)
    simpa using this
  have H31 := Lib.hid h31; clear h31
  by_cases h1 : most < 1
  · clear hm
    go_enter Try.func29, Try.ntmps29
    go_wp2
    (try simp only [Exit.inBlock, Exit.then])
    refine bodyPost_ret (ret_pair rfl _ _ (w.heap.size + 1) _ _ _ _ rfl H31.out Try.underlying37 rfl (by kernel_rfl)) rfl ?_
    exact ⟨rfl, ((Below.refl _ _).alloc (Nat.le_refl _) _).alloc (by simp) _⟩
  · have h2 : 1000 < most := by
      by_cases c : 1000 < most
      · exact c
      · exact absurd ⟨by omega, by omega⟩ hm
    have h1' : 1 ≤ most := by omega
    clear hm
    go_enter Try.func29, Try.ntmps29
    go_wp2
    (try simp only [Exit.inBlock, Exit.then])
    refine bodyPost_ret (ret_pair rfl _ _ (w.heap.size + 1) _ _ _ _ rfl H31.out Try.underlying37 rfl (by kernel_rfl)) rfl ?_
    exact ⟨rfl, ((Below.refl _ _).alloc (Nat.le_refl _) _).alloc (by simp) _⟩

set_option maxHeartbeats 1000000 in
set_option maxRecDepth 100000 in
/-- A function that hands a page of its callee's on. -/
theorem rvers_of (q : AskV) (v : Value) (w : World) (X : List Ent → Bool → ByteArray → Int → Int → Prop)
    (h : ∀ W, Below w.heap.size w W → Calls Try.prog 32 #[v, .agg #[.string q.pre, .string q.fr, .int .i64 q.fid, .int .i64 q.most], .bool true] W (PgPost W X .i64)) :
    Calls Try.prog 18 #[v, .agg #[.string q.pre, .string q.fr, .int .i64 q.fid, .int .i64 q.most]] w (PgPost w X .i64) := by
  obtain ⟨w2, hw2⟩ : ∃ w2, (w.alloc (.cells #[.string q.pre, .string q.fr, .int .i64 q.fid, .int .i64 q.most] 35)).alloc (.cells #[.slice none 0 0, .bool false, .string ⟨#[]⟩, .int .i64 0] 43) = w2 := ⟨_, rfl⟩
  have s2 : w2.heap.size = w.heap.size + 2 := by rw [← hw2]; simp
  have hb2 : Below w.heap.size w w2 := by
    rw [← hw2]
    exact ((Below.refl _ _).alloc (Nat.le_refl _) _).alloc (by simp) _
  have h20 : w2.heap[w.heap.size]? = some (.cells #[.string q.pre, .string q.fr, .int .i64 q.fid, .int .i64 q.most] 35 (0, 0)) := by
    rw [← hw2, heap_alloc_old _ _ (by simp), heap_alloc_new]
  have h21 : w2.heap[w.heap.size + 1]? = some (.cells #[.slice none 0 0, .bool false, .string ⟨#[]⟩, .int .i64 0] 43 (0, 0)) := by
    rw [← hw2]
    have := heap_alloc_new (w.alloc (.cells #[.string q.pre, .string q.fr, .int .i64 q.fid, .int .i64 q.most] 35)) (.cells #[.slice none 0 0, .bool false, .string ⟨#[]⟩, .int .i64 0] 43)
    simpa using this
  have hat : AskAt w2 w.heap.size q := ⟨by omega, (cells_of_heap h20).1 0 _ rfl, (cells_of_heap h20).1 1 _ rfl, (cells_of_heap h20).1 2 _ rfl, (cells_of_heap h20).1 3 _ rfl⟩
  have HC := Lib.hid (h w2 hb2 ); clear h
  have HW := Lib.hid hw2; clear hw2
  clear hat h20
  obtain ⟨pre, fr, fid, most⟩ := q
  go_enter Try.func18, Try.ntmps18
  go_wp2_with fail
  rw [show (w.alloc (.cells #[.string pre, .string fr, .int .i64 fid, .int .i64 most] 35)).alloc (.cells #[.slice none 0 0, .bool false, .string ⟨#[]⟩, .int .i64 0] 43) = w2 from HW.out]
  refine HC.out.mono ?_
  rintro e w3 ⟨sv, L, mo, ke, ci, er, rfl, hrow, hfr, hb3, hX⟩
  have h31 : w3.heap[w.heap.size + 1]? = some (.cells #[.slice none 0 0, .bool false, .string ⟨#[]⟩, .int .i64 0] 43 (0, 0)) := (hb3.block _ (by omega)).trans h21
  have r0 : w3.cell? ⟨w.heap.size + 1, 0, none⟩ = some (.slice none 0 0) := (cells_of_heap h31).1 0 _ rfl
  have r1 : w3.cell? ⟨w.heap.size + 1, 1, none⟩ = some (.bool false) := (cells_of_heap h31).1 1 _ rfl
  have r2 : w3.cell? ⟨w.heap.size + 1, 2, none⟩ = some (.string ⟨#[]⟩) := (cells_of_heap h31).1 2 _ rfl
  have r3 : w3.cell? ⟨w.heap.size + 1, 3, none⟩ = some (.int .i64 0) := (cells_of_heap h31).1 3 _ rfl
  have z0 : w3.frozen? ⟨w.heap.size + 1, 0, none⟩ = false := (cells_of_heap h31).2 0
  have z1 : w3.frozen? ⟨w.heap.size + 1, 1, none⟩ = false := (cells_of_heap h31).2 1
  have z2 : w3.frozen? ⟨w.heap.size + 1, 2, none⟩ = false := (cells_of_heap h31).2 2
  have z3 : w3.frozen? ⟨w.heap.size + 1, 3, none⟩ = false := (cells_of_heap h31).2 3
  obtain ⟨ps, cs, rfl, -⟩ := len_of_row hrow
  obtain ⟨nn, hnn⟩ : ∃ nn, L.length = nn := ⟨_, rfl⟩
  rw [hnn] at hrow hfr ⊢
  have H31 := Lib.hid h31; clear h31
  have HROW := Lib.hid hrow; clear hrow
  have HXX := Lib.hid hX; clear hX
  have HS2 := Lib.hid s2; clear s2
  clear hnn h21
  go_wp2
  (try simp only [Exit.inBlock, Exit.then])
  have h61 := heap_set (heap_set (heap_set (heap_set H31.out 0 (.slice ps nn cs)) 1 (.bool mo)) 2 (.string ke)) 3 (.int .i64 ci)
  refine bodyPost_ret (ret_pair rfl _ _ (w.heap.size + 1) _ _ _ _ rfl h61 Try.underlying43 rfl (by kernel_rfl)) rfl ?_
  have hne : ∀ b o n c, Value.slice ps nn cs = .slice (some ⟨b, o, none⟩) n c → b ≠ w.heap.size + 1 := fun b o n c h => by
    have h1 := hfr b o n c h
    have h2 := HS2.out
    omega
  refine ⟨.slice ps nn cs, L, mo, ke, ci, er, rfl, rowE_set (rowE_set (rowE_set (rowE_set HROW.out hne _ _) hne _ _) hne _ _) hne _ _, fun b o n c h => ?_, ?_, HXX.out⟩
  · have h1 := hfr b o n c h
    have h2 := HS2.out
    omega
  · have h2 := HS2.out
    exact ((((hb2.trans (hb3.mono (by omega))).setCell (p := ⟨w.heap.size + 1, 0, none⟩) (Nat.le_succ _) _).setCell (p := ⟨w.heap.size + 1, 1, none⟩) (Nat.le_succ _) _).setCell (p := ⟨w.heap.size + 1, 2, none⟩) (Nat.le_succ _) _).setCell (p := ⟨w.heap.size + 1, 3, none⟩) (Nat.le_succ _) _

set_option maxHeartbeats 1000000 in
set_option maxRecDepth 100000 in
/-- A function that hands a page of its callee's on. -/
theorem robjs_of (q : AskV) (v : Value) (w : World) (X : List Ent → Bool → ByteArray → Int → Int → Prop)
    (h : ∀ W, Below w.heap.size w W → Calls Try.prog 32 #[v, .agg #[.string q.pre, .string q.fr, .int .i64 q.fid, .int .i64 q.most], .bool false] W (PgPost W X .i64)) :
    Calls Try.prog 16 #[v, .agg #[.string q.pre, .string q.fr, .int .i64 q.fid, .int .i64 q.most]] w (PgPost w X .i64) := by
  obtain ⟨w2, hw2⟩ : ∃ w2, (w.alloc (.cells #[.string q.pre, .string q.fr, .int .i64 q.fid, .int .i64 q.most] 35)).alloc (.cells #[.slice none 0 0, .bool false, .string ⟨#[]⟩, .int .i64 0] 43) = w2 := ⟨_, rfl⟩
  have s2 : w2.heap.size = w.heap.size + 2 := by rw [← hw2]; simp
  have hb2 : Below w.heap.size w w2 := by
    rw [← hw2]
    exact ((Below.refl _ _).alloc (Nat.le_refl _) _).alloc (by simp) _
  have h20 : w2.heap[w.heap.size]? = some (.cells #[.string q.pre, .string q.fr, .int .i64 q.fid, .int .i64 q.most] 35 (0, 0)) := by
    rw [← hw2, heap_alloc_old _ _ (by simp), heap_alloc_new]
  have h21 : w2.heap[w.heap.size + 1]? = some (.cells #[.slice none 0 0, .bool false, .string ⟨#[]⟩, .int .i64 0] 43 (0, 0)) := by
    rw [← hw2]
    have := heap_alloc_new (w.alloc (.cells #[.string q.pre, .string q.fr, .int .i64 q.fid, .int .i64 q.most] 35)) (.cells #[.slice none 0 0, .bool false, .string ⟨#[]⟩, .int .i64 0] 43)
    simpa using this
  have hat : AskAt w2 w.heap.size q := ⟨by omega, (cells_of_heap h20).1 0 _ rfl, (cells_of_heap h20).1 1 _ rfl, (cells_of_heap h20).1 2 _ rfl, (cells_of_heap h20).1 3 _ rfl⟩
  have HC := Lib.hid (h w2 hb2 ); clear h
  have HW := Lib.hid hw2; clear hw2
  clear hat h20
  obtain ⟨pre, fr, fid, most⟩ := q
  go_enter Try.func16, Try.ntmps16
  go_wp2_with fail
  rw [show (w.alloc (.cells #[.string pre, .string fr, .int .i64 fid, .int .i64 most] 35)).alloc (.cells #[.slice none 0 0, .bool false, .string ⟨#[]⟩, .int .i64 0] 43) = w2 from HW.out]
  refine HC.out.mono ?_
  rintro e w3 ⟨sv, L, mo, ke, ci, er, rfl, hrow, hfr, hb3, hX⟩
  have h31 : w3.heap[w.heap.size + 1]? = some (.cells #[.slice none 0 0, .bool false, .string ⟨#[]⟩, .int .i64 0] 43 (0, 0)) := (hb3.block _ (by omega)).trans h21
  have r0 : w3.cell? ⟨w.heap.size + 1, 0, none⟩ = some (.slice none 0 0) := (cells_of_heap h31).1 0 _ rfl
  have r1 : w3.cell? ⟨w.heap.size + 1, 1, none⟩ = some (.bool false) := (cells_of_heap h31).1 1 _ rfl
  have r2 : w3.cell? ⟨w.heap.size + 1, 2, none⟩ = some (.string ⟨#[]⟩) := (cells_of_heap h31).1 2 _ rfl
  have r3 : w3.cell? ⟨w.heap.size + 1, 3, none⟩ = some (.int .i64 0) := (cells_of_heap h31).1 3 _ rfl
  have z0 : w3.frozen? ⟨w.heap.size + 1, 0, none⟩ = false := (cells_of_heap h31).2 0
  have z1 : w3.frozen? ⟨w.heap.size + 1, 1, none⟩ = false := (cells_of_heap h31).2 1
  have z2 : w3.frozen? ⟨w.heap.size + 1, 2, none⟩ = false := (cells_of_heap h31).2 2
  have z3 : w3.frozen? ⟨w.heap.size + 1, 3, none⟩ = false := (cells_of_heap h31).2 3
  obtain ⟨ps, cs, rfl, -⟩ := len_of_row hrow
  obtain ⟨nn, hnn⟩ : ∃ nn, L.length = nn := ⟨_, rfl⟩
  rw [hnn] at hrow hfr ⊢
  have H31 := Lib.hid h31; clear h31
  have HROW := Lib.hid hrow; clear hrow
  have HXX := Lib.hid hX; clear hX
  have HS2 := Lib.hid s2; clear s2
  clear hnn h21
  go_wp2
  (try simp only [Exit.inBlock, Exit.then])
  have h61 := heap_set (heap_set (heap_set (heap_set H31.out 0 (.slice ps nn cs)) 1 (.bool mo)) 2 (.string ke)) 3 (.int .i64 ci)
  refine bodyPost_ret (ret_pair rfl _ _ (w.heap.size + 1) _ _ _ _ rfl h61 Try.underlying43 rfl (by kernel_rfl)) rfl ?_
  have hne : ∀ b o n c, Value.slice ps nn cs = .slice (some ⟨b, o, none⟩) n c → b ≠ w.heap.size + 1 := fun b o n c h => by
    have h1 := hfr b o n c h
    have h2 := HS2.out
    omega
  refine ⟨.slice ps nn cs, L, mo, ke, ci, er, rfl, rowE_set (rowE_set (rowE_set (rowE_set HROW.out hne _ _) hne _ _) hne _ _) hne _ _, fun b o n c h => ?_, ?_, HXX.out⟩
  · have h1 := hfr b o n c h
    have h2 := HS2.out
    omega
  · have h2 := HS2.out
    exact ((((hb2.trans (hb3.mono (by omega))).setCell (p := ⟨w.heap.size + 1, 0, none⟩) (Nat.le_succ _) _).setCell (p := ⟨w.heap.size + 1, 1, none⟩) (Nat.le_succ _) _).setCell (p := ⟨w.heap.size + 1, 2, none⟩) (Nat.le_succ _) _).setCell (p := ⟨w.heap.size + 1, 3, none⟩) (Nat.le_succ _) _

set_option maxHeartbeats 1000000 in
set_option maxRecDepth 100000 in
/-- A function that hands a page of its callee's on. -/
theorem pvers_of (q : AskV) (v : Value) (w : World) (X : List Ent → Bool → ByteArray → Int → Int → Prop)
    (h : ∀ W, Below w.heap.size w W → AskAt W w.heap.size q → Calls Try.prog 29 #[v, .agg #[.string q.pre, .string q.fr, .int .i64 q.fid, .int .i64 q.most], .func (.func 33) #[] #[.pointer (some ⟨w.heap.size, 0, none⟩)]] W (PgPost W X .i64)) :
    Calls Try.prog 17 #[v, .agg #[.string q.pre, .string q.fr, .int .i64 q.fid, .int .i64 q.most]] w (PgPost w X .i64) := by
  obtain ⟨w2, hw2⟩ : ∃ w2, (w.alloc (.cells #[.string q.pre, .string q.fr, .int .i64 q.fid, .int .i64 q.most] 41)).alloc (.cells #[.slice none 0 0, .bool false, .string ⟨#[]⟩, .int .i64 0] 37) = w2 := ⟨_, rfl⟩
  have s2 : w2.heap.size = w.heap.size + 2 := by rw [← hw2]; simp
  have hb2 : Below w.heap.size w w2 := by
    rw [← hw2]
    exact ((Below.refl _ _).alloc (Nat.le_refl _) _).alloc (by simp) _
  have h20 : w2.heap[w.heap.size]? = some (.cells #[.string q.pre, .string q.fr, .int .i64 q.fid, .int .i64 q.most] 41 (0, 0)) := by
    rw [← hw2, heap_alloc_old _ _ (by simp), heap_alloc_new]
  have h21 : w2.heap[w.heap.size + 1]? = some (.cells #[.slice none 0 0, .bool false, .string ⟨#[]⟩, .int .i64 0] 37 (0, 0)) := by
    rw [← hw2]
    have := heap_alloc_new (w.alloc (.cells #[.string q.pre, .string q.fr, .int .i64 q.fid, .int .i64 q.most] 41)) (.cells #[.slice none 0 0, .bool false, .string ⟨#[]⟩, .int .i64 0] 37)
    simpa using this
  have hat : AskAt w2 w.heap.size q := ⟨by omega, (cells_of_heap h20).1 0 _ rfl, (cells_of_heap h20).1 1 _ rfl, (cells_of_heap h20).1 2 _ rfl, (cells_of_heap h20).1 3 _ rfl⟩
  have HC := Lib.hid (h w2 hb2 hat); clear h
  have HW := Lib.hid hw2; clear hw2
  clear hat h20
  obtain ⟨pre, fr, fid, most⟩ := q
  go_enter Try.func17, Try.ntmps17
  go_wp2_with fail
  rw [show (w.alloc (.cells #[.string pre, .string fr, .int .i64 fid, .int .i64 most] 41)).alloc (.cells #[.slice none 0 0, .bool false, .string ⟨#[]⟩, .int .i64 0] 37) = w2 from HW.out]
  refine HC.out.mono ?_
  rintro e w3 ⟨sv, L, mo, ke, ci, er, rfl, hrow, hfr, hb3, hX⟩
  have h31 : w3.heap[w.heap.size + 1]? = some (.cells #[.slice none 0 0, .bool false, .string ⟨#[]⟩, .int .i64 0] 37 (0, 0)) := (hb3.block _ (by omega)).trans h21
  have r0 : w3.cell? ⟨w.heap.size + 1, 0, none⟩ = some (.slice none 0 0) := (cells_of_heap h31).1 0 _ rfl
  have r1 : w3.cell? ⟨w.heap.size + 1, 1, none⟩ = some (.bool false) := (cells_of_heap h31).1 1 _ rfl
  have r2 : w3.cell? ⟨w.heap.size + 1, 2, none⟩ = some (.string ⟨#[]⟩) := (cells_of_heap h31).1 2 _ rfl
  have r3 : w3.cell? ⟨w.heap.size + 1, 3, none⟩ = some (.int .i64 0) := (cells_of_heap h31).1 3 _ rfl
  have z0 : w3.frozen? ⟨w.heap.size + 1, 0, none⟩ = false := (cells_of_heap h31).2 0
  have z1 : w3.frozen? ⟨w.heap.size + 1, 1, none⟩ = false := (cells_of_heap h31).2 1
  have z2 : w3.frozen? ⟨w.heap.size + 1, 2, none⟩ = false := (cells_of_heap h31).2 2
  have z3 : w3.frozen? ⟨w.heap.size + 1, 3, none⟩ = false := (cells_of_heap h31).2 3
  obtain ⟨ps, cs, rfl, -⟩ := len_of_row hrow
  obtain ⟨nn, hnn⟩ : ∃ nn, L.length = nn := ⟨_, rfl⟩
  rw [hnn] at hrow hfr ⊢
  have H31 := Lib.hid h31; clear h31
  have HROW := Lib.hid hrow; clear hrow
  have HXX := Lib.hid hX; clear hX
  have HS2 := Lib.hid s2; clear s2
  clear hnn h21
  go_wp2
  (try simp only [Exit.inBlock, Exit.then])
  have h61 := heap_set (heap_set (heap_set (heap_set H31.out 0 (.slice ps nn cs)) 1 (.bool mo)) 2 (.string ke)) 3 (.int .i64 ci)
  refine bodyPost_ret (ret_pair rfl _ _ (w.heap.size + 1) _ _ _ _ rfl h61 Try.underlying37 rfl (by kernel_rfl)) rfl ?_
  have hne : ∀ b o n c, Value.slice ps nn cs = .slice (some ⟨b, o, none⟩) n c → b ≠ w.heap.size + 1 := fun b o n c h => by
    have h1 := hfr b o n c h
    have h2 := HS2.out
    omega
  refine ⟨.slice ps nn cs, L, mo, ke, ci, er, rfl, rowE_set (rowE_set (rowE_set (rowE_set HROW.out hne _ _) hne _ _) hne _ _) hne _ _, fun b o n c h => ?_, ?_, HXX.out⟩
  · have h1 := hfr b o n c h
    have h2 := HS2.out
    omega
  · have h2 := HS2.out
    exact ((((hb2.trans (hb3.mono (by omega))).setCell (p := ⟨w.heap.size + 1, 0, none⟩) (Nat.le_succ _) _).setCell (p := ⟨w.heap.size + 1, 1, none⟩) (Nat.le_succ _) _).setCell (p := ⟨w.heap.size + 1, 2, none⟩) (Nat.le_succ _) _).setCell (p := ⟨w.heap.size + 1, 3, none⟩) (Nat.le_succ _) _

set_option maxHeartbeats 1000000 in
set_option maxRecDepth 100000 in
/-- page.Objects hands a page of its callee's on, without the id. -/
theorem pobjs_of (q : AskV) (v : Value) (w : World) (X : List Ent → Bool → ByteArray → Int → Int → Prop)
    (h : ∀ W, Below w.heap.size w W → AskAt W w.heap.size q → Calls Try.prog 29 #[v, .agg #[.string q.pre, .string q.fr, .int .i64 q.fid, .int .i64 q.most], .func (.func 30) #[] #[.pointer (some ⟨w.heap.size, 0, none⟩)]] W (PgPost W X .i64)) :
    Calls Try.prog 14 #[v, .agg #[.string q.pre, .string q.fr, .int .i64 q.fid, .int .i64 q.most]] w (PgPost w (fun L mo ke ci er => ci = 0 ∧ ∃ c0, X L mo ke c0 er) .i64) := by
  obtain ⟨w2, hw2⟩ : ∃ w2, (w.alloc (.cells #[.string q.pre, .string q.fr, .int .i64 q.fid, .int .i64 q.most] 41)).alloc (.cells #[.slice none 0 0, .bool false, .string ⟨#[]⟩, .int .i64 0] 37) = w2 := ⟨_, rfl⟩
  have s2 : w2.heap.size = w.heap.size + 2 := by rw [← hw2]; simp
  have hb2 : Below w.heap.size w w2 := by
    rw [← hw2]
    exact ((Below.refl _ _).alloc (Nat.le_refl _) _).alloc (by simp) _
  have h20 : w2.heap[w.heap.size]? = some (.cells #[.string q.pre, .string q.fr, .int .i64 q.fid, .int .i64 q.most] 41 (0, 0)) := by
    rw [← hw2, heap_alloc_old _ _ (by simp), heap_alloc_new]
  have h21 : w2.heap[w.heap.size + 1]? = some (.cells #[.slice none 0 0, .bool false, .string ⟨#[]⟩, .int .i64 0] 37 (0, 0)) := by
    rw [← hw2]
    have := heap_alloc_new (w.alloc (.cells #[.string q.pre, .string q.fr, .int .i64 q.fid, .int .i64 q.most] 41)) (.cells #[.slice none 0 0, .bool false, .string ⟨#[]⟩, .int .i64 0] 37)
    simpa using this
  have hat : AskAt w2 w.heap.size q := ⟨by omega, (cells_of_heap h20).1 0 _ rfl, (cells_of_heap h20).1 1 _ rfl, (cells_of_heap h20).1 2 _ rfl, (cells_of_heap h20).1 3 _ rfl⟩
  have HC := Lib.hid (h w2 hb2 hat); clear h
  have HW := Lib.hid hw2; clear hw2
  clear hat h20
  obtain ⟨pre, fr, fid, most⟩ := q
  go_enter Try.func14, Try.ntmps14
  go_wp2_with fail
  rw [show (w.alloc (.cells #[.string pre, .string fr, .int .i64 fid, .int .i64 most] 41)).alloc (.cells #[.slice none 0 0, .bool false, .string ⟨#[]⟩, .int .i64 0] 37) = w2 from HW.out]
  refine HC.out.mono ?_
  rintro e w3 ⟨sv, L, mo, ke, ci, er, rfl, hrow, hfr, hb3, hX⟩
  have h31 : w3.heap[w.heap.size + 1]? = some (.cells #[.slice none 0 0, .bool false, .string ⟨#[]⟩, .int .i64 0] 37 (0, 0)) := (hb3.block _ (by omega)).trans h21
  have hlt3 : w.heap.size + 1 < w3.heap.size := by have := hb3.size; omega
  obtain ⟨ps, cs, rfl, -⟩ := len_of_row hrow
  obtain ⟨nn, hnn⟩ : ∃ nn, L.length = nn := ⟨_, rfl⟩
  rw [hnn] at hrow hfr ⊢
  have H31 := Lib.hid h31; clear h31
  have HROW := Lib.hid hrow; clear hrow
  have HXX := Lib.hid hX; clear hX
  have HS2 := Lib.hid s2; clear s2
  clear hnn h21
  go_upto_region 3 with (fail)
  obtain ⟨W5, hW5⟩ : ∃ W5, w3.alloc (.cells #[.slice ps nn cs, .bool mo, .string ke, .int .i64 0] 37) = W5 := ⟨_, rfl⟩
  rw [hW5]
  have h35 : W5.heap[w.heap.size + 1]? = some (.cells #[.slice none 0 0, .bool false, .string ⟨#[]⟩, .int .i64 0] 37 (0, 0)) := by rw [← hW5, heap_alloc_old _ _ hlt3]; exact H31.out
  have h55 : W5.heap[w3.heap.size]? = some (.cells #[.slice ps nn cs, .bool mo, .string ke, .int .i64 0] 37 (0, 0)) := by rw [← hW5]; exact heap_alloc_new w3 _
  have hb5 : Below w3.heap.size w3 W5 := by rw [← hW5]; exact (Below.refl _ _).alloc (Nat.le_refl _) _
  have hrow5 : RowE W5 (.slice ps nn cs) L := HROW.out.below hb5
  have r0 : W5.cell? ⟨w.heap.size + 1, 0, none⟩ = some (.slice none 0 0) := (cells_of_heap h35).1 0 _ rfl
  have r1 : W5.cell? ⟨w.heap.size + 1, 1, none⟩ = some (.bool false) := (cells_of_heap h35).1 1 _ rfl
  have r2 : W5.cell? ⟨w.heap.size + 1, 2, none⟩ = some (.string ⟨#[]⟩) := (cells_of_heap h35).1 2 _ rfl
  have r3 : W5.cell? ⟨w.heap.size + 1, 3, none⟩ = some (.int .i64 0) := (cells_of_heap h35).1 3 _ rfl
  have z0 : W5.frozen? ⟨w.heap.size + 1, 0, none⟩ = false := (cells_of_heap h35).2 0
  have z1 : W5.frozen? ⟨w.heap.size + 1, 1, none⟩ = false := (cells_of_heap h35).2 1
  have z2 : W5.frozen? ⟨w.heap.size + 1, 2, none⟩ = false := (cells_of_heap h35).2 2
  have z3 : W5.frozen? ⟨w.heap.size + 1, 3, none⟩ = false := (cells_of_heap h35).2 3
  have y0 : W5.cell? ⟨w3.heap.size, 0, none⟩ = some (.slice ps nn cs) := (cells_of_heap h55).1 0 _ rfl
  have y1 : W5.cell? ⟨w3.heap.size, 1, none⟩ = some (.bool mo) := (cells_of_heap h55).1 1 _ rfl
  have y2 : W5.cell? ⟨w3.heap.size, 2, none⟩ = some (.string ke) := (cells_of_heap h55).1 2 _ rfl
  have y3 : W5.cell? ⟨w3.heap.size, 3, none⟩ = some (.int .i64 0) := (cells_of_heap h55).1 3 _ rfl
  clear hW5
  have H35 := Lib.hid h35; clear h35 h55
  have HR5 := Lib.hid hrow5; clear hrow5
  go_wp2
  (try simp only [Exit.inBlock, Exit.then])
  have h61 := heap_set (heap_set (heap_set (heap_set H35.out 0 (.slice ps nn cs)) 1 (.bool mo)) 2 (.string ke)) 3 (.int .i64 0)
  refine bodyPost_ret (ret_pair rfl _ _ (w.heap.size + 1) _ _ _ _ rfl h61 Try.underlying37 rfl (by kernel_rfl)) rfl ?_
  have hne : ∀ b o n c, Value.slice ps nn cs = .slice (some ⟨b, o, none⟩) n c → b ≠ w.heap.size + 1 := fun b o n c h => by
    have h1 := hfr b o n c h
    have h2 := HS2.out
    omega
  refine ⟨.slice ps nn cs, L, mo, ke, 0, er, rfl, rowE_set (rowE_set (rowE_set (rowE_set HR5.out hne _ _) hne _ _) hne _ _) hne _ _, fun b o n c h => ?_, ?_, rfl, ci, HXX.out⟩
  · have h1 := hfr b o n c h
    have h2 := HS2.out
    omega
  · have h2 := HS2.out
    have hb25 : Below w.heap.size w W5 := (hb2.trans (hb3.mono (by omega))).trans (hb5.mono (by omega))
    exact (((hb25.setCell (p := ⟨w.heap.size + 1, 0, none⟩) (Nat.le_succ _) _).setCell (p := ⟨w.heap.size + 1, 1, none⟩) (Nat.le_succ _) _).setCell (p := ⟨w.heap.size + 1, 2, none⟩) (Nat.le_succ _) _).setCell (p := ⟨w.heap.size + 1, 3, none⟩) (Nat.le_succ _) _

theorem pgNo {q : AskV} (h : ¬ (1 ≤ q.most ∧ q.most ≤ 1000)) (vs : Bool) (S : List Ent) : PgIs vs q S [] false ⟨#[]⟩ 0 1 := by
  unfold PgIs
  rw [if_neg (by unfold pgOk; simpa using h)]
  exact ⟨rfl, rfl, rfl, rfl, rfl⟩
theorem pgYes {q : AskV} (h : 1 ≤ q.most ∧ q.most ≤ 1000) (vs : Bool) (S : List Ent) : PgIs vs q S ((selE (pgB vs q) q S).take q.most.toNat) (decide (q.most.toNat < (selE (pgB vs q) q S).length)) (cutKey q.most.toNat (selE (pgB vs q) q S)) (pgId vs q.most.toNat (selE (pgB vs q) q S)) 0 := by
  unfold PgIs
  rw [if_pos (by unfold pgOk; simpa using h)]
  exact ⟨rfl, rfl, rfl, rfl, rfl⟩

section
variable {l S : List Ent} (FM : FairM l) (hp : S.Perm l) (hs : SortedE S) (q : AskV) (hl : l.length ≤ 1000000) (hk : ∀ x ∈ l, x.key.size ≤ maxLen) (hq : q.pre.size ≤ maxLen) (hqf : q.fr.size ≤ maxLen) (v : Value) (w : World) (hv : RowE w v l)
include FM hp hs hl hk hq hqf hv
omit hqf in
/-- page.Versions, whatever the question. -/
theorem pvers_pg : Calls Try.prog 17 #[v, .agg #[.string q.pre, .string q.fr, .int .i64 q.fid, .int .i64 q.most]] w (PgPost w (PgIs true q S) .i64) := by
  by_cases hm : 1 ≤ q.most ∧ q.most ≤ 1000
  · refine (vers_at FM hp hs q hl hk hq hm v w hv).mono ?_
    rintro e w' ⟨sv, h1, h2, h3, rfl⟩
    exact ⟨sv, _, _, _, _, _, rfl, h1, h2, h3, pgYes hm true S⟩
  · refine pvers_of q v w _ fun W hb _ => (cut_no q hm v _ _ W).mono ?_
    rintro e w' ⟨rfl, h3⟩
    exact ⟨_, [], _, _, _, _, rfl, .inl ⟨rfl, rfl⟩, (fun b o n c h => by cases h), h3, pgNo hm true S⟩
omit hqf in
/-- page.Objects likewise. -/
theorem pobjs_pg : Calls Try.prog 14 #[v, .agg #[.string q.pre, .string q.fr, .int .i64 q.fid, .int .i64 q.most]] w (PgPost w (PgIs false q S) .i64) := by
  by_cases hm : 1 ≤ q.most ∧ q.most ≤ 1000
  · refine (objs_at FM hp hs q hl hk hq hm v w hv).mono ?_
    rintro e w' ⟨sv, h1, h2, h3, rfl⟩
    exact ⟨sv, _, _, _, _, _, rfl, h1, h2, h3, pgYes hm false S⟩
  · refine (pobjs_of q v w (fun L mo ke ci er => L = [] ∧ mo = false ∧ ke = ⟨#[]⟩ ∧ er = 1) fun W hb _ => (cut_no q hm v _ _ W).mono ?_).mono ?_
    · rintro e w' ⟨rfl, h3⟩
      exact ⟨_, [], _, _, _, _, rfl, .inl ⟨rfl, rfl⟩, (fun b o n c h => by cases h), h3, rfl, rfl, rfl, rfl⟩
    · rintro e w' ⟨sv, L, mo, ke, ci, er, rfl, h1, h2, h3, rfl, _, rfl, rfl, rfl, rfl⟩
      exact ⟨sv, [], _, _, _, _, rfl, h1, h2, h3, pgNo hm false S⟩
/-- The document's pages, whatever the question. -/
theorem rpages_pg (vs : Bool) : Calls Try.prog 32 #[v, .agg #[.string q.pre, .string q.fr, .int .i64 q.fid, .int .i64 q.most], .bool vs] w (PgPost w (PgIs vs q S) .i64) := by
  by_cases hm : 1 ≤ q.most ∧ q.most ≤ 1000
  · refine Calls.mono (rpages_is vs q l hl hk hq hqf hm v w hv) ?_
    rintro e w' ⟨l', sv, hp', hs', h1, h2, h3, rfl⟩
    obtain rfl : l' = S := sortE_unique FM (List.Perm.refl l) hp' hs' hp hs
    exact ⟨sv, _, _, _, _, _, rfl, h1, h2, h3, pgYes hm vs _⟩
  · refine (rpages_no q hm v vs w).mono ?_
    rintro e w' ⟨rfl, h3⟩
    exact ⟨_, [], _, _, _, _, rfl, .inl ⟨rfl, rfl⟩, (fun b o n c h => by cases h), h3, pgNo hm vs S⟩
theorem rvers_pg : Calls Try.prog 18 #[v, .agg #[.string q.pre, .string q.fr, .int .i64 q.fid, .int .i64 q.most]] w (PgPost w (PgIs true q S) .i64) :=
  rvers_of q v w _ fun W hb => rpages_pg FM hp hs q hl hk hq hqf v W (hv.below hb) true
theorem robjs_pg : Calls Try.prog 16 #[v, .agg #[.string q.pre, .string q.fr, .int .i64 q.fid, .int .i64 q.most]] w (PgPost w (PgIs false q S) .i64) :=
  robjs_of q v w _ fun W hb => rpages_pg FM hp hs q hl hk hq hqf v W (hv.below hb) false
end
end Go.Proofs.Ytgaejaadjmcckaa
