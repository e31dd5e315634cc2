/- page.Objects and page.Versions: page.cut under the two literals. -/
import Derived.Test.YtgaejaadjmcckaaPCut
namespace Go.Proofs.Ytgaejaadjmcckaa
open Go.Shelf Go.RowKit Go.Lib Nam

theorem rowE_set {W : World} {sv : Value} {f : List Ent} {g : Nat} (h : RowE W sv f) (hne : ∀ b o n c, sv = .slice (some ⟨b, o, none⟩) n c → b ≠ g) (i : Nat) (u : Value) : RowE (W.setCell ⟨g, i, none⟩ u) sv f := by
  rcases h with h | ⟨b, o, cap, h1, h2, h3⟩
  · exact .inl h
  · refine .inr ⟨b, o, cap, h1, by simpa [World.setCell] using h2, fun j u' hj => ?_⟩
    rw [World.cell?_setCell_other _ _ _ _ (fun e => hne b o _ _ h1 (by injection e with e1 _; exact e1.symm))]
    exact h3 j u' hj

set_option maxHeartbeats 4000000 in
set_option maxRecDepth 100000 in
theorem versions_is (q : AskV) (l : List Ent) (hl : l.length ≤ 1000000) (hk : ∀ x ∈ l, x.key.size ≤ maxLen) (hq : q.pre.size ≤ maxLen) (hm : 1 ≤ q.most ∧ q.most ≤ 1000) (v : Value) (w : World) (hv : RowE w v l) :
    Calls Try.prog 17 #[v, .agg (encA q).toArray] w fun e w' =>
      ∃ l' sv, l'.Perm l ∧ SortedE l' ∧ RowE w' sv ((selE (verB q) q l').take q.most.toNat) ∧ (∀ b o n c, sv = .slice (some ⟨b, o, none⟩) n c → w.heap.size ≤ b) ∧ Below w.heap.size w w' ∧
        e = .returned (.tuple #[.agg #[sv, .bool (decide (q.most.toNat < (selE (verB q) q l').length)), .string (cutKey q.most.toNat (selE (verB q) q l')), .int .i64 (cutId q.most.toNat (selE (verB q) q l'))], .int .i64 0]) := by
  obtain ⟨w2, hw2⟩ : ∃ w2, (w.alloc (.cells (encA q).toArray 41)).alloc (.cells #[.slice none 0 0, .bool false, .string ⟨#[]⟩, .int .i64 0] 37) = w2 := ⟨_, rfl⟩
  have s2 : w2.heap.size = w.heap.size + 2 := by rw [← hw2]; simp
  have hb2 : Below w.heap.size w w2 := by
    rw [← hw2]
    exact ((Below.refl _ _).alloc (Nat.le_refl _) _).alloc (by simp) _
  have h20 : w2.heap[w.heap.size]? = some (.cells (encA q).toArray 41 (0, 0)) := by
    rw [← hw2, heap_alloc_old _ _ (by simp), heap_alloc_new]
  have h21 : w2.heap[w.heap.size + 1]? = some (.cells #[.slice none 0 0, .bool false, .string ⟨#[]⟩, .int .i64 0] 37 (0, 0)) := by
    rw [← hw2]
    have := heap_alloc_new (w.alloc (.cells (encA q).toArray 41)) (.cells #[.slice none 0 0, .bool false, .string ⟨#[]⟩, .int .i64 0] 37)
    simpa using this
  have hat : AskAt w2 w.heap.size q := ⟨by omega, (cells_of_heap h20).1 0 _ rfl, (cells_of_heap h20).1 1 _ rfl, (cells_of_heap h20).1 2 _ rfl, (cells_of_heap h20).1 3 _ rfl⟩
  have hc := cut_is (verB q) q w.heap.size 33 (enters_of Try.func33 (by kernel_rfl) rfl) (fun x W h => verB_is q x w.heap.size W h) l hl hk hq hm v w2 (hv.below hb2) hat
  have HC := Lib.hid hc; clear hc
  have HW := Lib.hid hw2; clear hw2
  clear hv hat h20
  obtain ⟨pre, fr, fid, most⟩ := q
  unfold encA at HC HW ⊢
  go_enter Try.func17, Try.ntmps17
  go_wp2_with fail
  rw [show (w.alloc (.cells #[.string pre, .string fr, .int .i64 fid, .int .i64 most] 41)).alloc (.cells #[.slice none 0 0, .bool false, .string ⟨#[]⟩, .int .i64 0] 37) = w2 from HW.out]
  refine HC.out.mono ?_
  rintro e w3 ⟨l', sv, hpm, hso, hrow, hfr, hb3, rfl⟩
  obtain ⟨F, hF⟩ : ∃ F, selE (verB ⟨pre, fr, fid, most⟩) ⟨pre, fr, fid, most⟩ l' = F := ⟨_, rfl⟩
  have h31 : w3.heap[w.heap.size + 1]? = some (.cells #[.slice none 0 0, .bool false, .string ⟨#[]⟩, .int .i64 0] 37 (0, 0)) := (hb3.block _ (by omega)).trans h21
  have r0 : w3.cell? ⟨w.heap.size + 1, 0, none⟩ = some (.slice none 0 0) := (cells_of_heap h31).1 0 _ rfl
  have r1 : w3.cell? ⟨w.heap.size + 1, 1, none⟩ = some (.bool false) := (cells_of_heap h31).1 1 _ rfl
  have r2 : w3.cell? ⟨w.heap.size + 1, 2, none⟩ = some (.string ⟨#[]⟩) := (cells_of_heap h31).1 2 _ rfl
  have r3 : w3.cell? ⟨w.heap.size + 1, 3, none⟩ = some (.int .i64 0) := (cells_of_heap h31).1 3 _ rfl
  have z0 : w3.frozen? ⟨w.heap.size + 1, 0, none⟩ = false := (cells_of_heap h31).2 0
  have z1 : w3.frozen? ⟨w.heap.size + 1, 1, none⟩ = false := (cells_of_heap h31).2 1
  have z2 : w3.frozen? ⟨w.heap.size + 1, 2, none⟩ = false := (cells_of_heap h31).2 2
  have z3 : w3.frozen? ⟨w.heap.size + 1, 3, none⟩ = false := (cells_of_heap h31).2 3
  obtain ⟨ps, cs, hsv, _⟩ := len_of_row hrow
  obtain ⟨nn, hnn⟩ : ∃ nn, ((selE (verB ⟨pre, fr, fid, most⟩) ⟨pre, fr, fid, most⟩ l').take (⟨pre, fr, fid, most⟩ : AskV).most.toNat).length = nn := ⟨_, rfl⟩
  rw [hnn] at hsv
  subst hsv
  rw [hF] at hrow ⊢
  obtain ⟨mo, hmo⟩ : ∃ b, decide ((⟨pre, fr, fid, most⟩ : AskV).most.toNat < F.length) = b := ⟨_, rfl⟩
  obtain ⟨ke, hke⟩ : ∃ b, cutKey (⟨pre, fr, fid, most⟩ : AskV).most.toNat F = b := ⟨_, rfl⟩
  obtain ⟨ci, hci⟩ : ∃ b, cutId (⟨pre, fr, fid, most⟩ : AskV).most.toNat F = b := ⟨_, rfl⟩
  rw [hmo, hke, hci]
  have H31 := Lib.hid h31; clear h31
  have HROW := Lib.hid hrow; clear hrow
  have HX := Lib.hid (And.intro hF (And.intro hmo (And.intro hke hci)))
  clear hF hmo hke hci hnn h21
  have HS2 := Lib.hid s2; clear s2
  go_wp2
  (try simp only [Exit.inBlock, Exit.then])
  have h61 := heap_set (heap_set (heap_set (heap_set H31.out 0 (.slice ps nn cs)) 1 (.bool mo)) 2 (.string ke)) 3 (.int .i64 ci)
  refine bodyPost_ret (ret_pair rfl _ _ (w.heap.size + 1) _ _ _ _ rfl h61 Try.underlying37 rfl (by kernel_rfl)) rfl ?_
  obtain ⟨hF, hmo, hke, hci⟩ := HX.out
  have hne : ∀ b o n c, Value.slice ps nn cs = .slice (some ⟨b, o, none⟩) n c → b ≠ w.heap.size + 1 := fun b o n c h => by
    have h1 := hfr b o n c h
    have h2 := HS2.out
    omega
  refine ⟨l', .slice ps nn cs, hpm, hso, ?_, fun b o n c h => ?_, ?_, ?_⟩
  · rw [hF]
    exact rowE_set (rowE_set (rowE_set (rowE_set HROW.out hne _ _) hne _ _) hne _ _) hne _ _
  · have h1 := hfr b o n c h
    have h2 := HS2.out
    omega
  · have h2 := HS2.out
    exact ((((hb2.trans (hb3.mono (by omega))).setCell (p := ⟨w.heap.size + 1, 0, none⟩) (Nat.le_succ _) _).setCell (p := ⟨w.heap.size + 1, 1, none⟩) (Nat.le_succ _) _).setCell (p := ⟨w.heap.size + 1, 2, none⟩) (Nat.le_succ _) _).setCell (p := ⟨w.heap.size + 1, 3, none⟩) (Nat.le_succ _) _
  · rw [hF, hmo, hke, hci]
    rfl
set_option maxHeartbeats 4000000 in
set_option maxRecDepth 100000 in
theorem objects_is (q : AskV) (l : List Ent) (hl : l.length ≤ 1000000) (hk : ∀ x ∈ l, x.key.size ≤ maxLen) (hq : q.pre.size ≤ maxLen) (hm : 1 ≤ q.most ∧ q.most ≤ 1000) (v : Value) (w : World) (hv : RowE w v l) :
    Calls Try.prog 14 #[v, .agg (encA q).toArray] w fun e w' =>
      ∃ l' sv, l'.Perm l ∧ SortedE l' ∧ RowE w' sv ((selE (objB q) q l').take q.most.toNat) ∧ (∀ b o n c, sv = .slice (some ⟨b, o, none⟩) n c → w.heap.size ≤ b) ∧ Below w.heap.size w w' ∧
        e = .returned (.tuple #[.agg #[sv, .bool (decide (q.most.toNat < (selE (objB q) q l').length)), .string (cutKey q.most.toNat (selE (objB q) q l')), .int .i64 0], .int .i64 0]) := by
  obtain ⟨w2, hw2⟩ : ∃ w2, (w.alloc (.cells (encA q).toArray 41)).alloc (.cells #[.slice none 0 0, .bool false, .string ⟨#[]⟩, .int .i64 0] 37) = w2 := ⟨_, rfl⟩
  have s2 : w2.heap.size = w.heap.size + 2 := by rw [← hw2]; simp
  have hb2 : Below w.heap.size w w2 := by
    rw [← hw2]
    exact ((Below.refl _ _).alloc (Nat.le_refl _) _).alloc (by simp) _
  have h20 : w2.heap[w.heap.size]? = some (.cells (encA q).toArray 41 (0, 0)) := by
    rw [← hw2, heap_alloc_old _ _ (by simp), heap_alloc_new]
  have h21 : w2.heap[w.heap.size + 1]? = some (.cells #[.slice none 0 0, .bool false, .string ⟨#[]⟩, .int .i64 0] 37 (0, 0)) := by
    rw [← hw2]
    have := heap_alloc_new (w.alloc (.cells (encA q).toArray 41)) (.cells #[.slice none 0 0, .bool false, .string ⟨#[]⟩, .int .i64 0] 37)
    simpa using this
  have hat : AskAt w2 w.heap.size q := ⟨by omega, (cells_of_heap h20).1 0 _ rfl, (cells_of_heap h20).1 1 _ rfl, (cells_of_heap h20).1 2 _ rfl, (cells_of_heap h20).1 3 _ rfl⟩
  have hc := cut_is (objB q) q w.heap.size 30 (enters_of Try.func30 (by kernel_rfl) rfl) (fun x W h => objB_is q x w.heap.size W h) l hl hk hq hm v w2 (hv.below hb2) hat
  have HC := Lib.hid hc; clear hc
  have HW := Lib.hid hw2; clear hw2
  clear hv hat h20
  obtain ⟨pre, fr, fid, most⟩ := q
  unfold encA at HC HW ⊢
  go_enter Try.func14, Try.ntmps14
  go_wp2_with fail
  rw [show (w.alloc (.cells #[.string pre, .string fr, .int .i64 fid, .int .i64 most] 41)).alloc (.cells #[.slice none 0 0, .bool false, .string ⟨#[]⟩, .int .i64 0] 37) = w2 from HW.out]
  refine HC.out.mono ?_
  rintro e w3 ⟨l', sv, hpm, hso, hrow, hfr, hb3, rfl⟩
  obtain ⟨F, hF⟩ : ∃ F, selE (objB ⟨pre, fr, fid, most⟩) ⟨pre, fr, fid, most⟩ l' = F := ⟨_, rfl⟩
  have h31 : w3.heap[w.heap.size + 1]? = some (.cells #[.slice none 0 0, .bool false, .string ⟨#[]⟩, .int .i64 0] 37 (0, 0)) := (hb3.block _ (by omega)).trans h21
  have hlt3 : w.heap.size + 1 < w3.heap.size := by have := hb3.size; omega
  obtain ⟨ps, cs, hsv, _⟩ := len_of_row hrow
  obtain ⟨nn, hnn⟩ : ∃ nn, ((selE (objB ⟨pre, fr, fid, most⟩) ⟨pre, fr, fid, most⟩ l').take (⟨pre, fr, fid, most⟩ : AskV).most.toNat).length = nn := ⟨_, rfl⟩
  rw [hnn] at hsv
  subst hsv
  rw [hF] at hrow ⊢
  obtain ⟨mo, hmo⟩ : ∃ b, decide ((⟨pre, fr, fid, most⟩ : AskV).most.toNat < F.length) = b := ⟨_, rfl⟩
  obtain ⟨ke, hke⟩ : ∃ b, cutKey (⟨pre, fr, fid, most⟩ : AskV).most.toNat F = b := ⟨_, rfl⟩
  obtain ⟨ci, hci⟩ : ∃ b, cutId (⟨pre, fr, fid, most⟩ : AskV).most.toNat F = b := ⟨_, rfl⟩
  rw [hmo, hke, hci]
  have H31 := Lib.hid h31; clear h31
  have HROW := Lib.hid hrow; clear hrow
  have HX := Lib.hid (And.intro hF (And.intro hmo (And.intro hke hci)))
  clear hF hmo hke hci hnn h21
  have HS2 := Lib.hid s2; clear s2
  go_upto_region 3 with (fail)
  obtain ⟨W5, hW5⟩ : ∃ W5, w3.alloc (.cells #[.slice ps nn cs, .bool mo, .string ke, .int .i64 0] 37) = W5 := ⟨_, rfl⟩
  rw [hW5]
  have h35 : W5.heap[w.heap.size + 1]? = some (.cells #[.slice none 0 0, .bool false, .string ⟨#[]⟩, .int .i64 0] 37 (0, 0)) := by rw [← hW5, heap_alloc_old _ _ hlt3]; exact H31.out
  have h55 : W5.heap[w3.heap.size]? = some (.cells #[.slice ps nn cs, .bool mo, .string ke, .int .i64 0] 37 (0, 0)) := by rw [← hW5]; exact heap_alloc_new w3 _
  have hb5 : Below w3.heap.size w3 W5 := by rw [← hW5]; exact (Below.refl _ _).alloc (Nat.le_refl _) _
  have hrow5 : RowE W5 (.slice ps nn cs) (F.take (⟨pre, fr, fid, most⟩ : AskV).most.toNat) := HROW.out.below hb5
  have r0 : W5.cell? ⟨w.heap.size + 1, 0, none⟩ = some (.slice none 0 0) := (cells_of_heap h35).1 0 _ rfl
  have r1 : W5.cell? ⟨w.heap.size + 1, 1, none⟩ = some (.bool false) := (cells_of_heap h35).1 1 _ rfl
  have r2 : W5.cell? ⟨w.heap.size + 1, 2, none⟩ = some (.string ⟨#[]⟩) := (cells_of_heap h35).1 2 _ rfl
  have r3 : W5.cell? ⟨w.heap.size + 1, 3, none⟩ = some (.int .i64 0) := (cells_of_heap h35).1 3 _ rfl
  have z0 : W5.frozen? ⟨w.heap.size + 1, 0, none⟩ = false := (cells_of_heap h35).2 0
  have z1 : W5.frozen? ⟨w.heap.size + 1, 1, none⟩ = false := (cells_of_heap h35).2 1
  have z2 : W5.frozen? ⟨w.heap.size + 1, 2, none⟩ = false := (cells_of_heap h35).2 2
  have z3 : W5.frozen? ⟨w.heap.size + 1, 3, none⟩ = false := (cells_of_heap h35).2 3
  have y0 : W5.cell? ⟨w3.heap.size, 0, none⟩ = some (.slice ps nn cs) := (cells_of_heap h55).1 0 _ rfl
  have y1 : W5.cell? ⟨w3.heap.size, 1, none⟩ = some (.bool mo) := (cells_of_heap h55).1 1 _ rfl
  have y2 : W5.cell? ⟨w3.heap.size, 2, none⟩ = some (.string ke) := (cells_of_heap h55).1 2 _ rfl
  have y3 : W5.cell? ⟨w3.heap.size, 3, none⟩ = some (.int .i64 0) := (cells_of_heap h55).1 3 _ rfl
  clear hW5
  have H35 := Lib.hid h35; clear h35 h55
  go_wp2
  (try simp only [Exit.inBlock, Exit.then])
  have h61 := heap_set (heap_set (heap_set (heap_set H35.out 0 (.slice ps nn cs)) 1 (.bool mo)) 2 (.string ke)) 3 (.int .i64 0)
  refine bodyPost_ret (ret_pair rfl _ _ (w.heap.size + 1) _ _ _ _ rfl h61 Try.underlying37 rfl (by kernel_rfl)) rfl ?_
  obtain ⟨hF, hmo, hke, hci⟩ := HX.out
  have hne : ∀ b o n c, Value.slice ps nn cs = .slice (some ⟨b, o, none⟩) n c → b ≠ w.heap.size + 1 := fun b o n c h => by
    have h1 := hfr b o n c h
    have h2 := HS2.out
    omega
  refine ⟨l', hpm, hso, .slice ps nn cs, ?_, fun b o n c h => ?_, ?_, ?_⟩
  · rw [hF]
    exact rowE_set (rowE_set (rowE_set (rowE_set hrow5 hne _ _) hne _ _) hne _ _) hne _ _
  · have h1 := hfr b o n c h
    have h2 := HS2.out
    omega
  · have h2 := HS2.out
    have hb25 : Below w.heap.size w W5 := (hb2.trans (hb3.mono (by omega))).trans (hb5.mono (by omega))
    exact (((hb25.setCell (p := ⟨w.heap.size + 1, 0, none⟩) (Nat.le_succ _) _).setCell (p := ⟨w.heap.size + 1, 1, none⟩) (Nat.le_succ _) _).setCell (p := ⟨w.heap.size + 1, 2, none⟩) (Nat.le_succ _) _).setCell (p := ⟨w.heap.size + 1, 3, none⟩) (Nat.le_succ _) _
  · rw [hF, hmo, hke]
    rfl
end Go.Proofs.Ytgaejaadjmcckaa
