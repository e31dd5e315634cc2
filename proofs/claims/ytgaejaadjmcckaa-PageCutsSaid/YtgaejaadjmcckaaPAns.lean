/- Layer 8's small words: a question as the program has it, an answer as the model has it, the same answers. -/
import Derived.Test.YtgaejaadjmcckaaPRVer
import Derived.Test.YtgaejaadjmcckaaPApp
import Derived.Deep.RegionLaw
import Derived.Deep.RegionHeldLaw
namespace Go.Proofs.Ytgaejaadjmcckaa
open Go.Shelf Go.RowKit Go.Lib Nam

theorem own_form {w : World} {base n : Nat} {e : TypeId} {size : Nat} {v : Value} {xs : List Value} (h : w.ownsRow base e size v n xs) : ∃ p c, v = .slice p n c := by
  rcases h.2 with ⟨h1, h2⟩ | ⟨g, cap, cur, h1, _⟩
  · exact ⟨none, 0, by rw [h1, h2]⟩
  · exact ⟨_, _, h1⟩
theorem results_cell1 {fn : Func} {p : Tmp} {ty : TypeId} (h : fn.results = #[.cell p ty]) (tmps : Array Value) (P : Program) (w : World) :
    (results fn tmps).run P w = ((asAddr (tmps.getD p undef)).run P w).andThen fun a w₁ => (loadVar ty a).run P w₁ := by
  simp only [results, h]
  simp [Sem.run_bind, Result.andThen]
theorem ret_agg {P : Program} {fn : Func} {p : Tmp} {ty : TypeId} (h : fn.results = #[.cell p ty]) (tmps : Array Value) (w : World) (g : Nat) (t : TypeId) (cs : Array Value) (fr : Nat × Nat) (d : TypeDesc)
    (hp : tmps.getD p undef = .pointer (some ⟨g, 0, none⟩)) (hg : w.heap[g]? = some (.cells cs t fr))
    (hu : P.underlying ty = some d) (hd : (match d with | .struct _ | .array _ _ => true | _ => false) = true) (hi : (P.info? ty).map (·.size) = some cs.size) :
    (results fn tmps).run P w = .ok (.agg cs) w := by
  rw [results_cell1 h, hp]
  simp [asAddr, run_loadVar_row w g t ty cs fr d hg hu hd hi]

set_option maxHeartbeats 1000000 in
theorem ask_is (a b : ByteArray) (c d : Int) (w : World) :
    Calls Try.prog 15 #[.agg #[.string a, .string b, .int .i64 c, .int .i64 d]] w fun e w' => e = .returned (.agg #[.string a, .string b, .int .i64 c, .int .i64 d]) ∧ Below w.heap.size w w' := by
  have h31 : ∀ o, ((w.alloc o).alloc (.cells #[.string a, .string b, .int .i64 c, .int .i64 d] 41)).heap[w.heap.size + 1]? = some (.cells #[.string a, .string b, .int .i64 c, .int .i64 d] 41 (0, 0)) := fun o => by
    have := heap_alloc_new (w.alloc o) (.cells #[.string a, .string b, .int .i64 c, .int .i64 d] 41)
    simpa using this
  have H31 := Lib.hid h31; clear h31
  go_enter Try.func15, Try.ntmps15
  go_wp2
  refine bodyPost_ret (ret_agg rfl _ _ (w.heap.size + 1) _ _ _ _ rfl (H31.out _) Try.underlying41 rfl (by kernel_rfl)) rfl ?_
  exact ⟨rfl, ((Below.refl _ _).alloc (Nat.le_refl _) _).alloc (by simp) _⟩

set_option maxHeartbeats 1000000 in
theorem answer_is (sv : Value) (L : List Ent) (mo : Bool) (ke : ByteArray) (ci : Int) (hL : L.length ≤ 1000000) (w : World) (h : RowE w sv L) :
    Calls Try.prog 20 #[.agg #[sv, .bool mo, .string ke, .int .i64 ci]] w fun e w' => ∃ sv', e = .returned (.agg #[sv', .bool mo, .string ke, .int .i64 ci]) ∧ RowE w' sv' L ∧ Below w.heap.size w w' := by
  obtain ⟨p, c, rfl, -⟩ := len_of_row h
  have HR := Lib.hid h; clear h
  go_enter Try.func20, Try.ntmps20
  go_wp2_with fail
  obtain ⟨W2, hW2⟩ : ∃ W2, (w.alloc (.cells #[.slice p L.length c, .bool mo, .string ke, .int .i64 ci] 37)).alloc (.cells #[.slice none 0 0, .bool false, .string ⟨#[]⟩, .int .i64 0] 43) = W2 := ⟨_, rfl⟩
  rw [hW2]
  have s2 : W2.heap.size = w.heap.size + 2 := by rw [← hW2]; simp
  have hb2 : Below w.heap.size w W2 := by rw [← hW2]; exact ((Below.refl _ _).alloc (Nat.le_refl _) _).alloc (by simp) _
  have h20 : W2.heap[w.heap.size]? = some (.cells #[.slice p L.length c, .bool mo, .string ke, .int .i64 ci] 37 (0, 0)) := by rw [← hW2, heap_alloc_old _ _ (by simp), heap_alloc_new]
  have h21 : W2.heap[w.heap.size + 1]? = some (.cells #[.slice none 0 0, .bool false, .string ⟨#[]⟩, .int .i64 0] 43 (0, 0)) := by
    rw [← hW2]
    have := heap_alloc_new (w.alloc (.cells #[.slice p L.length c, .bool mo, .string ke, .int .i64 ci] 37)) (.cells #[.slice none 0 0, .bool false, .string ⟨#[]⟩, .int .i64 0] 43)
    simpa using this
  have k0 : W2.cell? ⟨w.heap.size, 0, none⟩ = some (.slice p L.length c) := (cells_of_heap h20).1 0 _ rfl
  have k1 : W2.cell? ⟨w.heap.size, 1, none⟩ = some (.bool mo) := (cells_of_heap h20).1 1 _ rfl
  have k2 : W2.cell? ⟨w.heap.size, 2, none⟩ = some (.string ke) := (cells_of_heap h20).1 2 _ rfl
  have k3 : W2.cell? ⟨w.heap.size, 3, none⟩ = some (.int .i64 ci) := (cells_of_heap h20).1 3 _ rfl
  have H21 := Lib.hid h21; clear h21
  have H20 := Lib.hid h20; clear h20
  have HS := Lib.hid s2
  have HB2 := Lib.hid hb2; clear hb2
  have HR2 := Lib.hid (show RowE W2.drew (.slice p L.length c) L from HR.out.below (HB2.out.drewN 1))
  clear hW2 s2
  go_region_held_law (fun w' => w'.cell? ⟨w.heap.size, 0, none⟩ = some (.slice p L.length c) ∧ w'.cell? ⟨w.heap.size, 1, none⟩ = some (.bool mo) ∧ w'.cell? ⟨w.heap.size, 2, none⟩ = some (.string ke) ∧ w'.cell? ⟨w.heap.size, 3, none⟩ = some (.int .i64 ci))
    (first | exact ⟨k0, k1, k2, k3⟩ | exact ⟨K0, K1, K2, K3⟩ | go_keep)
    ((refine step_append_rowE (xs := []) (base := W2.heap.size) (by rfl) (.const (.slice none 0 0)) (.tmp 4) (by rfl) (by rfl) ⟨rfl, .inl ⟨rfl, rfl⟩⟩ (by rfl) HR2.out (by simp; omega) (Nat.le_refl _) ?_; intro v1 wa hown1 hgr1 _; rw [List.nil_append] at hown1; obtain ⟨pv, cv, hv⟩ := own_form hown1; rw [hv] at hown1; rw [hv]; clear hv; have HB3 := Lib.hid (show Below W2.heap.size W2 wa from ((Below.refl _ _).drewN 1).grown hgr1 (Nat.le_refl _) (fun k hk => by cases hk)); have s2 := HS.out; have h2a : wa.heap[w.heap.size]? = some (.cells #[.slice p L.length c, .bool mo, .string ke, .int .i64 ci] 37 (0, 0)) := (HB3.out.block _ (by omega)).trans H20.out; have h3a : wa.heap[w.heap.size + 1]? = some (.cells #[.slice none 0 0, .bool false, .string ⟨#[]⟩, .int .i64 0] 43 (0, 0)) := (HB3.out.block _ (by omega)).trans H21.out; have K0 := (cells_of_heap h2a).1 0 _ rfl; have K1 := (cells_of_heap h2a).1 1 _ rfl; have K2 := (cells_of_heap h2a).1 2 _ rfl; have K3 := (cells_of_heap h2a).1 3 _ rfl; have r0 := (cells_of_heap h3a).1 0 _ rfl; have r1 := (cells_of_heap h3a).1 1 _ rfl; have r2 := (cells_of_heap h3a).1 2 _ rfl; have r3 := (cells_of_heap h3a).1 3 _ rfl; have z0 := (cells_of_heap h3a).2 0; have z1 := (cells_of_heap h3a).2 1; have z2 := (cells_of_heap h3a).2 2; have z3 := (cells_of_heap h3a).2 3; have HO := Lib.hid hown1; have H3A := Lib.hid h3a; clear hown1 hgr1 h2a h3a s2))
  all_goals
    go_wp2
    (try simp only [Exit.inBlock, Exit.then])
    have h61 := heap_set (heap_set (heap_set (heap_set H3A.out 0 (.slice pv L.length cv)) 1 (.bool mo)) 2 (.string ke)) 3 (.int .i64 ci)
    refine bodyPost_ret (ret_agg rfl _ _ (w.heap.size + 1) _ _ _ _ rfl h61 Try.underlying43 rfl (by kernel_rfl)) rfl ?_
    have hs := HS.out
    have hrow := rowE_own HO.out
    have hne : ∀ b o n c, Value.slice pv L.length cv = .slice (some ⟨b, o, none⟩) n c → b ≠ w.heap.size + 1 := fun b o n c h => by
      have h1 := hrow.2 b o n c h
      omega
    refine ⟨_, rfl, rowE_set (rowE_set (rowE_set (rowE_set hrow.1 hne _ _) hne _ _) hne _ _) hne _ _, ?_⟩
    exact ((((HB2.out.trans (HB3.out.mono (by omega))).setCell (p := ⟨w.heap.size + 1, 0, none⟩) (Nat.le_succ _) _).setCell (p := ⟨w.heap.size + 1, 1, none⟩) (Nat.le_succ _) _).setCell (p := ⟨w.heap.size + 1, 2, none⟩) (Nat.le_succ _) _).setCell (p := ⟨w.heap.size + 1, 3, none⟩) (Nat.le_succ _) _

set_option maxHeartbeats 4000000 in
set_option maxRecDepth 100000 in
/-- Two answers of the same parts are the same. -/
theorem sameans_yes (sv su : Value) (L : List Ent) (mo : Bool) (ke : ByteArray) (ci : Int) (hL : L.length ≤ 1000000) (w : World) (h : RowE w sv L) (h' : RowE w su L) :
    Calls Try.prog 19 #[.agg #[sv, .bool mo, .string ke, .int .i64 ci], .agg #[su, .bool mo, .string ke, .int .i64 ci]] w fun e w' => e = .returned (.bool true) ∧ Below w.heap.size w w' := by
  obtain ⟨p, c, rfl, hp⟩ := len_of_row h
  obtain ⟨p', c', rfl, hp'⟩ := len_of_row h'
  clear h h'
  have HP := Lib.hid hp; clear hp
  have HP' := Lib.hid hp'; clear hp'
  have b1 : (mo != mo) = false := by simp
  have b2 : (ke.toList != ke.toList) = false := by simp
  have b3 : (ci != ci) = false := by simp
  have b4 : ((L.length : Int) != (L.length : Int)) = false := by simp
  go_enter Try.func19, Try.ntmps19
  go_wp2_with fail
  obtain ⟨W2, hW2⟩ : ∃ W2, (w.alloc (.cells #[.slice p L.length c, .bool mo, .string ke, .int .i64 ci] 43)).alloc (.cells #[.slice p' L.length c', .bool mo, .string ke, .int .i64 ci] 43) = W2 := ⟨_, rfl⟩
  rw [hW2]
  have hb2 : Below w.heap.size w W2 := by rw [← hW2]; exact ((Below.refl _ _).alloc (Nat.le_refl _) _).alloc (by simp) _
  have k0 : W2.cell? ⟨w.heap.size, 0, none⟩ = some (.slice p L.length c) := by
    refine (cells_of_heap (t := 43) (cs := #[.slice p L.length c, .bool mo, .string ke, .int .i64 ci]) ?_).1 0 _ rfl
    rw [← hW2, heap_alloc_old _ _ (by simp), heap_alloc_new]
  have k1 : W2.cell? ⟨w.heap.size + 1, 0, none⟩ = some (.slice p' L.length c') := by
    refine (cells_of_heap (t := 43) (cs := #[.slice p' L.length c', .bool mo, .string ke, .int .i64 ci]) ?_).1 0 _ rfl
    rw [← hW2]
    have := heap_alloc_new (w.alloc (.cells #[.slice p L.length c, .bool mo, .string ke, .int .i64 ci] 43)) (.cells #[.slice p' L.length c', .bool mo, .string ke, .int .i64 ci] 43)
    simpa using this
  have HB2 := Lib.hid hb2; clear hb2 hW2
  go_loopw [5] (fun v wr => ∃ i q : Nat, v = .int .i64 i ∧ i ≤ L.length ∧ wr = W2.drewN q) (fun v _ => L.length - (intOf v).toNat)
  case atStart => exact ⟨0, 0, rfl, Nat.zero_le _, rfl⟩
  case round =>
    obtain ⟨i, q, rfl, hi, rfl⟩ := hrel
    by_cases hpi : i < L.length
    · have hpz : (i : Int) < (L.length : Int) := by omega
      obtain ⟨b, o, rfl, hbl, hc⟩ := HP.out (by omega)
      obtain ⟨b', o', rfl, hbl', hc'⟩ := HP'.out (by omega)
      obtain ⟨a0, a1, a2, a3, a4, a5⟩ := at_of (W := W2) (fun j u hj => by rw [HB2.out.cell (p := ⟨b, o + j, none⟩) hbl]; exact hc j u hj) i hpi
      obtain ⟨d0, d1, d2, d3, d4, d5⟩ := at_of (W := W2) (fun j u hj => by rw [HB2.out.cell (p := ⟨b', o' + j, none⟩) hbl']; exact hc' j u hj) i hpi
      clear hc hc'
      have nq := fun W => neqE L[i] L[i] W
      obtain ⟨x, hx⟩ : ∃ x, L[i] = x := ⟨_, rfl⟩
      rw [hx] at a0 a1 a2 a3 a4 a5 d0 d1 d2 d3 d4 d5 nq
      clear hx
      have hg := entGuard
      have nq2 : ∀ W : World, (binOp .neq 32 (.agg #[.string x.key, .int .i64 x.id, .bool x.mark, .int .i64 x.size, .int .u32 x.sum, .bool x.latest]) (.agg #[.string x.key, .int .i64 x.id, .bool x.mark, .int .i64 x.size, .int .u32 x.sum, .bool x.latest])).run Try.prog W = .ok (.bool false) W := fun W => by rw [nq W, decide_eq_true rfl]; rfl
      clear nq
      go_wp2_with fail
      go_quiet (fail)
      go_wp2
      go_roundw
      case rel => exact ⟨i + 1, q + nq, by go_num, by omega, by first | rfl | rw [World.drewN_drewN]⟩
      case measure => simp [intOf]; omega
    · have hpz : (L.length : Int) ≤ (i : Int) := by omega
      go_wp2
      go_ret
      exact ⟨rfl, HB2.out.drewN _⟩
end Go.Proofs.Ytgaejaadjmcckaa
