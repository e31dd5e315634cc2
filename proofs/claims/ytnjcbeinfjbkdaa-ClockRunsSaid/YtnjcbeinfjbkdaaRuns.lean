/- ClockRuns: a clock gives each number once, one more each time; a later boot's are all above an earlier one's. No condition. -/
import Derived.Test.YtnjcbeinfjbkdaaClk
import Derived.Handy
import Derived.Test.YtnjcbeinfjbkdaaLaw
namespace Go.Proofs.Ytnjcbeinfjbkdaa.clockRuns
open Go.ChangeShapes Go.WideShapes Go.ChangeAt Go.RowKit

set_option maxHeartbeats 1000000 in
theorem walk (a0 : Int) (w0 : (Lit.int .u16 a0).wf = true) (a1 : Int) (w1 : (Lit.int .u8 a1).wf = true) (w : World) :
    Calls Try.prog 3 #[.int .u16 a0, .int .u8 a1] w fun e w' => e = .returned (.bool true) ∧ Below w.heap.size w w' := by
  obtain ⟨h0, h0'⟩ := wf_u16 w0
  obtain ⟨h1, h1'⟩ := wf_u8 w1
  have e0 : IntKind.i64.wrap a0 = a0 := IntWalk.i64_in _ (by omega)
  have e1 : IntKind.i64.wrap a1 = a1 := IntWalk.i64_in _ (by omega)
  have g0 : 0 ≤ a0 % 32766 := by omega
  have g1 : a0 % 32766 < 32766 := by omega
  generalize hk : a0 % 32766 = k at g0 g1
  have Hk := Lib.hid hk; clear hk
  go_enter Try.func3, Try.ntmps3
  go_wp2_with fail
  refine (awake_is _).mono ?_
  rintro e w2 ⟨rfl, hb⟩
  go_wp2_with fail
  rw [Hk.out]
  refine (new_yes _ _ (by omega) (by omega)).mono ?_
  rintro e w3 ⟨rfl, rfl⟩
  go_wp2_with fail
  refine (new_yes _ _ (by omega) (by omega)).mono ?_
  rintro e w4 ⟨rfl, rfl⟩
  go_wp2_with fail
  refine (next_yes (w2.heap.size + 1) (1 + k + 1) 0 _ (by omega) (by omega) (by omega) (by omega) (by go_cell) (by go_cell) (by simp [go_sem])).mono ?_
  rintro e w' ⟨rfl, n, rfl⟩
  go_wp2_with fail
  refine (last_is w2.heap.size (1 + k) 0 _ (by omega) (by omega) (by omega) (by omega) (by go_cell) (by go_cell)).mono ?_
  rintro e w' ⟨rfl, rfl⟩
  have hl : lastOf (1 + k) 0 = 0 := by unfold lastOf; rw [if_pos (by decide)]
  go_wp2_with fail
  clear hl
  go_loopw [12] (fun i wr => ∃ q : Int, 0 ≤ q ∧ q ≤ a1 ∧ i = .int .i64 (q + 1) ∧ wr.cell? ⟨w2.heap.size, 0, none⟩ = some (.int .i64 (1 + k)) ∧ wr.cell? ⟨w2.heap.size, 1, none⟩ = some (.int .i64 q) ∧ wr.frozen? ⟨w2.heap.size, 1, none⟩ = false ∧ Below w.heap.size w wr) (fun i _ => (a1 + 1 - intOf i).toNat)
  case atStart =>
    refine ⟨0, by omega, h1, rfl, by go_cell, by go_cell, by simp [go_sem], ?_⟩
    have hz := hb.size
    exact ((((hb.alloc hz _).alloc (by simp; omega) _).drewN n).setCell (by simp; omega) _)
  case round =>
    obtain ⟨q, hq0, hq1, rfl, c0, c1, cf, hbr⟩ := hrel
    have hz := hb.size
    have e5 : IntKind.i64.wrap (q + 1) = q + 1 := IntWalk.i64_in _ (by omega)
    have e6 : IntKind.i64.wrap (q + 1 + 1) = q + 1 + 1 := IntWalk.i64_in _ (by omega)
    by_cases hlt : q < a1
    · have hl : lastOf (1 + k) (q + 1) = (1 + k) * 65536 + (q + 1) := by unfold lastOf; rw [if_neg (by omega)]
      go_wp2_with fail
      refine (next_yes w2.heap.size (1 + k) q _ (by omega) (by omega) (by omega) (by omega) c0 c1 cf).mono ?_
      rintro e w' ⟨rfl, n, rfl⟩
      go_wp2_with fail
      refine (rjoin_yes _ _ _ (by omega) (by omega) (by omega) (by omega)).mono ?_
      rintro e w' ⟨rfl, rfl⟩
      go_wp2_with fail
      refine (last_is w2.heap.size (1 + k) (q + 1) _ (by omega) (by omega) (by omega) (by omega) (by go_cell) (by go_cell)).mono ?_
      rintro e w' ⟨rfl, rfl⟩
      have Hl := Lib.hid hl; clear hl
      rw [Hl.out]
      go_wp2
      exact ⟨⟨q + 1, by omega, by omega, rfl, by go_cell, by go_cell, by simp [go_sem, cf], (hbr.drewN n).setCell (by simp; omega) _⟩, by simp [intOf]; omega⟩
    · go_wp2
      go_ret
      exact ⟨rfl, hbr⟩
theorem own : ownKnob Try.prog.godebug = none := by kernel_rfl
theorem laidOut : laidOutB Try.prog = true := by kernel_rfl
set_option maxRecDepth 100000 in
theorem lifted (os : Os) (started : os.Started) (H : Type) (enc : TypeId × Value → H) :
    ReturnsInHanded {} Try.checked os 3 .any (Rows.clockRunsSpec.pre6 enc Try.prog Try.f3 Rows.clockRunsRow.domain false) (Rows.clockRunsSpec.post enc Try.prog Try.f3 false true false false) := by
  refine returnsInHanded_of_change (C := Try.checked) own started (by kernel_rfl) Try.func3
    (ChangeSpec.witness6 (enc := enc) (C := Try.checked) false ⟨#[], #[.int .u16 0, .int .u8 0], []⟩ 8 (by kernel_rfl) (by kernel_rfl) (by kernel_rfl) (by kernel_rfl)) ?_
  intro W base args ds gs before hval0 hW hcnd _
  have hval : ∀ (j : Nat) t v, Try.f3.params[j]? = some t → args[j]? = some v → Value.okWide Try.prog W .any base t v := hval0
  have hW' := hW
  obtain ⟨p, q, hA0, hV, rfl, hfz, hnd⟩ := hW
  have hA : DataW.TrodAll enc Try.prog W 0 (fun _ => true) true Try.f3.params.toList args.toList ds p := hA0
  rw [Try.params3] at hA hval
  obtain ⟨v0, vs0, d0, ds0, p0, q0, hargs, rfl, rfl, h0, r0⟩ := trodAll_cons hA
  obtain ⟨v1, vs1, d1, ds1, p1, q1, rfl, rfl, rfl, h1, r1⟩ := trodAll_cons r0
  obtain ⟨rfl, rfl, rfl⟩ := trodAll_nil r1
  obtain rfl : args = #[v0, v1] := by cases args; simp_all
  obtain ⟨rfl, rfl⟩ := trodVars_none hV
  obtain ⟨a0, rfl, rfl, rfl, w0⟩ := open_int Try.underlying22 (hval 0 22 v0 rfl rfl) h0
  obtain ⟨a1, rfl, rfl, rfl, w1⟩ := open_int Try.underlying5 (hval 1 5 v1 rfl rfl) h1
  clear hA0 hval0
  simp only [List.append_nil] at hW'
  refine (walk a0 w0 a1 w1 W).mono fun e W' ⟨he, hg⟩ => ?_
  subst he
  exact ⟨_, rfl, law_post laidOut (of_decide_eq_true (by kernel_rfl)) Try.underlying4 rfl rfl rfl rfl rfl hW' hg⟩

theorem over : Rows.clockRunsRow.holds Try.pinned (OpenSpec.ofChange Rows.clockRunsSpec) :=
  OpenClaim.holds_of_wide 3 Try.f3 rfl rfl rfl rfl rfl rfl rfl ⟨rfl, rfl, rfl, rfl, rfl⟩ rfl rfl rfl rfl rfl (by kernel_rfl) Try.func3 (by kernel_rfl)
    (of_decide_eq_true (by kernel_rfl)) (by unfold Func.isWrapper; first | (rw [if_pos (by decide +kernel)]; kernel_rfl) | (rw [if_neg (by decide +kernel)]; exact ⟨rfl, rfl⟩))
    (fun os started H enc _ => lifted os started H enc)

/-- ████ THE STATEMENT ████ -/
theorem proved : Rows.ClockRunsSaid :=
  over
#print axioms proved
end Go.Proofs.Ytnjcbeinfjbkdaa.clockRuns
