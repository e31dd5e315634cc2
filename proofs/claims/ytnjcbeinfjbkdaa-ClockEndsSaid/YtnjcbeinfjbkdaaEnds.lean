/- ClockEnds: a clock gives 65535 numbers, and none further. No condition. -/
import Derived.Test.YtnjcbeinfjbkdaaClk
import Derived.Test.YtnjcbeinfjbkdaaLaw
namespace Go.Proofs.Ytnjcbeinfjbkdaa.clockEnds
open Go.ChangeShapes Go.WideShapes Go.ChangeAt Go.RowKit

set_option maxHeartbeats 1000000 in
theorem walk (w : World) :
    Calls Try.prog 4 #[] w fun e w' => e = .returned (.bool true) ∧ Below w.heap.size w w' := by
  go_enter Try.func4, Try.ntmps4
  go_wp2_with fail
  refine (awake_is _).mono ?_
  rintro e w2 ⟨rfl, hb⟩
  have hz := hb.size
  go_wp2_with fail
  refine (new_yes 3 _ (by omega) (by omega)).mono ?_
  rintro e w3 ⟨rfl, rfl⟩
  go_wp2_with fail
  go_loopw [3] (fun i wr => ∃ q : Int, 0 ≤ q ∧ q ≤ 65535 ∧ i = .int .i64 (q + 1) ∧ wr.cell? ⟨w2.heap.size, 0, none⟩ = some (.int .i64 3) ∧ wr.cell? ⟨w2.heap.size, 1, none⟩ = some (.int .i64 q) ∧ wr.frozen? ⟨w2.heap.size, 1, none⟩ = false ∧ Below w.heap.size w wr) (fun i _ => (65536 - intOf i).toNat)
  case atStart =>
    exact ⟨0, by omega, by omega, rfl, by go_cell, by go_cell, by simp [go_sem], hb.alloc hz _⟩
  case round =>
    obtain ⟨q, hq0, hq1, rfl, c0, c1, cf, hbr⟩ := hrel
    have e5 : IntKind.i64.wrap (q + 1) = q + 1 := IntWalk.i64_in _ (by omega)
    have e6 : IntKind.i64.wrap (q + 1 + 1) = q + 1 + 1 := IntWalk.i64_in _ (by omega)
    by_cases hlt : q < 65535
    · have ht : ((196608 + (q + 1) : Int) != 196608 + (q + 1)) = false := by simp
      go_wp2_with fail
      refine (next_yes w2.heap.size 3 q _ (by omega) (by omega) (by omega) (by omega) c0 c1 cf).mono ?_
      rintro e w' ⟨rfl, n, rfl⟩
      go_wp2_with fail
      exact ⟨⟨q + 1, by omega, by omega, rfl, by go_cell, by go_cell, by simp [go_sem, cf], (hbr.drewN n).setCell (by simp; omega) _⟩, by simp [intOf]; omega⟩
    · have hl : lastOf 3 q = 262143 := by unfold lastOf; rw [if_neg (by omega)]; omega
      go_wp2_with fail
      refine (next_no w2.heap.size 3 q _ (by omega) (by omega) (by omega) (by omega) c0 c1).mono ?_
      rintro e w' ⟨rfl, n, rfl⟩
      go_wp2_with fail
      refine (next_no w2.heap.size 3 q _ (by omega) (by omega) (by omega) (by omega) (by go_cell) (by go_cell)).mono ?_
      rintro e w' ⟨rfl, n2, rfl⟩
      go_wp2_with fail
      refine (last_is w2.heap.size 3 q _ (by omega) (by omega) (by omega) (by omega) (by go_cell) (by go_cell)).mono ?_
      rintro e w' ⟨rfl, rfl⟩
      have Hl := Lib.hid hl; clear hl
      rw [Hl.out]
      go_wp2
      go_ret
      exact ⟨rfl, by exact hbr.drewN _⟩

theorem own : ownKnob Try.prog.godebug = none := by kernel_rfl
theorem laidOut : laidOutB Try.prog = true := by kernel_rfl
set_option maxRecDepth 100000 in
theorem lifted (os : Os) (started : os.Started) (H : Type) (enc : TypeId × Value → H) :
    ReturnsInHanded {} Try.checked os 4 .any (Rows.clockEndsSpec.pre6 enc Try.prog Try.f4 Rows.clockEndsRow.domain false) (Rows.clockEndsSpec.post enc Try.prog Try.f4 false true false false) := by
  refine returnsInHanded_of_change (C := Try.checked) own started (by kernel_rfl) Try.func4
    (ChangeSpec.witness6 (enc := enc) (C := Try.checked) false ⟨#[], #[], []⟩ 8 (by kernel_rfl) (by kernel_rfl) (by kernel_rfl) (by kernel_rfl)) ?_
  intro W base args ds gs before hval0 hW hcnd _
  have hval : ∀ (j : Nat) t v, Try.f4.params[j]? = some t → args[j]? = some v → Value.okWide Try.prog W .any base t v := hval0
  have hW' := hW
  obtain ⟨p, q, hA0, hV, rfl, hfz, hnd⟩ := hW
  have hA : DataW.TrodAll enc Try.prog W 0 (fun _ => true) true Try.f4.params.toList args.toList ds p := hA0
  rw [Try.params4] at hA hval
  obtain ⟨hargs, rfl, rfl⟩ := trodAll_nil hA
  obtain rfl : args = #[] := by cases args; simp_all
  obtain ⟨rfl, rfl⟩ := trodVars_none hV
  clear hA0 hval0
  simp only [List.append_nil] at hW'
  refine (walk W).mono fun e W' ⟨he, hg⟩ => ?_
  subst he
  exact ⟨_, rfl, law_post laidOut (of_decide_eq_true (by kernel_rfl)) Try.underlying4 rfl rfl rfl rfl rfl hW' hg⟩

theorem over : Rows.clockEndsRow.holds Try.pinned (OpenSpec.ofChange Rows.clockEndsSpec) :=
  OpenClaim.holds_of_wide 4 Try.f4 rfl rfl rfl rfl rfl rfl rfl ⟨rfl, rfl, rfl, rfl, rfl⟩ rfl rfl rfl rfl rfl (by kernel_rfl) Try.func4 (by kernel_rfl)
    (of_decide_eq_true (by kernel_rfl)) (by unfold Func.isWrapper; first | (rw [if_pos (by decide +kernel)]; kernel_rfl) | (rw [if_neg (by decide +kernel)]; exact ⟨rfl, rfl⟩))
    (fun os started H enc _ => lifted os started H enc)

/-- ████ THE STATEMENT ████ -/
theorem proved : Rows.ClockEndsSaid :=
  over
#print axioms proved
end Go.Proofs.Ytnjcbeinfjbkdaa.clockEnds
