/- What the clock's functions compute: contracts of package clock and of the reference's clock. -/
import Derived.Test.YtnjcbeinfjbkdaaRows
import Derived.WalkKit
import Derived.ProofKit
import Derived.OpenShut
import Derived.Lib.Hide
import Derived.Test.YtnjcbeinfjbkdaaNum
import Derived.Deep.QuietTactic
import Derived.BigQuiet
namespace Go.Proofs.Ytnjcbeinfjbkdaa
open Go.RowKit

set_option maxHeartbeats 400000 in
theorem join_yes (b c : Int) (w : World) (hb : 1 ≤ b) (hb' : b ≤ 32767) (hc : 1 ≤ c) (hc' : c ≤ 65535) :
    Calls Try.prog 14 #[.int .i64 b, .int .i64 c] w fun e w' => e = .returned (.tuple #[.int .i64 (b * 65536 + c), .bool true]) ∧ w = w' := by
  go_enter Try.func14, Try.ntmps14
  go_wp2
  go_ret2
  have ho := or_low b c (by omega) hb' (by omega) hc'
  exact ⟨congrArg (fun x => Ending.returned (Value.tuple #[Value.int IntKind.i64 x, Value.bool true])) ho, rfl⟩

set_option maxHeartbeats 400000 in
theorem join_no (b c : Int) (w : World) (h : ¬ (1 ≤ b ∧ b ≤ 32767 ∧ 1 ≤ c ∧ c ≤ 65535)) :
    Calls Try.prog 14 #[.int .i64 b, .int .i64 c] w fun e w' => e = .returned (.tuple #[.int .i64 0, .bool false]) ∧ w = w' := by
  go_enter Try.func14, Try.ntmps14
  go_wp2
  all_goals
    go_ret2
    exact ⟨rfl, rfl⟩

set_option maxHeartbeats 400000 in
theorem rjoin_yes (b c : Int) (w : World) (hb : 1 ≤ b) (hb' : b ≤ 32767) (hc : 1 ≤ c) (hc' : c ≤ 65535) :
    Calls Try.prog 13 #[.int .i64 b, .int .i64 c] w fun e w' => e = .returned (.tuple #[.int .i64 (b * 65536 + c), .bool true]) ∧ w = w' := by
  go_enter Try.func13, Try.ntmps13
  go_wp2
  go_ret2
  exact ⟨rfl, rfl⟩

set_option maxHeartbeats 400000 in
theorem rjoin_no (b c : Int) (w : World) (h : ¬ (1 ≤ b ∧ b ≤ 32767 ∧ 1 ≤ c ∧ c ≤ 65535)) :
    Calls Try.prog 13 #[.int .i64 b, .int .i64 c] w fun e w' => e = .returned (.tuple #[.int .i64 0, .bool false]) ∧ w = w' := by
  go_enter Try.func13, Try.ntmps13
  go_wp2
  all_goals
    go_ret2
    exact ⟨rfl, rfl⟩

set_option maxHeartbeats 400000 in
theorem new_yes (b : Int) (w : World) (hb : 1 ≤ b) (hb' : b ≤ 32767) :
    Calls Try.prog 10 #[.int .i64 b] w fun e w' => e = .returned (.tuple #[.pointer (some ⟨w.heap.size, 0, none⟩), .int .i64 0]) ∧ w' = w.alloc (.cells #[.int .i64 b, .int .i64 0] 67) := by
  go_enter Try.func10, Try.ntmps10
  go_wp2
  go_ret2
  exact ⟨rfl, rfl⟩

set_option maxHeartbeats 400000 in
theorem new_no (b : Int) (w : World) (h : ¬ (1 ≤ b ∧ b ≤ 32767)) :
    Calls Try.prog 10 #[.int .i64 b] w fun e w' => e = .returned (.tuple #[.pointer none, .int .i64 1]) ∧ w' = w := by
  go_enter Try.func10, Try.ntmps10
  go_wp2
  all_goals
    go_ret2
    exact ⟨rfl, rfl⟩

set_option maxHeartbeats 400000 in
theorem next_yes (k : Nat) (b c : Int) (w : World) (hb : 1 ≤ b) (hb' : b ≤ 32767) (hc : 0 ≤ c) (hc' : c ≤ 65534)
    (h0 : w.cell? ⟨k, 0, none⟩ = some (.int .i64 b)) (h1 : w.cell? ⟨k, 1, none⟩ = some (.int .i64 c)) (hf : w.frozen? ⟨k, 1, none⟩ = false) :
    Calls Try.prog 11 #[.pointer (some ⟨k, 0, none⟩)] w fun e w' => e = .returned (.tuple #[.int .i64 (b * 65536 + (c + 1)), .bool true]) ∧ ∃ n, w' = (w.drewN n).setCell ⟨k, 1, none⟩ (.int .i64 (c + 1)) := by
  have e1 : IntKind.i64.wrap (c + 1) = c + 1 := IntWalk.i64_in _ (by omega)
  go_enter Try.func11, Try.ntmps11
  go_wp2
  go_quiet ((go_at_call 14; exact quiet_eq (join_yes _ _ _ hb hb' (by omega) (by omega))))
  go_wp2
  go_ret2
  exact ⟨rfl, nq, rfl⟩

set_option maxHeartbeats 400000 in
theorem next_no (k : Nat) (b c : Int) (w : World) (hb : 1 ≤ b) (hb' : b ≤ 32767) (hc : 65535 ≤ c) (hc' : c ≤ 65535)
    (h0 : w.cell? ⟨k, 0, none⟩ = some (.int .i64 b)) (h1 : w.cell? ⟨k, 1, none⟩ = some (.int .i64 c)) :
    Calls Try.prog 11 #[.pointer (some ⟨k, 0, none⟩)] w fun e w' => e = .returned (.tuple #[.int .i64 0, .bool false]) ∧ ∃ n, w' = w.drewN n := by
  have e1 : IntKind.i64.wrap (c + 1) = c + 1 := IntWalk.i64_in _ (by omega)
  go_enter Try.func11, Try.ntmps11
  go_wp2
  go_quiet ((go_at_call 14; exact quiet_eq (join_no _ _ _ (by omega))))
  go_wp2
  go_ret2
  exact ⟨rfl, nq, rfl⟩

set_option maxHeartbeats 400000 in
theorem boot_is (k : Nat) (b : Int) (w : World) (h0 : w.cell? ⟨k, 0, none⟩ = some (.int .i64 b)) :
    Calls Try.prog 32 #[.pointer (some ⟨k, 0, none⟩)] w fun e w' => e = .returned (.int .i64 b) ∧ w = w' := by
  go_enter Try.func32, Try.ntmps32
  go_wp2
  go_ret
  exact ⟨rfl, rfl⟩

set_option maxHeartbeats 400000 in
theorem given_is (k : Nat) (c : Int) (w : World) (h1 : w.cell? ⟨k, 1, none⟩ = some (.int .i64 c)) :
    Calls Try.prog 33 #[.pointer (some ⟨k, 0, none⟩)] w fun e w' => e = .returned (.int .i64 c) ∧ w = w' := by
  go_enter Try.func33, Try.ntmps33
  go_wp2
  go_ret
  exact ⟨rfl, rfl⟩

/-- What Last answers: 0 ahead of the first number. -/
def lastOf (b c : Int) : Int := if c < 1 then 0 else b * 65536 + c

set_option maxHeartbeats 400000 in
theorem last_is (k : Nat) (b c : Int) (w : World) (hb : 1 ≤ b) (hb' : b ≤ 32767) (hc : 0 ≤ c) (hc' : c ≤ 65535)
    (h0 : w.cell? ⟨k, 0, none⟩ = some (.int .i64 b)) (h1 : w.cell? ⟨k, 1, none⟩ = some (.int .i64 c)) :
    Calls Try.prog 12 #[.pointer (some ⟨k, 0, none⟩)] w fun e w' => e = .returned (.int .i64 (lastOf b c)) ∧ w = w' := by
  by_cases hz : c < 1
  · have hr : lastOf b c = 0 := by unfold lastOf; rw [if_pos hz]
    rw [hr]; clear hr
    go_enter Try.func12, Try.ntmps12
    go_wp2_with (first
      | (go_at_call 32; refine (boot_is k b _ h0).mono ?_; rintro e w' ⟨rfl, rfl⟩)
      | (go_at_call 33; refine (given_is k c _ h1).mono ?_; rintro e w' ⟨rfl, rfl⟩)
      | (go_at_call 14; refine (join_no _ _ _ (by omega)).mono ?_; rintro e w' ⟨rfl, rfl⟩))
    go_ret
    exact ⟨rfl, rfl⟩
  · have hr : lastOf b c = b * 65536 + c := by unfold lastOf; rw [if_neg hz]
    rw [hr]; clear hr
    go_enter Try.func12, Try.ntmps12
    go_wp2_with (first
      | (go_at_call 32; refine (boot_is k b _ h0).mono ?_; rintro e w' ⟨rfl, rfl⟩)
      | (go_at_call 33; refine (given_is k c _ h1).mono ?_; rintro e w' ⟨rfl, rfl⟩)
      | (go_at_call 14; refine (join_yes _ _ _ hb hb' (by omega) hc').mono ?_; rintro e w' ⟨rfl, rfl⟩))
    go_ret
    exact ⟨rfl, rfl⟩

set_option maxHeartbeats 400000 in
theorem awake_is (w : World) : Calls Try.prog 9 #[] w fun e w' => e = .returned (.bool true) ∧ Below w.heap.size w w' := by
  go_enter Try.func9, Try.ntmps9
  go_wp2_with fail
  refine (new_yes 1 _ (by omega) (by omega)).mono ?_
  rintro e w' ⟨rfl, rfl⟩
  go_wp2_with fail
  refine (next_yes w.heap.size 1 0 _ (by omega) (by omega) (by omega) (by omega) (by go_cell) (by go_cell) (by simp [go_sem])).mono ?_
  rintro e w' ⟨rfl, n, rfl⟩
  go_wp2_with fail
  refine (next_yes w.heap.size 1 1 _ (by omega) (by omega) (by omega) (by omega) (by go_cell) (by go_cell) (by simp [go_sem])).mono ?_
  rintro e w' ⟨rfl, n2, rfl⟩
  go_wp2_with fail
  refine (last_is w.heap.size 1 2 _ (by omega) (by omega) (by omega) (by omega) (by go_cell) (by go_cell)).mono ?_
  rintro e w' ⟨rfl, rfl⟩
  have hl : lastOf 1 2 = 65538 := by decide
  go_wp2_with fail
  refine (boot_is w.heap.size 1 _ (by go_cell)).mono ?_
  rintro e w' ⟨rfl, rfl⟩
  go_wp2
  go_ret
  refine ⟨rfl, ?_⟩
  exact (((((Below.refl _ _).alloc (Nat.le_refl _) _).drewN n).setCell (by simp) _).drewN n2).setCell (by simp) _
end Go.Proofs.Ytnjcbeinfjbkdaa
