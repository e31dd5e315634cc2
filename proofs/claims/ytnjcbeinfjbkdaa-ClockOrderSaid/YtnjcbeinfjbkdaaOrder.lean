/- ClockOrder: tags are in the order of their boots, and within a boot of their counts; each tag has one boot and one count. No condition. -/
import Derived.Test.YtnjcbeinfjbkdaaParts
import Derived.ChangeKeysEq
namespace Go.Proofs.Ytnjcbeinfjbkdaa.clockOrder
open Go.ChangeShapes Go.WideShapes Go.ChangeAt Go.RowKit

theorem eq_pair (a b c d : Int) (w : World) : (Op.equalIn 10000 39 (.agg #[.int .u16 a, .int .u16 b]) (.agg #[.int .u16 c, .int .u16 d])).run Try.prog w = .ok (a == c && b == d) w := by
  rw [show (10000 : Nat) = 9999 + 1 from rfl, run_equalIn_array (P := Try.prog) w 9999 #[.int .u16 a, .int .u16 b] #[.int .u16 c, .int .u16 d] Try.underlying39 rfl]
  have hc : Try.prog.cellsOf 22 = 1 := by kernel_rfl
  rw [hc, show List.range 2 = [0, 1] from rfl]
  have hu := Try.underlying22
  have e1 := run_equalIn_int (P := Try.prog) w 9998 22 .u16 .u16 a c hu
  have e2 := run_equalIn_int (P := Try.prog) w 9998 22 .u16 .u16 b d hu
  by_cases h : a = c
  · subst h
    simp [Op.eqItems, go_sem, e1, e2]
    by_cases h2 : b = d <;> simp [h2]
  · have : (a == c) = false := by simp [h]
    simp [Op.eqItems, go_sem, e1, e2, this]

set_option maxHeartbeats 1000000 in
theorem walk1 (a b c d : Int) (p1 : 1 ≤ a) (p2 : a ≤ 32767) (p3 : 1 ≤ b) (p4 : b ≤ 65535) (q1 : 1 ≤ c) (q2 : c ≤ 32767) (q3 : 1 ≤ d) (q4 : d ≤ 65535) (w : World) (h : a < c) :
    Calls Try.prog 6 #[.agg #[.int .u16 a, .int .u16 b], .agg #[.int .u16 c, .int .u16 d]] w fun e w' => e = .returned (.bool true) ∧ Below w.heap.size w w' := by
  have h' : a * 65536 + b < c * 65536 + d := by omega
  have h1 : (a == c) = false := beq_eq_false_iff_ne.2 (by omega)
  have h2 : (a * 65536 + b == c * 65536 + d) = false := beq_eq_false_iff_ne.2 (by omega)
  have h3 : decide (a * 65536 + b ≤ 2147483647) = true := decide_eq_true (by omega)
  have h4 : decide (0 < a * 65536 + b) = true := decide_eq_true (by omega)
  have e1 : IntKind.i64.wrap a = a := IntWalk.i64_in _ (by omega)
  have e2 : IntKind.i64.wrap b = b := IntWalk.i64_in _ (by omega)
  have e3 : IntKind.i64.wrap c = c := IntWalk.i64_in _ (by omega)
  have e4 : IntKind.i64.wrap d = d := IntWalk.i64_in _ (by omega)
  obtain ⟨x1, x2⟩ := pX_join a b p1 p2 p3 p4
  have hq := eq_pair a b c d
  go_enter Try.func6, Try.ntmps6
  go_wp2_with fail
  refine (awake_is _).mono ?_
  rintro e w2 ⟨rfl, hbw⟩
  have hz := hbw.size
  obtain ⟨k0, k1⟩ := bcell hbw
  go_wp2_with fail
  refine (join_yes _ _ _ p1 p2 p3 p4).mono ?_
  rintro e w' ⟨rfl, rfl⟩
  go_wp2_with fail
  refine (join_yes _ _ _ q1 q2 q3 q4).mono ?_
  rintro e w' ⟨rfl, rfl⟩
  go_wp2_with fail
  refine (parts_is _ _).mono ?_
  rintro e w' ⟨rfl, rfl⟩
  go_wp2
  go_ret
  exact ⟨rfl, (((Below.refl _ _).alloc (Nat.le_refl _) _).alloc (by simp) _).trans (hbw.mono (by simp; omega))⟩

set_option maxHeartbeats 1000000 in
theorem walk2 (a b c d : Int) (p1 : 1 ≤ a) (p2 : a ≤ 32767) (p3 : 1 ≤ b) (p4 : b ≤ 65535) (q1 : 1 ≤ c) (q2 : c ≤ 32767) (q3 : 1 ≤ d) (q4 : d ≤ 65535) (w : World) (h : c < a) :
    Calls Try.prog 6 #[.agg #[.int .u16 a, .int .u16 b], .agg #[.int .u16 c, .int .u16 d]] w fun e w' => e = .returned (.bool true) ∧ Below w.heap.size w w' := by
  have h' : c * 65536 + d ≤ a * 65536 + b := by omega
  have h1 : (a == c) = false := beq_eq_false_iff_ne.2 (by omega)
  have h2 : (a * 65536 + b == c * 65536 + d) = false := beq_eq_false_iff_ne.2 (by omega)
  have h3 : decide (a * 65536 + b ≤ 2147483647) = true := decide_eq_true (by omega)
  have h4 : decide (0 < a * 65536 + b) = true := decide_eq_true (by omega)
  have e1 : IntKind.i64.wrap a = a := IntWalk.i64_in _ (by omega)
  have e2 : IntKind.i64.wrap b = b := IntWalk.i64_in _ (by omega)
  have e3 : IntKind.i64.wrap c = c := IntWalk.i64_in _ (by omega)
  have e4 : IntKind.i64.wrap d = d := IntWalk.i64_in _ (by omega)
  obtain ⟨x1, x2⟩ := pX_join a b p1 p2 p3 p4
  have hq := eq_pair a b c d
  go_enter Try.func6, Try.ntmps6
  go_wp2_with fail
  refine (awake_is _).mono ?_
  rintro e w2 ⟨rfl, hbw⟩
  have hz := hbw.size
  obtain ⟨k0, k1⟩ := bcell hbw
  go_wp2_with fail
  refine (join_yes _ _ _ p1 p2 p3 p4).mono ?_
  rintro e w' ⟨rfl, rfl⟩
  go_wp2_with fail
  refine (join_yes _ _ _ q1 q2 q3 q4).mono ?_
  rintro e w' ⟨rfl, rfl⟩
  go_wp2_with fail
  refine (parts_is _ _).mono ?_
  rintro e w' ⟨rfl, rfl⟩
  go_wp2
  go_ret
  exact ⟨rfl, (((Below.refl _ _).alloc (Nat.le_refl _) _).alloc (by simp) _).trans (hbw.mono (by simp; omega))⟩

set_option maxHeartbeats 1000000 in
theorem walk3 (a b c d : Int) (p1 : 1 ≤ a) (p2 : a ≤ 32767) (p3 : 1 ≤ b) (p4 : b ≤ 65535) (q1 : 1 ≤ c) (q2 : c ≤ 32767) (q3 : 1 ≤ d) (q4 : d ≤ 65535) (w : World) (h : a = c) (hlt : b < d) :
    Calls Try.prog 6 #[.agg #[.int .u16 a, .int .u16 b], .agg #[.int .u16 c, .int .u16 d]] w fun e w' => e = .returned (.bool true) ∧ Below w.heap.size w w' := by
  subst h
  have h' : a * 65536 + b < a * 65536 + d := by omega
  have h1 : (b == d) = false := beq_eq_false_iff_ne.2 (by omega)
  have h2 : (a * 65536 + b == a * 65536 + d) = false := beq_eq_false_iff_ne.2 (by omega)
  have h3 : decide (a * 65536 + b ≤ 2147483647) = true := decide_eq_true (by omega)
  have h4 : decide (0 < a * 65536 + b) = true := decide_eq_true (by omega)
  have e1 : IntKind.i64.wrap a = a := IntWalk.i64_in _ (by omega)
  have e2 : IntKind.i64.wrap b = b := IntWalk.i64_in _ (by omega)
  have e4 : IntKind.i64.wrap d = d := IntWalk.i64_in _ (by omega)
  obtain ⟨x1, x2⟩ := pX_join a b p1 p2 p3 p4
  have hq := eq_pair a b a d
  go_enter Try.func6, Try.ntmps6
  go_wp2_with fail
  refine (awake_is _).mono ?_
  rintro e w2 ⟨rfl, hbw⟩
  have hz := hbw.size
  obtain ⟨k0, k1⟩ := bcell hbw
  go_wp2_with fail
  refine (join_yes _ _ _ p1 p2 p3 p4).mono ?_
  rintro e w' ⟨rfl, rfl⟩
  go_wp2_with fail
  refine (join_yes _ _ _ q1 q2 q3 q4).mono ?_
  rintro e w' ⟨rfl, rfl⟩
  go_wp2_with fail
  refine (parts_is _ _).mono ?_
  rintro e w' ⟨rfl, rfl⟩
  go_wp2
  go_ret
  exact ⟨rfl, (((Below.refl _ _).alloc (Nat.le_refl _) _).alloc (by simp) _).trans (hbw.mono (by simp; omega))⟩

set_option maxHeartbeats 1000000 in
theorem walk4 (a b c d : Int) (p1 : 1 ≤ a) (p2 : a ≤ 32767) (p3 : 1 ≤ b) (p4 : b ≤ 65535) (q1 : 1 ≤ c) (q2 : c ≤ 32767) (q3 : 1 ≤ d) (q4 : d ≤ 65535) (w : World) (h : a = c) (hlt : d < b) :
    Calls Try.prog 6 #[.agg #[.int .u16 a, .int .u16 b], .agg #[.int .u16 c, .int .u16 d]] w fun e w' => e = .returned (.bool true) ∧ Below w.heap.size w w' := by
  subst h
  have h' : a * 65536 + d ≤ a * 65536 + b := by omega
  have h1 : (b == d) = false := beq_eq_false_iff_ne.2 (by omega)
  have h2 : (a * 65536 + b == a * 65536 + d) = false := beq_eq_false_iff_ne.2 (by omega)
  have h3 : decide (a * 65536 + b ≤ 2147483647) = true := decide_eq_true (by omega)
  have h4 : decide (0 < a * 65536 + b) = true := decide_eq_true (by omega)
  have e1 : IntKind.i64.wrap a = a := IntWalk.i64_in _ (by omega)
  have e2 : IntKind.i64.wrap b = b := IntWalk.i64_in _ (by omega)
  have e4 : IntKind.i64.wrap d = d := IntWalk.i64_in _ (by omega)
  obtain ⟨x1, x2⟩ := pX_join a b p1 p2 p3 p4
  have hq := eq_pair a b a d
  go_enter Try.func6, Try.ntmps6
  go_wp2_with fail
  refine (awake_is _).mono ?_
  rintro e w2 ⟨rfl, hbw⟩
  have hz := hbw.size
  obtain ⟨k0, k1⟩ := bcell hbw
  go_wp2_with fail
  refine (join_yes _ _ _ p1 p2 p3 p4).mono ?_
  rintro e w' ⟨rfl, rfl⟩
  go_wp2_with fail
  refine (join_yes _ _ _ q1 q2 q3 q4).mono ?_
  rintro e w' ⟨rfl, rfl⟩
  go_wp2_with fail
  refine (parts_is _ _).mono ?_
  rintro e w' ⟨rfl, rfl⟩
  go_wp2
  go_ret
  exact ⟨rfl, (((Below.refl _ _).alloc (Nat.le_refl _) _).alloc (by simp) _).trans (hbw.mono (by simp; omega))⟩

set_option maxHeartbeats 1000000 in
theorem walk5 (a b c d : Int) (p1 : 1 ≤ a) (p2 : a ≤ 32767) (p3 : 1 ≤ b) (p4 : b ≤ 65535) (q1 : 1 ≤ c) (q2 : c ≤ 32767) (q3 : 1 ≤ d) (q4 : d ≤ 65535) (w : World) (h : a = c) (he : b = d) :
    Calls Try.prog 6 #[.agg #[.int .u16 a, .int .u16 b], .agg #[.int .u16 c, .int .u16 d]] w fun e w' => e = .returned (.bool true) ∧ Below w.heap.size w w' := by
  subst h
  subst he
  have h3 : decide (a * 65536 + b ≤ 2147483647) = true := decide_eq_true (by omega)
  have h4 : decide (0 < a * 65536 + b) = true := decide_eq_true (by omega)
  have e1 : IntKind.i64.wrap a = a := IntWalk.i64_in _ (by omega)
  have e2 : IntKind.i64.wrap b = b := IntWalk.i64_in _ (by omega)
  obtain ⟨x1, x2⟩ := pX_join a b p1 p2 p3 p4
  have hq := eq_pair a b a b
  go_enter Try.func6, Try.ntmps6
  go_wp2_with fail
  refine (awake_is _).mono ?_
  rintro e w2 ⟨rfl, hbw⟩
  have hz := hbw.size
  obtain ⟨k0, k1⟩ := bcell hbw
  go_wp2_with fail
  refine (join_yes _ _ _ p1 p2 p3 p4).mono ?_
  rintro e w' ⟨rfl, rfl⟩
  go_wp2_with fail
  refine (join_yes _ _ _ q1 q2 q3 q4).mono ?_
  rintro e w' ⟨rfl, rfl⟩
  go_wp2_with fail
  refine (parts_is _ _).mono ?_
  rintro e w' ⟨rfl, rfl⟩
  go_wp2
  go_ret
  exact ⟨rfl, (((Below.refl _ _).alloc (Nat.le_refl _) _).alloc (by simp) _).trans (hbw.mono (by simp; omega))⟩

set_option maxHeartbeats 1000000 in
theorem walk6 (a b c d : Int) (ha : 0 ≤ a) (ha' : a ≤ 65535) (hb : 0 ≤ b) (hb' : b ≤ 65535) (hc : 0 ≤ c) (hc' : c ≤ 65535) (hd : 0 ≤ d) (hd' : d ≤ 65535) (w : World) (o1 : (1 ≤ a ∧ a ≤ 32767 ∧ 1 ≤ b ∧ b ≤ 65535)) (o2 : ¬ (1 ≤ c ∧ c ≤ 32767 ∧ 1 ≤ d ∧ d ≤ 65535)) :
    Calls Try.prog 6 #[.agg #[.int .u16 a, .int .u16 b], .agg #[.int .u16 c, .int .u16 d]] w fun e w' => e = .returned (.bool true) ∧ Below w.heap.size w w' := by
  have e1 : IntKind.i64.wrap a = a := IntWalk.i64_in _ (by omega)
  have e2 : IntKind.i64.wrap b = b := IntWalk.i64_in _ (by omega)
  have e3 : IntKind.i64.wrap c = c := IntWalk.i64_in _ (by omega)
  have e4 : IntKind.i64.wrap d = d := IntWalk.i64_in _ (by omega)
  obtain ⟨p1, p2, p3, p4⟩ := o1
  have O2 := Lib.hid o2; clear o2
  go_enter Try.func6, Try.ntmps6
  go_wp2_with fail
  refine (awake_is _).mono ?_
  rintro e w2 ⟨rfl, hbw⟩
  have hz := hbw.size
  obtain ⟨k0, k1⟩ := bcell hbw
  go_wp2_with fail
  refine (join_yes _ _ _ p1 p2 p3 p4).mono ?_
  rintro e w' ⟨rfl, rfl⟩
  go_wp2_with fail
  refine (join_no _ _ _ O2.out).mono ?_
  rintro e w' ⟨rfl, rfl⟩
  go_wp2_with fail
  all_goals first
    | (exfalso; first | (have O := O1.out; omega) | (have O := O2.out; omega))
    | (go_ret
       refine ⟨?_, (((Below.refl _ _).alloc (Nat.le_refl _) _).alloc (by simp) _).trans (hbw.mono (by simp; omega))⟩
       refine congrArg (fun x => Ending.returned (Value.bool x)) ?_
       clear hbw k0 k1
       first | rfl | (simp; first | (have U1 := O1.out; have U2 := O2.out; omega) | (have U1 := O1.out; omega) | (have U2 := O2.out; omega)))

set_option maxHeartbeats 1000000 in
theorem walk7 (a b c d : Int) (ha : 0 ≤ a) (ha' : a ≤ 65535) (hb : 0 ≤ b) (hb' : b ≤ 65535) (hc : 0 ≤ c) (hc' : c ≤ 65535) (hd : 0 ≤ d) (hd' : d ≤ 65535) (w : World) (o1 : ¬ (1 ≤ a ∧ a ≤ 32767 ∧ 1 ≤ b ∧ b ≤ 65535)) (o2 : (1 ≤ c ∧ c ≤ 32767 ∧ 1 ≤ d ∧ d ≤ 65535)) :
    Calls Try.prog 6 #[.agg #[.int .u16 a, .int .u16 b], .agg #[.int .u16 c, .int .u16 d]] w fun e w' => e = .returned (.bool true) ∧ Below w.heap.size w w' := by
  have e1 : IntKind.i64.wrap a = a := IntWalk.i64_in _ (by omega)
  have e2 : IntKind.i64.wrap b = b := IntWalk.i64_in _ (by omega)
  have e3 : IntKind.i64.wrap c = c := IntWalk.i64_in _ (by omega)
  have e4 : IntKind.i64.wrap d = d := IntWalk.i64_in _ (by omega)
  have O1 := Lib.hid o1; clear o1
  obtain ⟨q1, q2, q3, q4⟩ := o2
  go_enter Try.func6, Try.ntmps6
  go_wp2_with fail
  refine (awake_is _).mono ?_
  rintro e w2 ⟨rfl, hbw⟩
  have hz := hbw.size
  obtain ⟨k0, k1⟩ := bcell hbw
  go_wp2_with fail
  refine (join_no _ _ _ O1.out).mono ?_
  rintro e w' ⟨rfl, rfl⟩
  go_wp2_with fail
  refine (join_yes _ _ _ q1 q2 q3 q4).mono ?_
  rintro e w' ⟨rfl, rfl⟩
  go_wp2_with fail
  all_goals first
    | (exfalso; first | (have O := O1.out; omega) | (have O := O2.out; omega))
    | (go_ret
       refine ⟨?_, (((Below.refl _ _).alloc (Nat.le_refl _) _).alloc (by simp) _).trans (hbw.mono (by simp; omega))⟩
       refine congrArg (fun x => Ending.returned (Value.bool x)) ?_
       clear hbw k0 k1
       first | rfl | (simp; first | (have U1 := O1.out; have U2 := O2.out; omega) | (have U1 := O1.out; omega) | (have U2 := O2.out; omega)))

set_option maxHeartbeats 1000000 in
theorem walk8 (a b c d : Int) (ha : 0 ≤ a) (ha' : a ≤ 65535) (hb : 0 ≤ b) (hb' : b ≤ 65535) (hc : 0 ≤ c) (hc' : c ≤ 65535) (hd : 0 ≤ d) (hd' : d ≤ 65535) (w : World) (o1 : ¬ (1 ≤ a ∧ a ≤ 32767 ∧ 1 ≤ b ∧ b ≤ 65535)) (o2 : ¬ (1 ≤ c ∧ c ≤ 32767 ∧ 1 ≤ d ∧ d ≤ 65535)) :
    Calls Try.prog 6 #[.agg #[.int .u16 a, .int .u16 b], .agg #[.int .u16 c, .int .u16 d]] w fun e w' => e = .returned (.bool true) ∧ Below w.heap.size w w' := by
  have e1 : IntKind.i64.wrap a = a := IntWalk.i64_in _ (by omega)
  have e2 : IntKind.i64.wrap b = b := IntWalk.i64_in _ (by omega)
  have e3 : IntKind.i64.wrap c = c := IntWalk.i64_in _ (by omega)
  have e4 : IntKind.i64.wrap d = d := IntWalk.i64_in _ (by omega)
  have O1 := Lib.hid o1; clear o1
  have O2 := Lib.hid o2; clear o2
  go_enter Try.func6, Try.ntmps6
  go_wp2_with fail
  refine (awake_is _).mono ?_
  rintro e w2 ⟨rfl, hbw⟩
  have hz := hbw.size
  obtain ⟨k0, k1⟩ := bcell hbw
  go_wp2_with fail
  refine (join_no _ _ _ O1.out).mono ?_
  rintro e w' ⟨rfl, rfl⟩
  go_wp2_with fail
  refine (join_no _ _ _ O2.out).mono ?_
  rintro e w' ⟨rfl, rfl⟩
  go_wp2_with fail
  all_goals first
    | (exfalso; first | (have O := O1.out; omega) | (have O := O2.out; omega))
    | (go_ret
       refine ⟨?_, (((Below.refl _ _).alloc (Nat.le_refl _) _).alloc (by simp) _).trans (hbw.mono (by simp; omega))⟩
       refine congrArg (fun x => Ending.returned (Value.bool x)) ?_
       clear hbw k0 k1
       first | rfl | (simp; first | (have U1 := O1.out; have U2 := O2.out; omega) | (have U1 := O1.out; omega) | (have U2 := O2.out; omega)))

theorem walk0 (a b c d : Int) (ha : 0 ≤ a ∧ a ≤ 65535) (hb : 0 ≤ b ∧ b ≤ 65535) (hc : 0 ≤ c ∧ c ≤ 65535) (hd : 0 ≤ d ∧ d ≤ 65535) (w : World) :
    Calls Try.prog 6 #[.agg #[.int .u16 a, .int .u16 b], .agg #[.int .u16 c, .int .u16 d]] w fun e w' => e = .returned (.bool true) ∧ Below w.heap.size w w' := by
  by_cases o1 : 1 ≤ a ∧ a ≤ 32767 ∧ 1 ≤ b ∧ b ≤ 65535
  · by_cases o2 : 1 ≤ c ∧ c ≤ 32767 ∧ 1 ≤ d ∧ d ≤ 65535
    · obtain ⟨p1, p2, p3, p4⟩ := o1
      obtain ⟨q1, q2, q3, q4⟩ := o2
      rcases Int.lt_trichotomy a c with h | h | h
      · exact walk1 a b c d p1 p2 p3 p4 q1 q2 q3 q4 w h
      · rcases Int.lt_trichotomy b d with h2 | h2 | h2
        · exact walk3 a b c d p1 p2 p3 p4 q1 q2 q3 q4 w h h2
        · exact walk5 a b c d p1 p2 p3 p4 q1 q2 q3 q4 w h h2
        · exact walk4 a b c d p1 p2 p3 p4 q1 q2 q3 q4 w h h2
      · exact walk2 a b c d p1 p2 p3 p4 q1 q2 q3 q4 w h
    · exact walk6 a b c d ha.1 ha.2 hb.1 hb.2 hc.1 hc.2 hd.1 hd.2 w o1 o2
  · by_cases o2 : 1 ≤ c ∧ c ≤ 32767 ∧ 1 ≤ d ∧ d ≤ 65535
    · exact walk7 a b c d ha.1 ha.2 hb.1 hb.2 hc.1 hc.2 hd.1 hd.2 w o1 o2
    · exact walk8 a b c d ha.1 ha.2 hb.1 hb.2 hc.1 hc.2 hd.1 hd.2 w o1 o2

section
variable {H : Type} {enc : TypeId × Value → H}
/-- An argument of type [2]uint16, opened. -/
theorem open_pair {w : World} {base : Nat} {spare : Nat → Bool} {held : Bool} {r : Reach} {b0 : Nat} {v : Value} {d : DataW H} {p : List MemPlace}
    (hv : Value.okWide Try.prog w r b0 39 v) (h : DataW.Trod enc Try.prog w base spare held 39 v d p) :
    ∃ a b : Int, v = .agg #[.int .u16 a, .int .u16 b] ∧ (0 ≤ a ∧ a ≤ 65535) ∧ (0 ≤ b ∧ b ≤ 65535) := by
  have hc : Try.prog.cellsOf 39 = 2 := by kernel_rfl
  have hc1 : Try.prog.cellsOf 22 = 1 := by kernel_rfl
  simp only [Value.okWide, Try.underlying39] at hv
  obtain ⟨cs, rfl, hsz, _⟩ := hv
  obtain ⟨l⟩ := cs
  rw [hc] at hsz
  match l, hsz with
  | [c0, c1], _ =>
    obtain ⟨fuel, hf⟩ := h
    obtain ⟨xs, m, _, _, _, hlen, hel⟩ := DataW.trod_array Try.underlying39 hf
    have h0 := hel 0 (by omega)
    have h1 := hel 1 (by omega)
    rw [hc1, List.getElem?_eq_getElem (by omega)] at h0 h1
    obtain ⟨a, e0, _, w0⟩ := DataW.trod_int Try.underlying22 h0
    obtain ⟨b, e1, _, w1⟩ := DataW.trod_int Try.underlying22 h1
    simp [Value.cells] at e0 e1
    subst e0; subst e1
    exact ⟨a, b, rfl, wf_u16 w0, wf_u16 w1⟩

theorem walk (v0 : Value) (d0 : DataW H) (p0 : List MemPlace) {w0 w1 : World} {base base' : Nat} {spare : Nat → Bool} {held : Bool} {r : Reach} {b0 b1 : Nat} (o0 : Value.okWide Try.prog w0 r b0 39 v0) (h0 : DataW.Trod enc Try.prog w0 base spare held 39 v0 d0 p0)
    (v1 : Value) (d1 : DataW H) (p1 : List MemPlace) (o1 : Value.okWide Try.prog w1 r b1 39 v1) (h1 : DataW.Trod enc Try.prog w1 base' spare held 39 v1 d1 p1) (w : World) :
    Calls Try.prog 6 #[v0, v1] w fun e w' => e = .returned (.bool true) ∧ Below w.heap.size w w' := by
  obtain ⟨a, b, rfl, ha, hb⟩ := open_pair o0 h0
  obtain ⟨c, d, rfl, hc, hd⟩ := open_pair o1 h1
  exact walk0 a b c d ha hb hc hd w
end

theorem own : ownKnob Try.prog.godebug = none := by kernel_rfl
theorem laidOut : laidOutB Try.prog = true := by kernel_rfl
set_option maxRecDepth 100000 in
theorem lifted (os : Os) (started : os.Started) (H : Type) (enc : TypeId × Value → H) :
    ReturnsInHanded {} Try.checked os 6 .any (Rows.clockOrderSpec.pre6 enc Try.prog Try.f6 Rows.clockOrderRow.domain false) (Rows.clockOrderSpec.post enc Try.prog Try.f6 false true false false) := by
  refine returnsInHanded_of_change (C := Try.checked) own started (by kernel_rfl) Try.func6
    (ChangeSpec.witness6 (enc := enc) (C := Try.checked) false ⟨#[], #[.agg #[.int .u16 0, .int .u16 0], .agg #[.int .u16 0, .int .u16 0]], []⟩ 8 (by kernel_rfl) (by kernel_rfl) (by kernel_rfl) (by kernel_rfl)) ?_
  intro W base args ds gs before hval0 hW hcnd _
  have hval : ∀ (j : Nat) t v, Try.f6.params[j]? = some t → args[j]? = some v → Value.okWide Try.prog W .any base t v := hval0
  have hW' := hW
  obtain ⟨p, q, hA0, hV, rfl, hfz, hnd⟩ := hW
  have hA : DataW.TrodAll enc Try.prog W 0 (fun _ => true) true Try.f6.params.toList args.toList ds p := hA0
  rw [Try.params6] at hA hval
  obtain ⟨v0, vs0, d0, ds0, p0, q0, hargs, rfl, rfl, h0, r0⟩ := trodAll_cons hA
  obtain ⟨v1, vs1, d1, ds1, p1, q1, rfl, rfl, rfl, h1, r1⟩ := trodAll_cons r0
  obtain ⟨rfl, rfl, rfl⟩ := trodAll_nil r1
  obtain rfl : args = #[v0, v1] := by cases args; simp_all
  obtain ⟨rfl, rfl⟩ := trodVars_none hV
  have o0 := hval 0 39 v0 rfl rfl
  have o1 := hval 1 39 v1 rfl rfl
  clear hA0 hval0
  simp only [List.append_nil] at hW'
  refine (walk v0 d0 p0 o0 h0 v1 d1 p1 o1 h1 W).mono fun e W' ⟨he, hg⟩ => ?_
  subst he
  exact ⟨_, rfl, law_post laidOut (of_decide_eq_true (by kernel_rfl)) Try.underlying4 rfl rfl rfl rfl rfl hW' hg⟩

theorem over : Rows.clockOrderRow.holds Try.pinned (OpenSpec.ofChange Rows.clockOrderSpec) :=
  OpenClaim.holds_of_wide 6 Try.f6 rfl rfl rfl rfl rfl rfl rfl ⟨rfl, rfl, rfl, rfl, rfl⟩ rfl rfl rfl rfl rfl (by kernel_rfl) Try.func6 (by kernel_rfl)
    (of_decide_eq_true (by kernel_rfl)) (by unfold Func.isWrapper; first | (rw [if_pos (by decide +kernel)]; kernel_rfl) | (rw [if_neg (by decide +kernel)]; exact ⟨rfl, rfl⟩))
    (fun os started H enc _ => lifted os started H enc)

/-- ████ THE STATEMENT ████ -/
theorem proved : Rows.ClockOrderSaid :=
  over
#print axioms proved
end Go.Proofs.Ytnjcbeinfjbkdaa.clockOrder
