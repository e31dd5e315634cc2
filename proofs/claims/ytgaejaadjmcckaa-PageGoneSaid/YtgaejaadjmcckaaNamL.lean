/- The order of texts and their prefixes, as package name and the document's answer have them. -/
import Derived.Test.YtgaejaadjmcckaaRows
import Derived.Test.YtgaejaadjmcckaaNum
import Derived.Test.YtgaejaadjmcckaaNamP
import Derived.WalkKit
import Derived.ProofKit
import Derived.OpenShut
import Derived.Lib.Hide
import Derived.Handy
namespace Go.Proofs.Ytgaejaadjmcckaa
open Go.RowKit Nam

theorem drop_at (s : ByteArray) (k : Nat) (h : k < s.size) : s.data.toList.drop k = s[k] :: s.data.toList.drop (k + 1) := by
  rw [List.drop_eq_getElem_cons (by simpa using h)]
  rfl
theorem size_list (s : ByteArray) : s.data.toList.length = s.size := by simp

set_option maxHeartbeats 400000 in
theorem less_is (a b : ByteArray) (w : World) : Calls Try.prog 31 #[.string a, .string b] w fun e w' => e = .returned (.bool (Op.bytesLess a.toList b.toList)) ∧ w = w' := by
  go_enter Try.func31, Try.ntmps31
  go_wp2
  go_ret
  exact ⟨rfl, rfl⟩

set_option maxHeartbeats 400000 in
theorem lprefix_is (a b : ByteArray) (w : World) (ha : a.size ≤ maxLen) (hb : b.size ≤ maxLen) : Calls Try.prog 42 #[.string a, .string b] w fun e w' => e = .returned (.bool (prefixB a.data.toList b.data.toList)) ∧ w = w' := by
  unfold maxLen at ha hb
  by_cases h : b.size ≤ a.size
  · have hz : (b.size : Int) ≤ (a.size : Int) := by omega
    go_enter Try.func42, Try.ntmps42
    go_wp2
    go_ret
    refine ⟨congrArg (fun x => Ending.returned (Value.bool x)) ?_, rfl⟩
    unfold prefixB
    rw [ByteArray.toList_eq, ByteArray.toList_eq, Lib.extract_data, size_list, size_list]
    simp [h]
  · have hz : (a.size : Int) < (b.size : Int) := by omega
    go_enter Try.func42, Try.ntmps42
    go_wp2
    go_ret
    refine ⟨congrArg (fun x => Ending.returned (Value.bool x)) ?_, rfl⟩
    unfold prefixB
    rw [size_list, size_list, decide_eq_false h]
    rfl

set_option maxHeartbeats 400000 in
theorem hasprefix_is (a b : ByteArray) (w : World) (ha : a.size ≤ maxLen) (hb : b.size ≤ maxLen) : Calls Try.prog 40 #[.string a, .string b] w fun e w' => e = .returned (.bool (prefixB a.data.toList b.data.toList)) ∧ w = w' := by
  go_enter Try.func40, Try.ntmps40
  go_wp2_with (go_at_call 42; refine (lprefix_is _ _ _ ha hb).mono ?_; rintro e w' ⟨rfl, rfl⟩)
  go_ret
  exact ⟨rfl, rfl⟩

set_option maxHeartbeats 400000 in
theorem prefix_is (a b : ByteArray) (w : World) (ha : a.size ≤ maxLen) (hb : b.size ≤ maxLen) : Calls Try.prog 37 #[.string a, .string b] w fun e w' => e = .returned (.bool (prefixB a.data.toList b.data.toList)) ∧ w = w' := by
  go_enter Try.func37, Try.ntmps37
  go_wp2_with (go_at_call 40; refine (hasprefix_is _ _ _ ha hb).mono ?_; rintro e w' ⟨rfl, rfl⟩)
  go_ret
  exact ⟨rfl, rfl⟩

set_option maxHeartbeats 400000 in
theorem rprefix_is (a b : ByteArray) (w : World) (ha : a.size ≤ maxLen) (hb : b.size ≤ maxLen) : Calls Try.prog 22 #[.string a, .string b] w fun e w' => e = .returned (.bool (prefixB a.data.toList b.data.toList)) ∧ w = w' := by
  unfold maxLen at ha hb
  by_cases h : b.size ≤ a.size
  · have hz : (b.size : Int) ≤ (a.size : Int) := by omega
    go_enter Try.func22, Try.ntmps22
    go_wp2
    go_ret
    refine ⟨congrArg (fun x => Ending.returned (Value.bool x)) ?_, rfl⟩
    unfold prefixB
    rw [ByteArray.toList_eq, ByteArray.toList_eq, Lib.extract_data, size_list, size_list]
    simp [h]
  · have hz : (a.size : Int) < (b.size : Int) := by omega
    go_enter Try.func22, Try.ntmps22
    go_wp2
    go_ret
    refine ⟨congrArg (fun x => Ending.returned (Value.bool x)) ?_, rfl⟩
    unfold prefixB
    rw [size_list, size_list, decide_eq_false h]
    rfl

set_option maxHeartbeats 1000000 in
theorem rless_is (a b : ByteArray) (w : World) (ha : a.size ≤ maxLen) (hb : b.size ≤ maxLen) : Calls Try.prog 13 #[.string a, .string b] w fun e w' => e = .returned (.bool (Op.bytesLess a.toList b.toList)) ∧ ∃ n, w' = w.drewN n := by
  unfold maxLen at ha hb
  obtain ⟨L, hL⟩ : ∃ L, Op.bytesLess a.toList b.toList = L := ⟨_, rfl⟩
  rw [hL]
  rw [ByteArray.toList_eq, ByteArray.toList_eq] at hL
  go_enter Try.func13, Try.ntmps13
  go_wp2_with fail
  go_loopw [5] (fun v wr => ∃ k q : Nat, v = .int .i64 k ∧ k ≤ a.size ∧ k ≤ b.size ∧ wr = w.drewN q ∧ Hid (Op.bytesLess (a.data.toList.drop k) (b.data.toList.drop k) = L)) (fun v _ => a.size - (intOf v).toNat)
  case atStart => exact ⟨0, 0, rfl, Nat.zero_le _, Nat.zero_le _, rfl, hL⟩
  case round =>
    obtain ⟨k, q, rfl, hka, hkb, rfl, HL⟩ := hrel
    clear hL
    by_cases pa : k < a.size
    · by_cases pb : k < b.size
      · have pza : (k : Int) < (a.size : Int) := by omega
        have pzb : (k : Int) < (b.size : Int) := by omega
        have hl := HL.out
        rw [drop_at a k pa, drop_at b k pb, less_cons] at hl
        by_cases hne : a[k] = b[k]
        · have hl2 : Hid (Op.bytesLess (a.data.toList.drop (k + 1)) (b.data.toList.drop (k + 1)) = L) := by
            show _ = _
            rw [hne] at hl
            simpa using hl
          have hbb : ((a[k].toNat : Int) == (b[k].toNat : Int)) = true := by rw [beq_iff_eq, hne]
          clear hl HL hne
          go_wp2_with fail
          go_quiet (fail)
          go_wp2
          go_roundw
          case rel => exact ⟨k + 1, q + nq, by go_num, by omega, by omega, by first | rfl | rw [World.drewN_drewN], hl2⟩
          case measure => simp [intOf]; omega
        · have hbb : ((a[k].toNat : Int) == (b[k].toNat : Int)) = false := by
            rw [beq_eq_false_iff_ne]
            intro h
            exact hne (UInt8.toNat_inj.1 (by omega))
          have hr : Hid (decide ((a[k].toNat : Int) < (b[k].toNat : Int)) = L) := by
            show _ = _
            have e : (a[k] == b[k]) = false := by simpa using hne
            rw [e, Bool.false_and, Bool.or_false] at hl
            rw [← hl, Bool.eq_iff_iff, decide_eq_true_eq, decide_eq_true_eq, UInt8.lt_iff_toNat_lt]
            omega
          clear hl HL hne
          go_wp2_with fail
          go_quiet (fail)
          go_wp2_with fail
          go_quiet (fail)
          go_wp2
          go_ret
          exact ⟨congrArg (fun x => Ending.returned (Value.bool x)) (by have h0 := hr.out; simpa using h0), _, by rw [World.drewN_drewN, World.drewN_drewN]⟩
      · have pzb : (b.size : Int) ≤ (k : Int) := by omega
        have hl : L = false := by
          have e0 : b.data.toList.drop k = [] := List.drop_eq_nil_of_le (by rw [size_list]; omega)
          rw [← HL.out, e0, less_nil]
        subst hl
        clear HL
        go_wp2
        go_ret
        exact ⟨congrArg (fun x => Ending.returned (Value.bool x)) (by rw [decide_eq_false_iff_not]; omega), q, rfl⟩
    · have pza : (a.size : Int) ≤ (k : Int) := by omega
      have hl : Hid (L = decide ((a.size : Int) < (b.size : Int))) := by
        show _ = _
        have e0 : a.data.toList.drop k = [] := List.drop_eq_nil_of_le (by rw [size_list]; omega)
        rw [← HL.out, e0]
        by_cases pb : k < b.size
        · rw [drop_at b k pb, decide_eq_true (by omega)]
          rfl
        · rw [List.drop_eq_nil_of_le (by rw [size_list]; omega), decide_eq_false (by omega)]
          rfl
      clear HL
      go_wp2
      go_ret
      exact ⟨congrArg (fun x => Ending.returned (Value.bool x)) (by have h0 := hl.out.symm; simpa using h0), q, rfl⟩

end Go.Proofs.Ytgaejaadjmcckaa
