/- What package name's functions compute: contracts over lists of bytes. -/
import Derived.Test.YtjbjcfnbgcloiaaGreatDoorRows
import Derived.Test.YtjbjcfnbgcloiaaGreatDoorNum
import Derived.Test.YtjbjcfnbgcloiaaGreatDoorNamP
import Derived.WalkKit
import Derived.ProofKit
import Derived.OpenShut
import Derived.Lib.Hide
import Derived.Handy
namespace Go.Proofs.YtjbjcfnbgcloiaaGreatDoor
open Go.RowKit Nam

set_option maxHeartbeats 400000 in
theorem plain_is (n : Int) (w : World) : Calls Tryz.prog 76 #[.int .i32 n] w fun e w' => e = .returned (.bool (plainB n)) ∧ w = w' := by
  unfold plainB
  by_cases h1 : 97 ≤ n <;> by_cases h2 : n ≤ 122 <;> by_cases h3 : 48 ≤ n <;> by_cases h4 : n ≤ 57
  all_goals (try (exfalso; omega))
  all_goals
    go_enter Tryz.func76, Tryz.ntmps76
    go_wp2
    go_ret
    exact ⟨congrArg (fun x => Ending.returned (Value.bool x)) (by simp [h1, h2, h3, h4]), rfl⟩

set_option maxHeartbeats 400000 in
theorem joint_is (n : Int) (w : World) : Calls Tryz.prog 77 #[.int .i32 n] w fun e w' => e = .returned (.bool (jointB n)) ∧ w = w' := by
  unfold jointB
  by_cases h1 : n = 45
  · subst h1
    go_enter Tryz.func77, Tryz.ntmps77
    go_wp2
    go_ret
    exact ⟨rfl, rfl⟩
  · have e1 : (n == 45) = false := beq_eq_false_iff_ne.2 h1
    go_enter Tryz.func77, Tryz.ntmps77
    go_wp2
    go_ret
    exact ⟨congrArg (fun x => Ending.returned (Value.bool x)) (by simp [e1]), rfl⟩

theorem width_pos (s : ByteArray) (pos : Nat) (h : pos < s.size) : 1 ≤ (Utf8.decode s pos).2 := by
  by_cases ha : (s[pos]'h).toNat < 128
  · rw [decode_ascii s pos h ha]
    exact Nat.le_refl _
  · exact (decode_high s pos h (by omega)).2

theorem drop_at (s : ByteArray) (k : Nat) (h : k < s.size) : s.data.toList.drop k = s[k] :: s.data.toList.drop (k + 1) := by
  rw [List.drop_eq_getElem_cons (by simpa using h)]
  rfl
theorem size_list (s : ByteArray) : s.data.toList.length = s.size := by simp

set_option maxHeartbeats 1000000 in
theorem bucket_is (s : ByteArray) (w : World) (hs : s.size ≤ maxLen) : Calls Tryz.prog 49 #[.string s] w fun e w' => e = .returned (.bool (bucketB s.data.toList)) ∧ Below w.heap.size w w' := by
  unfold maxLen at hs
  obtain ⟨R, hR⟩ : ∃ R, bw true s.data.toList = R := ⟨_, rfl⟩
  obtain ⟨B, hB⟩ : ∃ B, bucketB s.data.toList = B := ⟨_, rfl⟩
  rw [hB]
  have hB' : B = (decide (3 ≤ s.size) && decide (s.size ≤ 63) && (R == some false)) := by rw [← hB, ← hR]; unfold bucketB; rw [size_list]
  clear hB
  have HB := Lib.hid hB'; clear hB'
  have HR := Lib.hid hR; clear hR
  go_enter Tryz.func49, Tryz.ntmps49
  go_wp2_with fail
  go_loopw [3, 4] (fun m v w' => ∃ (k : Nat) (was : Bool), w' = w.iter s k ∧ k ≤ s.size ∧ m = .int .i64 k ∧ v = .bool was ∧ Hid (bw was (s.data.toList.drop k) = R)) (fun _ _ w' => s.size - w'.iterPos w.heap.size)
  case atStart => exact ⟨0, true, rfl, Nat.zero_le _, rfl, rfl, by exact HR⟩
  case round =>
    obtain ⟨k, was, rfl, hk, rfl, rfl, HW⟩ := hrel
    have hb0 : Below w.heap.size w (w.iter s k) := (Below.refl _ _).alloc (Nat.le_refl _) _
    by_cases hp : k < s.size
    · have hnx : ∀ ty, (Instr.next (.pointer (some ⟨w.heap.size, 0, none⟩)) true ty).run Tryz.prog (w.iter s k) = _ := fun ty => run_next_any w s k ty hp
      have hd := drop_at s k hp
      have hw1 := width_pos s k hp
      obtain ⟨n, p2, hnp⟩ : ∃ n p2, Utf8.decode s k = (n, p2) := ⟨_, _, rfl⟩
      have hlow : (n < 128 → n = (s[k]).toNat ∧ p2 = 1) ∧ (128 ≤ n → 128 ≤ (s[k]).toNat) := by
        by_cases ha : (s[k]).toNat < 128
        · have h1 := decode_ascii s k hp ha
          rw [hnp] at h1
          obtain ⟨e1, e2⟩ := Prod.mk.inj h1
          exact ⟨fun _ => ⟨e1, e2⟩, fun h => by omega⟩
        · have h1 := decode_high s k hp (by omega)
          rw [hnp] at h1
          exact ⟨fun h => by have := h1.1; simp at this; omega, fun _ => by omega⟩
      have hle := decode_le s k
      rw [hnp] at hle hnx hw1
      simp only [] at hle hnx hw1
      clear hnp
      have HD := Lib.hid hd; clear hd
      have HL := Lib.hid hlow; clear hlow
      have h32 : IntKind.i32.wrap (n : Int) = (n : Int) := IntWalk.i32_in _ (by omega)
      have hk1 : IntKind.i64.wrap ((k : Int) + 1) = (k : Int) + 1 := IntWalk.i64_in _ (by omega)
      have NO : (plainB n = false) → (jointB n = false ∨ was = true) → Hid (B = false) := by
        intro h1 h2
        show B = false
        have e : bw was (s.data.toList.drop k) = none := by
          rw [HD.out]
          unfold bw
          by_cases hn : n < 128
          · have e1 := (HL.out.1 hn).1
            rw [← e1, if_neg (by simp [h1]), if_neg (by rcases h2 with h2 | h2 <;> simp [h2])]
          · have e2 := HL.out.2 (by omega)
            have q1 : plainB ((s[k]).toNat : Int) = false := by unfold plainB; simp; omega
            have q2 : jointB ((s[k]).toNat : Int) = false := by unfold jointB; simp; omega
            rw [if_neg (by simp [q1]), if_neg (by simp [q2])]
        rw [HB.out, ← HW.out, e]
        simp
      have NO' := Lib.hid NO; clear NO
      by_cases hpl : plainB n = true
      · have hn : n < 128 := by
          unfold plainB at hpl; simp at hpl; omega
        obtain ⟨e1, rfl⟩ := HL.out.1 hn
        have hj : jointB n = false := by unfold plainB at hpl; unfold jointB; simp at hpl ⊢; omega
        have GO : Hid (bw false (s.data.toList.drop (k + 1)) = R) := by
          show _ = _
          rw [← HW.out, HD.out]
          conv => rhs; unfold bw
          rw [← e1, if_pos hpl]
        have E1 := Lib.hid e1; clear e1
        go_wp2_with (first | (go_at_call 76; refine (plain_is _ _).mono ?_; rintro e w' ⟨rfl, rfl⟩) | (go_at_call 77; refine (joint_is _ _).mono ?_; rintro e w' ⟨rfl, rfl⟩))
        go_roundw
        case rel => exact ⟨k + 1, false, rfl, by omega, by go_num, rfl, GO⟩
        case measure => simp; omega
      · have hpl' : plainB n = false := by simpa using hpl
        clear hpl
        by_cases hj : jointB n = true
        · have hn : n < 128 := by
            unfold jointB at hj; simp at hj; omega
          obtain ⟨e1, rfl⟩ := HL.out.1 hn
          by_cases hwas : was = false
          · subst hwas
            have GO : Hid (bw true (s.data.toList.drop (k + 1)) = R) := by
              show _ = _
              rw [← HW.out, HD.out]
              conv => rhs; unfold bw
              rw [← e1, if_neg (by simp [hpl']), if_pos ⟨hj, rfl⟩]
            have E1 := Lib.hid e1; clear e1
            go_wp2_with (first | (go_at_call 76; refine (plain_is _ _).mono ?_; rintro e w' ⟨rfl, rfl⟩) | (go_at_call 77; refine (joint_is _ _).mono ?_; rintro e w' ⟨rfl, rfl⟩))
            go_roundw
            case rel => exact ⟨k + 1, true, rfl, by omega, by go_num, rfl, GO⟩
            case measure => simp; omega
          · obtain rfl : was = true := by simpa using hwas
            have hno := NO'.out hpl' (.inr rfl)
            have E1 := Lib.hid e1; clear e1
            go_wp2_with (first | (go_at_call 76; refine (plain_is _ _).mono ?_; rintro e w' ⟨rfl, rfl⟩) | (go_at_call 77; refine (joint_is _ _).mono ?_; rintro e w' ⟨rfl, rfl⟩))
            go_ret
            exact ⟨congrArg (fun x => Ending.returned (Value.bool x)) hno.out.symm, (Below.refl _ _).alloc (Nat.le_refl _) _⟩
        · have hj' : jointB n = false := by simpa using hj
          clear hj
          have hno := NO'.out hpl' (.inl hj')
          go_wp2_with (first | (go_at_call 76; refine (plain_is _ _).mono ?_; rintro e w' ⟨rfl, rfl⟩) | (go_at_call 77; refine (joint_is _ _).mono ?_; rintro e w' ⟨rfl, rfl⟩))
          go_ret
          exact ⟨congrArg (fun x => Ending.returned (Value.bool x)) hno.out.symm, (Below.refl _ _).alloc (Nat.le_refl _) _⟩
    · have hnx : ∀ ty, (Instr.next (.pointer (some ⟨w.heap.size, 0, none⟩)) true ty).run Tryz.prog (w.iter s k) = _ := fun ty => run_next_end w s k ty hp
      have FIN : Hid (B = (decide (3 ≤ k) && decide (k ≤ 63) && !was)) := by
        show _ = _
        have e2 := HW.out
        have hz : s.size = k := by omega
        have e1 : s.data.toList.drop k = [] := List.drop_eq_nil_of_le (by rw [size_list]; omega)
        rw [e1] at e2
        rw [HB.out, hz, ← e2]
        cases was <;> rfl
      go_wp2
      all_goals
        go_ret
        refine ⟨congrArg (fun x => Ending.returned (Value.bool x)) ?_, hb0⟩
        rw [FIN.out]
        simp
        try omega
end Go.Proofs.YtjbjcfnbgcloiaaGreatDoor
