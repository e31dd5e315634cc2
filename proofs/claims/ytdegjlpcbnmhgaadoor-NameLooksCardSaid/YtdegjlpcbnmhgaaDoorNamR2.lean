/- What the document's own answer for paths and the next text computes. -/
import Derived.Test.YtdegjlpcbnmhgaaDoorNamR
import Derived.Lib.SmallJoins
namespace Go.Proofs.YtdegjlpcbnmhgaaDoor
open Go.RowKit Nam

theorem path_take (l : List UInt8) (k : Nat) (hk : k < l.length) : pathB (l.take (k + 1)) = pathB (l.take k) ++ [hexd ((l.getD k 0).toNat / 16), hexd ((l.getD k 0).toNat % 16)] := by
  rw [List.take_succ_eq_append_getElem hk, pathB_append, List.getD_eq_getElem?_getD, List.getElem?_eq_getElem hk]
  rfl

/-- One sign of base 16, cut out of the row of them. -/
theorem dig_cut (i : Nat) (h : i < 16) : ((ByteArray.mk #[48, 49, 50, 51, 52, 53, 54, 55, 56, 57, 97, 98, 99, 100, 101, 102]).extract i (i + 1)).data.toList = [hexd i] := by
  rw [Lib.extract_data]
  match i, h with
  | 0, _ => rfl
  | 1, _ => rfl
  | 2, _ => rfl
  | 3, _ => rfl
  | 4, _ => rfl
  | 5, _ => rfl
  | 6, _ => rfl
  | 7, _ => rfl
  | 8, _ => rfl
  | 9, _ => rfl
  | 10, _ => rfl
  | 11, _ => rfl
  | 12, _ => rfl
  | 13, _ => rfl
  | 14, _ => rfl
  | 15, _ => rfl
  | n + 16, h => omega

set_option maxHeartbeats 2000000 in
theorem rpath_is (s : ByteArray) (w : World) (hs : s.size ≤ 65536) : Calls Tryd.prog 20 #[.string s] w fun e w' => (∃ t : ByteArray, e = .returned (.string t) ∧ t.data.toList = pathB s.data.toList) ∧ Below w.heap.size w w' := by
  go_enter Tryd.func20, Tryd.ntmps20
  go_wp2_with fail
  go_loopw [3, 4] (fun v i wr => ∃ (k : Nat) (t : ByteArray), k ≤ s.size ∧ i = .int .i64 k ∧ v = .string t ∧ t.size = 2 * k ∧ Hid (t.data.toList = pathB (s.data.toList.take k)) ∧ Below w.heap.size w wr)
    (fun _ i _ => s.size - (intOf i).toNat)
  case atStart => exact ⟨0, _, Nat.zero_le _, rfl, rfl, rfl, rfl, Below.refl _ _⟩
  case round =>
    obtain ⟨k, t, hk, rfl, rfl, htz, HT, hbr⟩ := hrel
    by_cases hp : k < s.size
    · have hpz : (k : Int) < (s.size : Int) := by omega
      obtain ⟨x, hx, hx256⟩ : ∃ x : Nat, (s[k]).toNat = x ∧ x < 256 := ⟨_, rfl, (s[k]).toNat_lt⟩
      have hgd : (s.data.toList.getD k 0).toNat = x := by
        rw [← hx, List.getD_eq_getElem?_getD, List.getElem?_eq_getElem (by rw [size_list]; exact hp)]; rfl
      have HP : Hid (pathB (s.data.toList.take (k + 1)) = pathB (s.data.toList.take k) ++ [hexd (x / 16), hexd (x % 16)]) := by
        show _ = _
        rw [path_take _ _ (by rw [size_list]; exact hp), hgd]
      clear hgd
      have hand : bits .and .u8 (x : Int) 15 = (x : Int) % 16 := u8_and15 _ (by omega) (by omega)
      have q0 : 0 ≤ (x : Int) / 16 := by omega
      have q1 : (x : Int) / 16 < 16 := by omega
      have q2 : 0 ≤ (x : Int) % 16 := by omega
      have q3 : (x : Int) % 16 < 16 := by omega
      have q4 : ((x : Int) / 16).toNat = x / 16 := by omega
      have q5 : ((x : Int) % 16).toNat = x % 16 := by omega
      have q6 : ((x : Int) / 16 + 1).toNat = x / 16 + 1 := by omega
      have q7 : ((x : Int) % 16 + 1).toNat = x % 16 + 1 := by omega
      have q8 : (x : Int) / 16 + 1 ≤ 16 := by omega
      have q9 : (x : Int) % 16 + 1 ≤ 16 := by omega
      have w1 : IntKind.u8.wrap ((x : Int) / 16 + 1) = (x : Int) / 16 + 1 := IntWalk.u8_in _ ⟨by omega, by omega⟩
      have w2 : IntKind.u8.wrap ((x : Int) % 16 + 1) = (x : Int) % 16 + 1 := IntWalk.u8_in _ ⟨by omega, by omega⟩
      have sl1 : ∀ W : World, (Instr.slice 9 (.string ⟨#[48, 49, 50, 51, 52, 53, 54, 55, 56, 57, 97, 98, 99, 100, 101, 102]⟩) (some (.int .u8 ((x : Int) / 16))) (some (.int .u8 ((x : Int) / 16 + 1))) none).run Tryd.prog W = .ok (.string ((ByteArray.mk #[48, 49, 50, 51, 52, 53, 54, 55, 56, 57, 97, 98, 99, 100, 101, 102]).extract (x / 16) (x / 16 + 1))) W := fun W => by
        have := run_slice_string (P := Tryd.prog) W 9 ⟨#[48, 49, 50, 51, 52, 53, 54, 55, 56, 57, 97, 98, 99, 100, 101, 102]⟩ .u8 .u8 ((x : Int) / 16) ((x : Int) / 16 + 1) Tryd.underlying9 q0 (by omega) q8
        rw [q4, q6] at this
        exact this
      have sl2 : ∀ W : World, (Instr.slice 9 (.string ⟨#[48, 49, 50, 51, 52, 53, 54, 55, 56, 57, 97, 98, 99, 100, 101, 102]⟩) (some (.int .u8 ((x : Int) % 16))) (some (.int .u8 ((x : Int) % 16 + 1))) none).run Tryd.prog W = .ok (.string ((ByteArray.mk #[48, 49, 50, 51, 52, 53, 54, 55, 56, 57, 97, 98, 99, 100, 101, 102]).extract (x % 16) (x % 16 + 1))) W := fun W => by
        have := run_slice_string (P := Tryd.prog) W 9 ⟨#[48, 49, 50, 51, 52, 53, 54, 55, 56, 57, 97, 98, 99, 100, 101, 102]⟩ .u8 .u8 ((x : Int) % 16) ((x : Int) % 16 + 1) Tryd.underlying9 q2 (by omega) q9
        rw [q5, q7] at this
        exact this
      have ht1 := dig_cut (x / 16) (by omega)
      have ht2 := dig_cut (x % 16) (by omega)
      generalize (ByteArray.mk #[48, 49, 50, 51, 52, 53, 54, 55, 56, 57, 97, 98, 99, 100, 101, 102]).extract (x / 16) (x / 16 + 1) = t1 at sl1 ht1
      generalize (ByteArray.mk #[48, 49, 50, 51, 52, 53, 54, 55, 56, 57, 97, 98, 99, 100, 101, 102]).extract (x % 16) (x % 16 + 1) = t2 at sl2 ht2
      have z1 : t1.size = 1 := by rw [← size_list, ht1]; rfl
      have z2 : t2.size = 1 := by rw [← size_list, ht2]; rfl
      have HT1 := Lib.hid ht1; clear ht1
      have HT2 := Lib.hid ht2; clear ht2
      have sa1 : ∀ W : World, (Op.stringOp .add t t1).run Tryd.prog W = .ok (.string (t ++ t1)) W := fun W => run_string_add_sum W _ _ (by omega)
      have sa2 : ∀ W : World, (Op.stringOp .add (t ++ t1) t2).run Tryd.prog W = .ok (.string (t ++ t1 ++ t2)) W := fun W => run_string_add_sum W _ _ (by rw [ByteArray.size_append']; omega)
      have n1 : ¬ (t.size + t1.size > 9223372036854775807) := by omega
      have n2 : ¬ (9223372036854775807 < t.size + t1.size + t2.size) := by omega
      have n3 : t.size + t1.size + t2.size ≤ 9223372036854775807 := by omega
      have n4 : t.size + t1.size ≤ 9223372036854775807 := by omega
      have HTZ := Lib.hid htz; clear htz
      have HZ1 := Lib.hid z1; clear z1
      have HZ2 := Lib.hid z2; clear z2
      clear q4 q5 q6 q7
      go_wp2_with fail
      go_quiet (fail)
      go_wp2
      go_roundw
      case rel =>
        refine ⟨k + 1, _, by omega, by go_num, rfl, ?_, (show Hid _ from ?_), hbr.drewN nq⟩
        · rw [ByteArray.size_append', ByteArray.size_append', HZ1.out, HZ2.out, HTZ.out]
          omega
        · show _ = _
          rw [HP.out, ByteArray.data_append, Array.toList_append, ByteArray.data_append, Array.toList_append, HT.out, HT1.out, HT2.out, List.append_assoc]
          rfl
      case measure => simp [intOf]; omega
    · have hpz : (s.size : Int) ≤ (k : Int) := by omega
      have hks : k = s.size := by omega
      have HKS := Lib.hid hks; clear hks
      go_wp2
      go_ret
      refine ⟨⟨t, rfl, ?_⟩, hbr⟩
      rw [HT.out, HKS.out, List.take_of_length_le (by rw [size_list]; omega)]

set_option maxHeartbeats 2000000 in
theorem rnext_is (s : ByteArray) (w : World) (hs : s.size ≤ 65536) : Calls Tryd.prog 23 #[.string s] w fun e w' => (∃ t : ByteArray, e = .returned (.string t) ∧ t.data.toList = (nextR s.data.toList).getD [] ∧ t.size ≤ s.size) ∧ Below w.heap.size w w' := by
  go_enter Tryd.func23, Tryd.ntmps23
  go_wp2_with fail
  go_loop [3] (fun v => ∃ n : Nat, v = .int .i64 n ∧ n ≤ s.size ∧ Hid (High s n)) (fun v => (intOf v).toNat)
  case atStart => exact ⟨s.size, rfl, Nat.le_refl _, fun c hc => by rw [List.drop_eq_nil_of_le (by rw [size_list]; omega)] at hc; cases hc⟩
  case round =>
    obtain ⟨n, rfl, hn, HH⟩ := hrel
    by_cases h0 : n = 0
    · subst h0
      go_wp2
      go_ret
      exact ⟨⟨_, rfl, by rw [next_none s HH.out]; rfl, Nat.zero_le _⟩, Below.refl _ _⟩
    · obtain ⟨m, rfl⟩ : ∃ m, n = m + 1 := ⟨n - 1, by omega⟩
      have hm : m < s.size := by omega
      have hmz : (m : Int) < (s.size : Int) := by omega
      by_cases h5 : s[m] = 255
      · have hb5 : ((s[m].toNat : Int) == 255) = true := by rw [h5]; rfl
        have HG : Hid (High s m) := by
          intro c hc
          rw [drop_at s m hm] at hc
          rcases List.mem_cons.1 hc with rfl | hc
          · exact h5
          · exact HH.out c hc
        have H5 := Lib.hid h5; clear h5
        go_wp2
        go_round
        case rel => exact ⟨m, rfl, by omega, HG⟩
        case measure => simp [intOf]
      · have hb5 : ((s[m].toNat : Int) == 255) = false := by
          rw [beq_eq_false_iff_ne]
          intro h
          exact h5 (UInt8.toNat_inj.1 (by simp; omega))
        have hlt : s[m].toNat < 255 := by
          have := s[m].toNat_lt
          have h6 : s[m].toNat ≠ 255 := fun e => h5 (UInt8.toNat_inj.1 (by simp [e]))
          omega
        have hw8 : IntKind.u8.wrap ((s[m].toNat : Int) + 1) = (s[m].toNat : Int) + 1 := IntWalk.u8_in _ ⟨by omega, by omega⟩
        have hcv : (convert 31 9 (.slice (some ⟨w.heap.size, 0, none⟩) 1 1)).run Tryd.prog (w.alloc (.cells #[.int .u8 ((s[m].toNat : Int) + 1)] 5)).drew = .ok (.string (strOfNums [(s[m].toNat : Int) + 1])) (w.alloc (.cells #[.int .u8 ((s[m].toNat : Int) + 1)] 5)).drew := by
          refine run_convert_bytes_arg _ 31 5 Tryd.underlying31 Tryd.underlying5 w.heap.size 0 1 1 _ rfl (fun i hi => ?_) _ Tryd.underlying9
          obtain rfl : i = 0 := by omega
          simp
        have H5 := Lib.hid h5; clear h5
        have sz1 : (s.extract 0 m).size = m := by rw [← size_list, Lib.extract_data]; simp; omega
        have sz2 : (strOfNums [(s[m].toNat : Int) + 1]).size = 1 := by rw [strOfNums_size]; rfl
        have sa1 : ∀ W : World, (Op.stringOp .add (s.extract 0 m) (strOfNums [(s[m].toNat : Int) + 1])).run Tryd.prog W = .ok (.string (s.extract 0 m ++ strOfNums [(s[m].toNat : Int) + 1])) W := fun W => run_string_add_sum W _ _ (by omega)
        have n1 : ¬ (9223372036854775807 < (s.extract 0 m).size + (strOfNums [(s[m].toNat : Int) + 1]).size) := by omega
        have n2 : (s.extract 0 m).size + (strOfNums [(s[m].toNat : Int) + 1]).size ≤ 9223372036854775807 := by omega
        have n3 : m + 1 ≤ 9223372036854775807 := by omega
        have SZ1 := Lib.hid sz1; clear sz1
        have SZ2 := Lib.hid sz2; clear sz2
        go_wp2_with fail
        go_big_region
        all_goals go_wp2
        all_goals
          go_ret
          refine ⟨⟨_, rfl, ?_, ?_⟩, (((Below.refl _ _).alloc (Nat.le_refl _) _).drew)⟩
          · rw [next_some s m hm HH.out H5.out, ByteArray.data_append, Array.toList_append, Lib.extract_data, strOfNums_data]
            simp
          · rw [ByteArray.size_append', SZ1.out, SZ2.out]
            omega

end Go.Proofs.YtdegjlpcbnmhgaaDoor
