/- What the document's own answer for names computes: the same contracts (without paths). -/
import Derived.Test.YtjbjcfnbgcloiaaGreatDoorNamK
namespace Go.Proofs.YtjbjcfnbgcloiaaGreatDoor
open Go.RowKit Nam

set_option maxHeartbeats 400000 in
theorem rprefix_is (a b : ByteArray) (w : World) (ha : a.size ≤ maxLen) (hb : b.size ≤ maxLen) : Calls Tryz.prog 100 #[.string a, .string b] w fun e w' => e = .returned (.bool (prefixB a.data.toList b.data.toList)) ∧ w = w' := by
  unfold maxLen at ha hb
  by_cases h : b.size ≤ a.size
  · have hz : (b.size : Int) ≤ (a.size : Int) := by omega
    go_enter Tryz.func100, Tryz.ntmps100
    go_wp2
    go_ret
    refine ⟨congrArg (fun x => Ending.returned (Value.bool x)) ?_, rfl⟩
    unfold prefixB
    rw [ByteArray.toList_eq, ByteArray.toList_eq, Lib.extract_data, size_list, size_list]
    simp [h]
  · have hz : (a.size : Int) < (b.size : Int) := by omega
    go_enter Tryz.func100, Tryz.ntmps100
    go_wp2
    go_ret
    refine ⟨congrArg (fun x => Ending.returned (Value.bool x)) ?_, rfl⟩
    unfold prefixB
    rw [size_list, size_list, decide_eq_false h]
    rfl

set_option maxHeartbeats 1000000 in
theorem rless_is (a b : ByteArray) (w : World) (ha : a.size ≤ maxLen) (hb : b.size ≤ maxLen) : Calls Tryz.prog 66 #[.string a, .string b] w fun e w' => e = .returned (.bool (Op.bytesLess a.toList b.toList)) ∧ ∃ n, w' = w.drewN n := by
  unfold maxLen at ha hb
  obtain ⟨L, hL⟩ : ∃ L, Op.bytesLess a.toList b.toList = L := ⟨_, rfl⟩
  rw [hL]
  rw [ByteArray.toList_eq, ByteArray.toList_eq] at hL
  go_enter Tryz.func66, Tryz.ntmps66
  go_wp2_with fail
  go_loopw [5] (fun v wr => ∃ k q : Nat, v = .int .i64 k ∧ k ≤ a.size ∧ k ≤ b.size ∧ wr = w.drewN q ∧ Hid (Op.bytesLess (a.data.toList.drop k) (b.data.toList.drop k) = L)) (fun v _ => a.size - (intOf v).toNat)
  case atStart => exact ⟨0, 0, rfl, Nat.zero_le _, Nat.zero_le _, rfl, hL⟩
  case round =>
    obtain ⟨k, q, rfl, hka, hkb, rfl, HL⟩ := hrel
    clear hL
    by_cases pa : k < a.size
    · by_cases pb : k < b.size
      · have pza : (k : Int) < (a.size : Int) := by omega
        have pzb : (k : Int) < (b.size : Int) := by omega
        have hl := HL.out
        rw [drop_at a k pa, drop_at b k pb, less_cons] at hl
        by_cases hne : a[k] = b[k]
        · have hl2 : Hid (Op.bytesLess (a.data.toList.drop (k + 1)) (b.data.toList.drop (k + 1)) = L) := by
            show _ = _
            rw [hne] at hl
            simpa using hl
          have hbb : ((a[k].toNat : Int) == (b[k].toNat : Int)) = true := by rw [beq_iff_eq, hne]
          clear hl HL hne
          go_wp2_with fail
          go_quiet (fail)
          go_wp2
          go_roundw
          case rel => exact ⟨k + 1, q + nq, by go_num, by omega, by omega, by first | rfl | rw [World.drewN_drewN], hl2⟩
          case measure => simp [intOf]; omega
        · have hbb : ((a[k].toNat : Int) == (b[k].toNat : Int)) = false := by
            rw [beq_eq_false_iff_ne]
            intro h
            exact hne (UInt8.toNat_inj.1 (by omega))
          have hr : Hid (decide ((a[k].toNat : Int) < (b[k].toNat : Int)) = L) := by
            show _ = _
            have e : (a[k] == b[k]) = false := by simpa using hne
            rw [e, Bool.false_and, Bool.or_false] at hl
            rw [← hl, Bool.eq_iff_iff, decide_eq_true_eq, decide_eq_true_eq, UInt8.lt_iff_toNat_lt]
            omega
          clear hl HL hne
          go_wp2_with fail
          go_quiet (fail)
          go_wp2_with fail
          go_quiet (fail)
          go_wp2
          go_ret
          exact ⟨congrArg (fun x => Ending.returned (Value.bool x)) (by have h0 := hr.out; simpa using h0), _, by rw [World.drewN_drewN, World.drewN_drewN]⟩
      · have pzb : (b.size : Int) ≤ (k : Int) := by omega
        have hl : L = false := by
          have e0 : b.data.toList.drop k = [] := List.drop_eq_nil_of_le (by rw [size_list]; omega)
          rw [← HL.out, e0, less_nil]
        subst hl
        clear HL
        go_wp2
        go_ret
        exact ⟨congrArg (fun x => Ending.returned (Value.bool x)) (by rw [decide_eq_false_iff_not]; omega), q, rfl⟩
    · have pza : (a.size : Int) ≤ (k : Int) := by omega
      have hl : Hid (L = decide ((a.size : Int) < (b.size : Int))) := by
        show _ = _
        have e0 : a.data.toList.drop k = [] := List.drop_eq_nil_of_le (by rw [size_list]; omega)
        rw [← HL.out, e0]
        by_cases pb : k < b.size
        · rw [drop_at b k pb, decide_eq_true (by omega)]
          rfl
        · rw [List.drop_eq_nil_of_le (by rw [size_list]; omega), decide_eq_false (by omega)]
          rfl
      clear HL
      go_wp2
      go_ret
      exact ⟨congrArg (fun x => Ending.returned (Value.bool x)) (by have h0 := hl.out.symm; simpa using h0), q, rfl⟩

theorem bw_cons (was : Bool) (c : UInt8) (t : List UInt8) : bw was (c :: t) = if plainB (c.toNat : Int) then bw false t else if jointB (c.toNat : Int) = true ∧ was = false then bw true t else none := by
  conv => lhs; unfold bw

set_option maxHeartbeats 2000000 in
theorem rbucket_is (s : ByteArray) (w : World) (hs : s.size ≤ maxLen) : Calls Tryz.prog 18 #[.string s] w fun e w' => e = .returned (.bool (bucketB s.data.toList)) ∧ w = w' := by
  unfold maxLen at hs
  obtain ⟨R, hR⟩ : ∃ R, bw true s.data.toList = R := ⟨_, rfl⟩
  have hB : bucketB s.data.toList = (decide (3 ≤ s.size) && decide (s.size ≤ 63) && (R == some false)) := by rw [← hR]; unfold bucketB; rw [size_list]
  rw [hB]
  clear hB
  by_cases h3 : 3 ≤ s.size ∧ s.size ≤ 63
  · rw [decide_eq_true h3.1, decide_eq_true h3.2, Bool.true_and, Bool.true_and]
    have z1 : (3 : Int) ≤ (s.size : Int) := by omega
    have z2 : (s.size : Int) ≤ 63 := by omega
    have HR := Lib.hid hR; clear hR
    go_enter Tryz.func18, Tryz.ntmps18
    go_wp2_with fail
    go_loop [3, 4] (fun m v => ∃ (k : Nat) (was : Bool), k ≤ s.size ∧ v = .int .i64 k ∧ m = .bool was ∧ Hid (bw was (s.data.toList.drop k) = R)) (fun _ v => s.size - (intOf v).toNat)
    case atStart => exact ⟨0, true, Nat.zero_le _, rfl, rfl, by exact HR⟩
    case round =>
      obtain ⟨k, was, hk, rfl, rfl, HW⟩ := hrel
      by_cases hp : k < s.size
      · have hpz : (k : Int) < (s.size : Int) := by omega
        have hw := HW.out
        rw [drop_at s k hp, bw_cons] at hw
        obtain ⟨n, hn⟩ : ∃ n, (s[k]).toNat = n := ⟨_, rfl⟩
        rw [hn] at hw
        by_cases hpl : plainB (n : Int) = true
        · rw [if_pos hpl] at hw
          have HW2 := Lib.hid hw; clear hw
          unfold plainB at hpl
          simp only [Bool.or_eq_true, Bool.and_eq_true, decide_eq_true_eq] at hpl
          have b1 : ((n : Int) == 45) = false := by rw [beq_eq_false_iff_ne]; omega
          have b2 : ((n : Int) == 46) = false := by rw [beq_eq_false_iff_ne]; omega
          rcases hpl with ⟨p1, p2⟩ | ⟨p1, p2⟩
          · go_wp2
            go_round
            case rel => exact ⟨k + 1, false, by omega, by go_num, rfl, HW2⟩
            case measure => simp [intOf]; omega
          · have p3 : (n : Int) < 97 := by omega
            go_wp2
            go_round
            case rel => exact ⟨k + 1, false, by omega, by go_num, rfl, HW2⟩
            case measure => simp [intOf]; omega
        · rw [if_neg hpl] at hw
          unfold plainB at hpl
          simp only [Bool.or_eq_true, Bool.and_eq_true, decide_eq_true_eq] at hpl
          by_cases hj : jointB (n : Int) = true
          · unfold jointB at hj
            simp only [Bool.or_eq_true, beq_iff_eq] at hj
            cases was
            · rw [if_pos ⟨by unfold jointB; simpa using hj, rfl⟩] at hw
              have HW2 := Lib.hid hw; clear hw
              rcases hj with hj | hj
              all_goals
                obtain rfl : n = _ := by exact_mod_cast hj
                go_wp2
                go_round
                case rel => exact ⟨k + 1, true, by omega, by go_num, rfl, HW2⟩
                case measure => simp [intOf]; omega
            · rw [if_neg (by simp)] at hw
              have hf : (R == some false) = false := by rw [← hw]; rfl
              have HF := Lib.hid hf; clear hf
              clear hw HW
              rcases hj with hj | hj
              all_goals
                obtain rfl : n = _ := by exact_mod_cast hj
                go_wp2
                go_ret
                exact ⟨congrArg (fun x => Ending.returned (Value.bool x)) HF.out.symm, rfl⟩
          · rw [if_neg (by simp [hj])] at hw
            have hf : (R == some false) = false := by rw [← hw]; rfl
            have HF := Lib.hid hf; clear hf
            clear hw HW
            unfold jointB at hj
            simp only [Bool.or_eq_true, beq_iff_eq] at hj
            have b1 : ((n : Int) == 45) = false := by rw [beq_eq_false_iff_ne]; omega
            have b2 : ((n : Int) == 46) = false := by rw [beq_eq_false_iff_ne]; omega
            go_wp2
            all_goals
              first
              | (exfalso; omega)
              | (go_ret; exact ⟨congrArg (fun x => Ending.returned (Value.bool x)) HF.out.symm, rfl⟩)
      · have hpz : (s.size : Int) ≤ (k : Int) := by omega
        have hw := HW.out
        rw [List.drop_eq_nil_of_le (by rw [size_list]; omega)] at hw
        have hr : (R == some false) = !was := by rw [← hw]; cases was <;> rfl
        have HF := Lib.hid hr; clear hr
        clear hw HW HR
        go_wp2
        go_ret
        exact ⟨congrArg (fun x => Ending.returned (Value.bool x)) HF.out.symm, rfl⟩
  · have hf : (decide (3 ≤ s.size) && decide (s.size ≤ 63) && (R == some false)) = false := by
      by_cases h1 : 3 ≤ s.size
      · rw [decide_eq_false (by omega : ¬ s.size ≤ 63)]; simp
      · rw [decide_eq_false h1]; simp
    rw [hf]
    clear hR hf
    go_enter Tryz.func18, Tryz.ntmps18
    go_wp2_with fail
    all_goals
      first
      | (exfalso; omega)
      | (go_ret; exact ⟨rfl, rfl⟩)

set_option maxHeartbeats 2000000 in
theorem rkey_is (s : ByteArray) (w : World) (hs : s.size ≤ maxLen) (hT : Tabs w) : Calls Tryz.prog 19 #[.string s] w fun e w' => e = .returned (.bool (keyB s.data.toList)) ∧ Below w.heap.size w w' := by
  have hV := valid_is s w hs hT
  unfold maxLen at hs
  have HV := Lib.hid hV; clear hV
  have HT := Lib.hid hT; clear hT
  have hlist : s.toList = s.data.toList := ByteArray.toList_eq s
  by_cases h0 : s.toList = []
  · have hk : keyB s.data.toList = false := by unfold keyB; rw [← hlist, h0]; rfl
    rw [hk]; clear hk
    clear hlist
    go_enter Tryz.func19, Tryz.ntmps19
    go_wp2
    go_ret
    exact ⟨rfl, Below.refl _ _⟩
  · have h0e : s.toList.isEmpty = false := by simpa using h0
    by_cases h2 : s.size ≤ 200
    · have h2z : (s.size : Int) ≤ 200 := by omega
      by_cases hv : Lib.validD s.data.toList = true
      · obtain ⟨R, hR⟩ : ∃ R, s.data.toList.all keyByte = R := ⟨_, rfl⟩
        have hk : keyB s.data.toList = R := by
          unfold keyB
          rw [hR, hv, size_list, decide_eq_true h2, decide_eq_true (by rw [← hlist]; exact h0)]
          simp
        rw [hk]; clear hk hlist
        rw [hv] at HV
        have H0 := Lib.hid h0; clear h0
        have HR : Hid (Lib.validD (s.data.toList.drop 0) = true ∧ (s.data.toList.drop 0).all keyByte = R) := ⟨hv, hR⟩
        clear hv hR
        go_enter Tryz.func19, Tryz.ntmps19
        go_wp2_with fail
        refine HV.out.mono ?_
        rintro e w1 ⟨rfl, hb1⟩
        go_wp2_with fail
        go_loopw [] (fun w' => ∃ (k : Nat), w' = w1.iter s k ∧ k ≤ s.size ∧ Hid (Lib.validD (s.data.toList.drop k) = true ∧ (s.data.toList.drop k).all keyByte = R)) (fun w' => s.size - w'.iterPos w1.heap.size)
        case atStart => exact ⟨0, rfl, Nat.zero_le _, HR⟩
        case round =>
          obtain ⟨k, rfl, hk, HK⟩ := hrel
          have hb2 : Below w.heap.size w (w1.iter s k) := hb1.alloc hb1.size _
          by_cases hp : k < s.size
          · have hnx : ∀ ty, (Instr.next (.pointer (some ⟨w1.heap.size, 0, none⟩)) true ty).run Tryz.prog (w1.iter s k) = _ := fun ty => run_next_any w1 s k ty hp
            have hne : s.data.toList.drop k ≠ [] := by
              intro e
              have := congrArg List.length e
              rw [List.length_drop, size_list] at this
              simp at this; omega
            have hw1 := width_pos s k hp
            have hle := decode_le s k
            have hdl := Lib.decodeL_drop s k
            have hd := drop_at s k hp
            obtain ⟨n, p2, hnp⟩ : ∃ n p2, Utf8.decode s k = (n, p2) := ⟨_, _, rfl⟩
            have STEP : Hid ((n < 128 → p2 = 1 ∧ Lib.validD (s.data.toList.drop (k + 1)) = true ∧ R = (decide (32 ≤ n) && decide (n ≠ 127) && (s.data.toList.drop (k + 1)).all keyByte)) ∧
                (128 ≤ n → k + p2 ≤ s.size ∧ Lib.validD (s.data.toList.drop (k + p2)) = true ∧ (s.data.toList.drop (k + p2)).all keyByte = R)) := by
              show _ ∧ _
              obtain ⟨kv, ka⟩ := HK.out
              by_cases ha : (s[k]).toNat < 128
              · have h1 := decode_ascii s k hp ha
                rw [hnp] at h1
                obtain ⟨e1, e2⟩ := Prod.mk.inj h1
                refine ⟨fun _ => ⟨e2, ?_, ?_⟩, fun h => by omega⟩
                · rw [hd, Lib.validD_cons _ _ ha] at kv
                  exact kv
                · rw [hd, List.all_cons] at ka
                  rw [← ka, e1]
                  rfl
              · have h1 := decode_high s k hp (by omega)
                rw [hnp] at h1
                have h128 : 128 ≤ (((s.data.toList.drop k).getD 0 0)).toNat := by
                  rw [hd]; simp; omega
                have hh := high_key _ hne h128 kv
                have hl := Lib.decodeL_le _ hne
                rw [hdl, hnp] at hh hl
                rw [List.drop_drop] at hh
                simp only [] at hh hl
                rw [List.length_drop, size_list] at hl
                exact ⟨fun h => by have := h1.1; simp at this; omega, fun _ => ⟨by omega, hh.1, by rw [← hh.2]; exact ka⟩⟩
            rw [hnp] at hle hnx hw1
            simp only [] at hle hnx hw1
            clear hnp hne hdl hd
            have h32 : IntKind.i32.wrap (n : Int) = (n : Int) := IntWalk.i32_in _ (by omega)
            by_cases hn : n < 128
            · obtain ⟨rfl, sv, sr⟩ := STEP.out.1 hn
              have SR := Lib.hid sr; clear sr
              by_cases hn32 : n < 32
              · have hz : (n : Int) < 32 := by omega
                have hrf : R = false := by rw [SR.out, decide_eq_false (by omega : ¬ 32 ≤ n)]; rfl
                have HRF := Lib.hid hrf; clear hrf
                go_wp2
                go_ret
                exact ⟨congrArg (fun x => Ending.returned (Value.bool x)) HRF.out.symm, hb1.alloc hb1.size _⟩
              · have hz : (32 : Int) ≤ (n : Int) := by omega
                by_cases hn7 : n = 127
                · have hrf : R = false := by rw [SR.out, hn7]; rfl
                  have HRF := Lib.hid hrf; clear hrf
                  have hz7 : ((n : Int) == 127) = true := by rw [beq_iff_eq]; omega
                  have HN7 := Lib.hid hn7; clear hn7
                  go_wp2
                  go_ret
                  exact ⟨congrArg (fun x => Ending.returned (Value.bool x)) HRF.out.symm, hb1.alloc hb1.size _⟩
                · have hz7 : ((n : Int) == 127) = false := by rw [beq_eq_false_iff_ne]; omega
                  have hg : (s.data.toList.drop (k + 1)).all keyByte = R := by rw [SR.out, decide_eq_true (by omega : 32 ≤ n), decide_eq_true hn7]; simp
                  have HG := Lib.hid hg; clear hg
                  go_wp2
                  go_roundw
                  case rel => exact ⟨k + 1, rfl, by omega, ⟨sv, HG.out⟩⟩
                  case measure => simp; omega
            · obtain ⟨s1, s2, s3⟩ := STEP.out.2 (by omega)
              have S3 := Lib.hid s3; clear s3
              have hz : (32 : Int) ≤ (n : Int) := by omega
              have hz7 : ((n : Int) == 127) = false := by rw [beq_eq_false_iff_ne]; omega
              go_wp2
              go_roundw
              case rel => exact ⟨k + p2, rfl, by omega, ⟨s2, S3.out⟩⟩
              case measure => simp; omega
          · have hnx : ∀ ty, (Instr.next (.pointer (some ⟨w1.heap.size, 0, none⟩)) true ty).run Tryz.prog (w1.iter s k) = _ := fun ty => run_next_end w1 s k ty hp
            have hr : R = true := by
              have e2 := HK.out.2
              rw [List.drop_eq_nil_of_le (by rw [size_list]; omega)] at e2
              exact e2.symm
            have HRT := Lib.hid hr; clear hr
            go_wp2
            go_ret
            exact ⟨congrArg (fun x => Ending.returned (Value.bool x)) HRT.out.symm, hb2⟩
      · have hk : keyB s.data.toList = false := by unfold keyB; simp [hv]
        rw [hk]; clear hk hlist
        have hv' : Lib.validD s.data.toList = false := by simpa using hv
        rw [hv'] at HV
        clear hv hv'
        go_enter Tryz.func19, Tryz.ntmps19
        go_wp2_with fail
        refine HV.out.mono ?_
        rintro e w1 ⟨rfl, hb1⟩
        go_wp2
        go_ret
        exact ⟨rfl, hb1⟩
    · have h2z : (200 : Int) < (s.size : Int) := by omega
      have hk : keyB s.data.toList = false := by unfold keyB; rw [size_list, decide_eq_false h2]; simp
      rw [hk]; clear hk
      clear hlist
      go_enter Tryz.func19, Tryz.ntmps19
      go_wp2
      go_ret
      exact ⟨rfl, Below.refl _ _⟩
end Go.Proofs.YtjbjcfnbgcloiaaGreatDoor
