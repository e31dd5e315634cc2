/- What package name's functions compute (keys, the order, prefixes, the next text): contracts over lists of bytes. -/
import Derived.Test.YtjbjcfnbgcloiaaGreatDoorNam
import Derived.Test.YtjbjcfnbgcloiaaGreatDoorLaysN
import Derived.Shelf.Unicode.ValidAny
namespace Go.Proofs.YtjbjcfnbgcloiaaGreatDoor
open Go.RowKit Nam

/-- utf8's two tables stand as their initialisers lay them. -/
def Tabs (w : World) : Prop := Lib.Utf8Tabs (Tryz.laysValid_ren.g 3) (Tryz.laysValid_ren.g 4) w
theorem Tabs.below {w w' : World} (h : Tabs w) (hb : Below w.heap.size w w') : Tabs w' := Utf8Tabs_below h hb

theorem valid_is (s : ByteArray) (w : World) (hs : s.size ≤ maxLen) (hT : Tabs w) :
    Calls Tryz.prog 54 #[.string s] w fun e w' => e = .returned (.bool (Lib.validD s.data.toList)) ∧ Below w.heap.size w w' :=
  Any.utf8_ValidString Tryz.laysValid s w (by unfold maxLen at hs; omega) hT

set_option maxHeartbeats 400000 in
theorem less_is (a b : ByteArray) (w : World) : Calls Tryz.prog 90 #[.string a, .string b] w fun e w' => e = .returned (.bool (Op.bytesLess a.toList b.toList)) ∧ w = w' := by
  go_enter Tryz.func90, Tryz.ntmps90
  go_wp2
  go_ret
  exact ⟨rfl, rfl⟩

set_option maxHeartbeats 400000 in
theorem lprefix_is (a b : ByteArray) (w : World) (ha : a.size ≤ maxLen) (hb : b.size ≤ maxLen) : Calls Tryz.prog 127 #[.string a, .string b] w fun e w' => e = .returned (.bool (prefixB a.data.toList b.data.toList)) ∧ w = w' := by
  unfold maxLen at ha hb
  by_cases h : b.size ≤ a.size
  · have hz : (b.size : Int) ≤ (a.size : Int) := by omega
    go_enter Tryz.func127, Tryz.ntmps127
    go_wp2
    go_ret
    refine ⟨congrArg (fun x => Ending.returned (Value.bool x)) ?_, rfl⟩
    unfold prefixB
    rw [ByteArray.toList_eq, ByteArray.toList_eq, Lib.extract_data, size_list, size_list]
    simp [h]
  · have hz : (a.size : Int) < (b.size : Int) := by omega
    go_enter Tryz.func127, Tryz.ntmps127
    go_wp2
    go_ret
    refine ⟨congrArg (fun x => Ending.returned (Value.bool x)) ?_, rfl⟩
    unfold prefixB
    rw [size_list, size_list, decide_eq_false h]
    rfl

set_option maxHeartbeats 400000 in
theorem hasprefix_is (a b : ByteArray) (w : World) (ha : a.size ≤ maxLen) (hb : b.size ≤ maxLen) : Calls Tryz.prog 118 #[.string a, .string b] w fun e w' => e = .returned (.bool (prefixB a.data.toList b.data.toList)) ∧ w = w' := by
  go_enter Tryz.func118, Tryz.ntmps118
  go_wp2_with (go_at_call 127; refine (lprefix_is _ _ _ ha hb).mono ?_; rintro e w' ⟨rfl, rfl⟩)
  go_ret
  exact ⟨rfl, rfl⟩

set_option maxHeartbeats 400000 in
theorem prefix_is (a b : ByteArray) (w : World) (ha : a.size ≤ maxLen) (hb : b.size ≤ maxLen) : Calls Tryz.prog 99 #[.string a, .string b] w fun e w' => e = .returned (.bool (prefixB a.data.toList b.data.toList)) ∧ w = w' := by
  go_enter Tryz.func99, Tryz.ntmps99
  go_wp2_with (go_at_call 118; refine (hasprefix_is _ _ _ ha hb).mono ?_; rintro e w' ⟨rfl, rfl⟩)
  go_ret
  exact ⟨rfl, rfl⟩

set_option maxHeartbeats 2000000 in
theorem key_is (s : ByteArray) (w : World) (hs : s.size ≤ maxLen) (hT : Tabs w) : Calls Tryz.prog 78 #[.string s] w fun e w' => e = .returned (.bool (keyB s.data.toList)) ∧ Below w.heap.size w w' := by
  have hV := valid_is s w hs hT
  unfold maxLen at hs
  have HV := Lib.hid hV; clear hV
  have HT := Lib.hid hT; clear hT
  have hlist : s.toList = s.data.toList := ByteArray.toList_eq s
  by_cases h0 : s.toList = []
  · have hk : keyB s.data.toList = false := by unfold keyB; rw [← hlist, h0]; rfl
    rw [hk]; clear hk
    clear hlist
    go_enter Tryz.func78, Tryz.ntmps78
    go_wp2
    go_ret
    exact ⟨rfl, Below.refl _ _⟩
  · have h0e : s.toList.isEmpty = false := by simpa using h0
    by_cases h2 : s.size ≤ 200
    · have h2z : (s.size : Int) ≤ 200 := by omega
      by_cases hv : Lib.validD s.data.toList = true
      · obtain ⟨R, hR⟩ : ∃ R, s.data.toList.all keyByte = R := ⟨_, rfl⟩
        have hk : keyB s.data.toList = R := by
          unfold keyB
          rw [hR, hv, size_list, decide_eq_true h2, decide_eq_true (by rw [← hlist]; exact h0)]
          simp
        rw [hk]; clear hk hlist
        rw [hv] at HV
        have H0 := Lib.hid h0; clear h0
        have HR : Hid (Lib.validD (s.data.toList.drop 0) = true ∧ (s.data.toList.drop 0).all keyByte = R) := ⟨hv, hR⟩
        clear hv hR
        go_enter Tryz.func78, Tryz.ntmps78
        go_wp2_with fail
        refine HV.out.mono ?_
        rintro e w1 ⟨rfl, hb1⟩
        go_wp2_with fail
        go_loopw [] (fun w' => ∃ (k : Nat), w' = w1.iter s k ∧ k ≤ s.size ∧ Hid (Lib.validD (s.data.toList.drop k) = true ∧ (s.data.toList.drop k).all keyByte = R)) (fun w' => s.size - w'.iterPos w1.heap.size)
        case atStart => exact ⟨0, rfl, Nat.zero_le _, HR⟩
        case round =>
          obtain ⟨k, rfl, hk, HK⟩ := hrel
          have hb2 : Below w.heap.size w (w1.iter s k) := hb1.alloc hb1.size _
          by_cases hp : k < s.size
          · have hnx : ∀ ty, (Instr.next (.pointer (some ⟨w1.heap.size, 0, none⟩)) true ty).run Tryz.prog (w1.iter s k) = _ := fun ty => run_next_any w1 s k ty hp
            have hne : s.data.toList.drop k ≠ [] := by
              intro e
              have := congrArg List.length e
              rw [List.length_drop, size_list] at this
              simp at this; omega
            have hw1 := width_pos s k hp
            have hle := decode_le s k
            have hdl := Lib.decodeL_drop s k
            have hd := drop_at s k hp
            obtain ⟨n, p2, hnp⟩ : ∃ n p2, Utf8.decode s k = (n, p2) := ⟨_, _, rfl⟩
            have STEP : Hid ((n < 128 → p2 = 1 ∧ Lib.validD (s.data.toList.drop (k + 1)) = true ∧ R = (decide (32 ≤ n) && decide (n ≠ 127) && (s.data.toList.drop (k + 1)).all keyByte)) ∧
                (128 ≤ n → k + p2 ≤ s.size ∧ Lib.validD (s.data.toList.drop (k + p2)) = true ∧ (s.data.toList.drop (k + p2)).all keyByte = R)) := by
              show _ ∧ _
              obtain ⟨kv, ka⟩ := HK.out
              by_cases ha : (s[k]).toNat < 128
              · have h1 := decode_ascii s k hp ha
                rw [hnp] at h1
                obtain ⟨e1, e2⟩ := Prod.mk.inj h1
                refine ⟨fun _ => ⟨e2, ?_, ?_⟩, fun h => by omega⟩
                · rw [hd, Lib.validD_cons _ _ ha] at kv
                  exact kv
                · rw [hd, List.all_cons] at ka
                  rw [← ka, e1]
                  rfl
              · have h1 := decode_high s k hp (by omega)
                rw [hnp] at h1
                have h128 : 128 ≤ (((s.data.toList.drop k).getD 0 0)).toNat := by
                  rw [hd]; simp; omega
                have hh := high_key _ hne h128 kv
                have hl := Lib.decodeL_le _ hne
                rw [hdl, hnp] at hh hl
                rw [List.drop_drop] at hh
                simp only [] at hh hl
                rw [List.length_drop, size_list] at hl
                exact ⟨fun h => by have := h1.1; simp at this; omega, fun _ => ⟨by omega, hh.1, by rw [← hh.2]; exact ka⟩⟩
            rw [hnp] at hle hnx hw1
            simp only [] at hle hnx hw1
            clear hnp hne hdl hd
            have h32 : IntKind.i32.wrap (n : Int) = (n : Int) := IntWalk.i32_in _ (by omega)
            by_cases hn : n < 128
            · obtain ⟨rfl, sv, sr⟩ := STEP.out.1 hn
              have SR := Lib.hid sr; clear sr
              by_cases hn32 : n < 32
              · have hz : (n : Int) < 32 := by omega
                have hrf : R = false := by rw [SR.out, decide_eq_false (by omega : ¬ 32 ≤ n)]; rfl
                have HRF := Lib.hid hrf; clear hrf
                go_wp2
                go_ret
                exact ⟨congrArg (fun x => Ending.returned (Value.bool x)) HRF.out.symm, hb1.alloc hb1.size _⟩
              · have hz : (32 : Int) ≤ (n : Int) := by omega
                by_cases hn7 : n = 127
                · have hrf : R = false := by rw [SR.out, hn7]; rfl
                  have HRF := Lib.hid hrf; clear hrf
                  have hz7 : ((n : Int) == 127) = true := by rw [beq_iff_eq]; omega
                  have HN7 := Lib.hid hn7; clear hn7
                  go_wp2
                  go_ret
                  exact ⟨congrArg (fun x => Ending.returned (Value.bool x)) HRF.out.symm, hb1.alloc hb1.size _⟩
                · have hz7 : ((n : Int) == 127) = false := by rw [beq_eq_false_iff_ne]; omega
                  have hg : (s.data.toList.drop (k + 1)).all keyByte = R := by rw [SR.out, decide_eq_true (by omega : 32 ≤ n), decide_eq_true hn7]; simp
                  have HG := Lib.hid hg; clear hg
                  go_wp2
                  go_roundw
                  case rel => exact ⟨k + 1, rfl, by omega, ⟨sv, HG.out⟩⟩
                  case measure => simp; omega
            · obtain ⟨s1, s2, s3⟩ := STEP.out.2 (by omega)
              have S3 := Lib.hid s3; clear s3
              have hz : (32 : Int) ≤ (n : Int) := by omega
              have hz7 : ((n : Int) == 127) = false := by rw [beq_eq_false_iff_ne]; omega
              go_wp2
              go_roundw
              case rel => exact ⟨k + p2, rfl, by omega, ⟨s2, S3.out⟩⟩
              case measure => simp; omega
          · have hnx : ∀ ty, (Instr.next (.pointer (some ⟨w1.heap.size, 0, none⟩)) true ty).run Tryz.prog (w1.iter s k) = _ := fun ty => run_next_end w1 s k ty hp
            have hr : R = true := by
              have e2 := HK.out.2
              rw [List.drop_eq_nil_of_le (by rw [size_list]; omega)] at e2
              exact e2.symm
            have HRT := Lib.hid hr; clear hr
            go_wp2
            go_ret
            exact ⟨congrArg (fun x => Ending.returned (Value.bool x)) HRT.out.symm, hb2⟩
      · have hk : keyB s.data.toList = false := by unfold keyB; simp [hv]
        rw [hk]; clear hk hlist
        have hv' : Lib.validD s.data.toList = false := by simpa using hv
        rw [hv'] at HV
        clear hv hv'
        go_enter Tryz.func78, Tryz.ntmps78
        go_wp2_with fail
        refine HV.out.mono ?_
        rintro e w1 ⟨rfl, hb1⟩
        go_wp2
        go_ret
        exact ⟨rfl, hb1⟩
    · have h2z : (200 : Int) < (s.size : Int) := by omega
      have hk : keyB s.data.toList = false := by unfold keyB; rw [size_list, decide_eq_false h2]; simp
      rw [hk]; clear hk
      clear hlist
      go_enter Tryz.func78, Tryz.ntmps78
      go_wp2
      go_ret
      exact ⟨rfl, Below.refl _ _⟩
end Go.Proofs.YtjbjcfnbgcloiaaGreatDoor
