/- What the document's own answer for paths, read back, computes. -/
import Derived.Test.YtdegjlpcbnmhgaaDoorNamR
namespace Go.Proofs.YtdegjlpcbnmhgaaDoor
open Go.RowKit Nam

def RunRel (s : ByteArray) (w : World) (v i : Value) (wr : World) : Prop :=
  ∃ (j : Nat) (m : List UInt8) (v' : Value), v' = v ∧ j ≤ s.size ∧ j % 2 = 0 ∧ i = .int .i64 j ∧ wr.ownsRow w.heap.size 5 1 v' (j / 2) (cellsOf m) ∧ Hid (unp (s.data.toList.take j) = some m) ∧ Below w.heap.size w wr

set_option maxHeartbeats 2000000 in
theorem runpath_is (s : ByteArray) (w : World) (hs : s.size ≤ 65536) : Calls Tryd.prog 17 #[.string s] w fun e w' =>
    (∃ t : ByteArray, e = .returned (.tuple #[.string t, .bool (unp s.data.toList).isSome]) ∧ t.data.toList = unText s.data.toList) ∧ Below w.heap.size w w' := by
  obtain ⟨i0, hi, hz0, hz1, hz2⟩ := info_parts Tryd.info5
  by_cases hodd : s.size % 2 = 1
  · have hz : (s.size : Int) % 2 = 1 := by omega
    have hun : unp s.data.toList = none := unp_odd _ (by rw [size_list]; exact hodd)
    unfold unText
    rw [hun]; clear hun
    go_enter Tryd.func17, Tryd.ntmps17
    go_wp2
    go_ret2
    exact ⟨⟨_, rfl, rfl⟩, Below.refl _ _⟩
  · have hz : (s.size : Int) % 2 = 0 := by omega
    have hq : ((s.size / 2 : Nat) : Int) = (s.size : Int) / 2 := by omega
    have HQ := Lib.hid hq; clear hq
    go_enter Tryd.func17, Tryd.ntmps17
    go_wp2_with fail
    clear hz
    go_loopw [4, 5] (fun v i wr => RunRel s w v i wr)
      (fun _ i _ => s.size - (intOf i).toNat)
    case atStart => exact ⟨0, [], _, rfl, Nat.zero_le _, rfl, rfl, ⟨rfl, .inl ⟨rfl, rfl⟩⟩, rfl, Below.refl _ _⟩
    case round =>
      obtain ⟨j, m, v0, rfl, hj, hj2, rfl, hown, HM, hbr⟩ := hrel
      have hsz0 := hbr.size
      have hlt0 : Hid (∀ k, v0.ownBlock = some k → w.heap.size ≤ k ∧ k < wr.heap.size) := hown.lt
      by_cases hp : j < s.size
      · have hj1 : j + 1 < s.size := by omega
        have hpz : (j : Int) < (s.size : Int) := by omega
        have hpz1 : (j : Int) + 1 < (s.size : Int) := by omega
        obtain ⟨a, ha⟩ : ∃ a, s[j] = a := ⟨_, rfl⟩
        obtain ⟨b, hb⟩ : ∃ b, s[j + 1] = b := ⟨_, rfl⟩
        have htk : s.data.toList.take (j + 2) = s.data.toList.take j ++ [a, b] := by
          have e1 : s.data.toList[j]'(by rw [size_list]; exact hp) = a := ha
          have e2 : s.data.toList[j + 1]'(by rw [size_list]; exact hj1) = b := hb
          rw [List.take_succ_eq_append_getElem (by rw [size_list]; exact hj1), List.take_succ_eq_append_getElem (by rw [size_list]; exact hp), e1, e2]
          simp
        have hun : unp (s.data.toList.take (j + 2)) = if digI a < 0 ∨ digI b < 0 then none else some (m ++ [UInt8.ofNat (16 * (digI a).toNat + (digI b).toNat)]) := by
          rw [htk, unp_snoc _ _ _ (by rw [List.length_take, size_list]; omega), HM.out]
          rfl
        have hbad : (digI a < 0 ∨ digI b < 0) → unp s.data.toList = none := by
          intro h
          rw [if_pos h] at hun
          have := unp_none_more (s.data.toList.take (j + 2)) (s.data.toList.drop (j + 2)) (by rw [List.length_take, size_list]; omega) hun
          rwa [List.take_append_drop] at this
        have HUN := Lib.hid hun; clear hun
        have HBAD := Lib.hid hbad; clear hbad
        clear htk
        have hra := digI_range a
        have hrb := digI_range b
        obtain ⟨x, hx⟩ : ∃ x, digI a = x := ⟨_, rfl⟩
        obtain ⟨y, hy⟩ : ∃ y, digI b = y := ⟨_, rfl⟩
        obtain ⟨na, hna⟩ : ∃ na : Nat, s[j].toNat = na := ⟨_, rfl⟩
        obtain ⟨nb, hnb⟩ : ∃ nb : Nat, s[j + 1].toNat = nb := ⟨_, rfl⟩
        have ca : ∀ W : World, Calls Tryd.prog 29 #[.int .u8 (na : Int)] W fun e w' => e = .returned (.int .i64 x) ∧ W = w' := by
          intro W; rw [← hna, ha, ← hx]; exact rdigit_is a W
        have cb : ∀ W : World, Calls Tryd.prog 29 #[.int .u8 (nb : Int)] W fun e w' => e = .returned (.int .i64 y) ∧ W = w' := by
          intro W; rw [← hnb, hb, ← hy]; exact rdigit_is b W
        rw [hx] at hra HUN HBAD
        rw [hy] at hrb HUN HBAD
        clear hx hy
        have CA := Lib.hid ca; clear ca
        have CB := Lib.hid cb; clear cb
        have ha' := Lib.hid ha; clear ha
        have hb' := Lib.hid hb; clear hb
        have e1 : IntKind.i64.wrap ((j : Int) + 1) = (j : Int) + 1 := IntWalk.i64_in _ (by omega)
        have e2 : IntKind.i64.wrap ((j : Int) + 2) = (j : Int) + 2 := IntWalk.i64_in _ (by omega)
        have p0 : (0 : Int) ≤ (j : Int) + 1 := by omega
        have p1 : ((j : Int) + 1).toNat = j + 1 := by omega
        by_cases hxn : x < 0
        · have hn := HBAD.out (.inl hxn)
          have HN := Lib.hid hn; clear hn
          go_wp2_with fail
          go_quiet ((first | (go_at_call_of 29 (Value.int .u8 (na : Int)); exact quiet_eq (CA.out _)) | (go_at_call_of 29 (Value.int .u8 (nb : Int)); exact quiet_eq (CB.out _))))
          go_wp2
          go_ret2
          exact ⟨⟨_, by rw [HN.out]; rfl, by unfold unText; rw [HN.out]; rfl⟩, hbr.drewN nq⟩
        · have hx0 : 0 ≤ x := by omega
          have hx1 : x < 16 := by omega
          by_cases hyn : y < 0
          · have hn := HBAD.out (.inr hyn)
            have HN := Lib.hid hn; clear hn
            go_wp2_with fail
            go_quiet ((first | (go_at_call_of 29 (Value.int .u8 (na : Int)); exact quiet_eq (CA.out _)) | (go_at_call_of 29 (Value.int .u8 (nb : Int)); exact quiet_eq (CB.out _))))
            go_wp2
            go_ret2
            exact ⟨⟨_, by rw [HN.out]; rfl, by unfold unText; rw [HN.out]; rfl⟩, hbr.drewN nq⟩
          · have hy0 : 0 ≤ y := by omega
            have hy1 : y < 16 := by omega
            have h8 : IntKind.u8.wrap (16 * x + y) = 16 * x + y := IntWalk.u8_in _ ⟨by omega, by omega⟩
            go_wp2_with fail
            go_quiet ((first | (go_at_call_of 29 (Value.int .u8 (na : Int)); exact quiet_eq (CA.out _)) | (go_at_call_of 29 (Value.int .u8 (nb : Int)); exact quiet_eq (CB.out _))))
            go_wp2_with (first
              | (at_builtin; refine wpList_append_lies _ rfl _ _ 31 rfl w.heap.size 5 i0 (.int .u8 0) 1 1 Tryd.underlying31 hi hz0 hz1 hz2 rfl (by omega) v0 (j / 2) (cellsOf m) rfl (World.ownsRow.alloc (w := wr.drewN nq) hown _) ⟨wr.heap.size, 0, none⟩ 1 1 [.int .u8 (16 * x + y)] rfl rfl (World.news_of_block (cs := #[.int .u8 (16 * x + y)]) (t := 5) (fr := (0, 0)) (heap_alloc_new (wr.drewN nq) _)) (by simp [Value.oneCell']) (by omega) (by unfold maxLen; omega) (by omega) (by simp; omega) (wr.heap.size + 1) (by simp) ?_; intro gg cap w2 hown2 hgrow2 hat hlt))
            have hb2 : Below w.heap.size w w2 := by
              refine ((hbr.drewN nq).alloc (by simp; omega) _).grown hgrow2 (by simp; omega) (fun j hj => (hlt0.out j hj).1)
            have hcl : (UInt8.ofNat (16 * x.toNat + y.toNat)).toNat = 16 * x.toNat + y.toNat := by simp; omega
            have hown3 : w2.ownsRow w.heap.size 5 1 (.slice (some ⟨gg, 0, none⟩) ((j + 2) / 2) cap) ((j + 2) / 2) (cellsOf (m ++ [UInt8.ofNat (16 * x.toNat + y.toNat)])) := by
              have e3 : (j + 2) / 2 = j / 2 + 1 := by omega
              have e4 : cellsOf (m ++ [UInt8.ofNat (16 * x.toNat + y.toNat)]) = cellsOf m ++ [.int .u8 (16 * x + y)] := by
                unfold cellsOf
                rw [List.map_append, List.map_cons, List.map_nil, hcl]
                congr 3
                omega
              rw [e3, e4]; exact hown2
            have hm2 : Hid (unp (s.data.toList.take (j + 2)) = some (m ++ [UInt8.ofNat (16 * x.toNat + y.toNat)])) := by
              show _ = _
              rw [HUN.out, if_neg (by omega)]
            have e9 : (j + 2) / 2 = j / 2 + 1 := by omega
            have E9 := Lib.hid e9; clear e9
            clear hown2 hgrow2 hat hlt hown hbr hcl hna hnb
            go_roundw
            case rel => exact ⟨j + 2, _, _, rfl, by omega, by omega, by go_num, (by rw [E9.out] at hown3 ⊢; exact hown3), hm2, hb2⟩
            case measure => simp [intOf]; omega
      · have he : j = s.size := by omega
        subst he
        have hun : unp s.data.toList = some m := by
          have := HM.out
          rwa [List.take_of_length_le (by rw [size_list]; omega)] at this
        have hml : m.length = s.size / 2 := by
          have := hown.1
          unfold cellsOf at this
          simpa using this
        rcases hown.2 with ⟨rfl, hz⟩ | ⟨g, cap0, cur, rfl, _⟩
        · have hm0 : m = [] := List.length_eq_zero_iff.1 (by omega)
          subst hm0
          have HUN := Lib.hid hun; clear hun
          have HZ := Lib.hid hz; clear hz
          clear hown HM hml
          have hcv0 : (convert 31 9 (.slice none 0 0)).run Tryd.prog wr = .ok (.string ByteArray.empty) wr := by
            rw [run_convert_bytes_string wr 31 9 5 none 0 0 Tryd.underlying31 Tryd.underlying5 Tryd.underlying9]
            rfl
          go_wp2
          go_ret2
          refine ⟨⟨_, by rw [HUN.out]; rfl, ?_⟩, hbr⟩
          unfold unText
          rw [HUN.out]
          rfl
        · have hcv2 : (convert 31 9 (.slice (some ⟨g, 0, none⟩) (s.size / 2) cap0)).run Tryd.prog wr = .ok (.string (strOfNums (m.map fun c => (c.toNat : Int)))) wr := by
            refine run_convert_bytes_arg _ 31 5 Tryd.underlying31 Tryd.underlying5 g 0 (s.size / 2) cap0 _ (by simpa using hml) (fun i hi => ?_) _ Tryd.underlying9
            rw [Nat.zero_add, hown.cellAt i (by omega)]
            unfold cellsOf
            have hil : i < m.length := by omega
            simp [List.getD_eq_getElem?_getD, List.getElem?_eq_getElem hil]
          have HUN := Lib.hid hun; clear hun
          have HML := Lib.hid hml; clear hml
          clear hown HM
          go_wp2
          go_ret2
          refine ⟨⟨_, by rw [HUN.out]; rfl, ?_⟩, hbr⟩
          unfold unText
          rw [HUN.out, strOfNums_data, List.map_map]
          show _ = m
          conv => rhs; rw [← List.map_id m]
          apply List.map_congr_left
          intro c _
          simp
end Go.Proofs.YtdegjlpcbnmhgaaDoor
