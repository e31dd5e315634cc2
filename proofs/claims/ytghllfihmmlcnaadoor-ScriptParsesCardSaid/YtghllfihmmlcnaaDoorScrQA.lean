/- A text's lines read by the document: its small parts. -/
import Derived.Test.YtghllfihmmlcnaaDoorScrMD
import Derived.Test.YtghllfihmmlcnaaDoorScrV
import Derived.Test.YtghllfihmmlcnaaDoorPScriptParsesx6
namespace Go.Proofs.YtghllfihmmlcnaaDoor
open Go.RowKit Nam YtghllfihmmlcnaaDoorW.PrintWords

set_option maxHeartbeats 400000 in
theorem rdigit_is (c : UInt8) (w : World) : Calls Tryd.prog 59 #[.int .u8 (c.toNat : Int)] w fun e w' => e = .returned (.int .i64 (digI c)) ∧ w = w' := by
  have hc := c.toNat_lt
  unfold digI
  generalize c.toNat = n at hc ⊢
  by_cases h1 : 48 ≤ n ∧ n ≤ 57
  · rw [if_pos h1]
    have a1 : (48 : Int) ≤ (n : Int) := by omega
    have a2 : (n : Int) ≤ 57 := by omega
    have e1 : IntKind.u8.wrap ((n : Int) - 48) = (n : Int) - 48 := IntWalk.u8_in _ ⟨by omega, by omega⟩
    go_enter Tryd.func59, Tryd.ntmps59
    go_wp2
    go_ret
    exact ⟨rfl, rfl⟩
  · rw [if_neg h1]
    by_cases h2 : 97 ≤ n ∧ n ≤ 102
    · rw [if_pos h2]
      have a1 : (97 : Int) ≤ (n : Int) := by omega
      have a2 : (n : Int) ≤ 102 := by omega
      have e1 : IntKind.u8.wrap ((n : Int) - 97) = (n : Int) - 97 := IntWalk.u8_in _ ⟨by omega, by omega⟩
      go_enter Tryd.func59, Tryd.ntmps59
      go_wp2
      all_goals
        first
        | (exfalso; omega)
        | (go_ret; exact ⟨congrArg (fun x => Ending.returned (Value.int .i64 x)) (by omega), rfl⟩)
    · rw [if_neg h2]
      go_enter Tryd.func59, Tryd.ntmps59
      go_wp2
      all_goals
        first
        | (exfalso; omega)
        | (go_ret; exact ⟨rfl, rfl⟩)

def RunRel (s : ByteArray) (w : World) (v i : Value) (wr : World) : Prop :=
  ∃ (j : Nat) (m : List UInt8) (v' : Value), v' = v ∧ j ≤ s.size ∧ j % 2 = 0 ∧ i = .int .i64 j ∧ wr.ownsRow w.heap.size 5 1 v' (j / 2) (cellsOf m) ∧ Hid (unp (s.data.toList.take j) = some m) ∧ Below w.heap.size w wr

set_option maxHeartbeats 2000000 in
set_option maxRecDepth 100000 in
theorem runpath_is (s : ByteArray) (w : World) (hs : s.size ≤ 65536) : Calls Tryd.prog 54 #[.string s] w fun e w' =>
    (∃ t : ByteArray, e = .returned (.tuple #[.string t, .bool (unp s.data.toList).isSome]) ∧ t.data.toList = unText s.data.toList) ∧ Below w.heap.size w w' := by
  obtain ⟨i0, hi, hz0, hz1, hz2⟩ := info_parts Tryd.info5
  by_cases hodd : s.size % 2 = 1
  · have hz : (s.size : Int) % 2 = 1 := by omega
    have hun : unp s.data.toList = none := unp_odd _ (by rw [size_list]; exact hodd)
    unfold unText
    rw [hun]; clear hun
    go_enter Tryd.func54, Tryd.ntmps54
    go_wp2
    go_ret2
    exact ⟨⟨_, rfl, rfl⟩, Below.refl _ _⟩
  · have hz : (s.size : Int) % 2 = 0 := by omega
    have hq : ((s.size / 2 : Nat) : Int) = (s.size : Int) / 2 := by omega
    have HQ := Lib.hid hq; clear hq
    go_enter Tryd.func54, Tryd.ntmps54
    go_wp2_with fail
    clear hz
    go_loopw [4, 5] (fun v i wr => RunRel s w v i wr)
      (fun _ i _ => s.size - (intOf i).toNat)
    case atStart => exact ⟨0, [], _, rfl, Nat.zero_le _, rfl, rfl, ⟨rfl, .inl ⟨rfl, rfl⟩⟩, rfl, Below.refl _ _⟩
    case round =>
      obtain ⟨j, m, v0, rfl, hj, hj2, rfl, hown, HM, hbr⟩ := hrel
      have hsz0 := hbr.size
      have hlt0 : Hid (∀ k, v0.ownBlock = some k → w.heap.size ≤ k ∧ k < wr.heap.size) := hown.lt
      by_cases hp : j < s.size
      · have hj1 : j + 1 < s.size := by omega
        have hpz : (j : Int) < (s.size : Int) := by omega
        have hpz1 : (j : Int) + 1 < (s.size : Int) := by omega
        obtain ⟨a, ha⟩ : ∃ a, s[j] = a := ⟨_, rfl⟩
        obtain ⟨b, hb⟩ : ∃ b, s[j + 1] = b := ⟨_, rfl⟩
        have htk : s.data.toList.take (j + 2) = s.data.toList.take j ++ [a, b] := by
          have e1 : s.data.toList[j]'(by rw [size_list]; exact hp) = a := ha
          have e2 : s.data.toList[j + 1]'(by rw [size_list]; exact hj1) = b := hb
          rw [List.take_succ_eq_append_getElem (by rw [size_list]; exact hj1), List.take_succ_eq_append_getElem (by rw [size_list]; exact hp), e1, e2]
          simp
        have hun : unp (s.data.toList.take (j + 2)) = if digI a < 0 ∨ digI b < 0 then none else some (m ++ [UInt8.ofNat (16 * (digI a).toNat + (digI b).toNat)]) := by
          rw [htk, unp_snoc _ _ _ (by rw [List.length_take, size_list]; omega), HM.out]
          rfl
        have hbad : (digI a < 0 ∨ digI b < 0) → unp s.data.toList = none := by
          intro h
          rw [if_pos h] at hun
          have := unp_none_more (s.data.toList.take (j + 2)) (s.data.toList.drop (j + 2)) (by rw [List.length_take, size_list]; omega) hun
          rwa [List.take_append_drop] at this
        have HUN := Lib.hid hun; clear hun
        have HBAD := Lib.hid hbad; clear hbad
        clear htk
        have hra := digI_range a
        have hrb := digI_range b
        obtain ⟨x, hx⟩ : ∃ x, digI a = x := ⟨_, rfl⟩
        obtain ⟨y, hy⟩ : ∃ y, digI b = y := ⟨_, rfl⟩
        obtain ⟨na, hna⟩ : ∃ na : Nat, s[j].toNat = na := ⟨_, rfl⟩
        obtain ⟨nb, hnb⟩ : ∃ nb : Nat, s[j + 1].toNat = nb := ⟨_, rfl⟩
        have ca : ∀ W : World, Calls Tryd.prog 59 #[.int .u8 (na : Int)] W fun e w' => e = .returned (.int .i64 x) ∧ W = w' := by
          intro W; rw [← hna, ha, ← hx]; exact rdigit_is a W
        have cb : ∀ W : World, Calls Tryd.prog 59 #[.int .u8 (nb : Int)] W fun e w' => e = .returned (.int .i64 y) ∧ W = w' := by
          intro W; rw [← hnb, hb, ← hy]; exact rdigit_is b W
        rw [hx] at hra HUN HBAD
        rw [hy] at hrb HUN HBAD
        clear hx hy
        have CA := Lib.hid ca; clear ca
        have CB := Lib.hid cb; clear cb
        have ha' := Lib.hid ha; clear ha
        have hb' := Lib.hid hb; clear hb
        have e1 : IntKind.i64.wrap ((j : Int) + 1) = (j : Int) + 1 := IntWalk.i64_in _ (by omega)
        have e2 : IntKind.i64.wrap ((j : Int) + 2) = (j : Int) + 2 := IntWalk.i64_in _ (by omega)
        have p0 : (0 : Int) ≤ (j : Int) + 1 := by omega
        have p1 : ((j : Int) + 1).toNat = j + 1 := by omega
        by_cases hxn : x < 0
        · have hn := HBAD.out (.inl hxn)
          have HN := Lib.hid hn; clear hn
          go_wp2_with fail
          go_quiet ((first | (go_at_call_of 59 (Value.int .u8 (na : Int)); exact quiet_eq (CA.out _)) | (go_at_call_of 59 (Value.int .u8 (nb : Int)); exact quiet_eq (CB.out _))))
          go_wp2
          go_ret2
          exact ⟨⟨_, by rw [HN.out]; rfl, by unfold unText; rw [HN.out]; rfl⟩, hbr.drewN nq⟩
        · have hx0 : 0 ≤ x := by omega
          have hx1 : x < 16 := by omega
          by_cases hyn : y < 0
          · have hn := HBAD.out (.inr hyn)
            have HN := Lib.hid hn; clear hn
            go_wp2_with fail
            go_quiet ((first | (go_at_call_of 59 (Value.int .u8 (na : Int)); exact quiet_eq (CA.out _)) | (go_at_call_of 59 (Value.int .u8 (nb : Int)); exact quiet_eq (CB.out _))))
            go_wp2
            go_ret2
            exact ⟨⟨_, by rw [HN.out]; rfl, by unfold unText; rw [HN.out]; rfl⟩, hbr.drewN nq⟩
          · have hy0 : 0 ≤ y := by omega
            have hy1 : y < 16 := by omega
            have h8 : IntKind.u8.wrap (16 * x + y) = 16 * x + y := IntWalk.u8_in _ ⟨by omega, by omega⟩
            go_wp2_with fail
            go_quiet ((first | (go_at_call_of 59 (Value.int .u8 (na : Int)); exact quiet_eq (CA.out _)) | (go_at_call_of 59 (Value.int .u8 (nb : Int)); exact quiet_eq (CB.out _))))
            go_wp2_with (first
              | (at_builtin; refine wpList_append_lies _ rfl _ _ 35 rfl w.heap.size 5 i0 (.int .u8 0) 1 1 Tryd.underlying35 hi hz0 hz1 hz2 rfl (by omega) v0 (j / 2) (cellsOf m) rfl (World.ownsRow.alloc (w := wr.drewN nq) hown _) ⟨wr.heap.size, 0, none⟩ 1 1 [.int .u8 (16 * x + y)] rfl rfl (World.news_of_block (cs := #[.int .u8 (16 * x + y)]) (t := 5) (fr := (0, 0)) (heap_alloc_new (wr.drewN nq) _)) (by simp [Value.oneCell']) (by omega) (by unfold maxLen; omega) (by omega) (by simp; omega) (wr.heap.size + 1) (by simp) ?_; intro gg cap w2 hown2 hgrow2 hat hlt))
            have hb2 : Below w.heap.size w w2 := by
              refine ((hbr.drewN nq).alloc (by simp; omega) _).grown hgrow2 (by simp; omega) (fun j hj => (hlt0.out j hj).1)
            have hcl : (UInt8.ofNat (16 * x.toNat + y.toNat)).toNat = 16 * x.toNat + y.toNat := by simp; omega
            have hown3 : w2.ownsRow w.heap.size 5 1 (.slice (some ⟨gg, 0, none⟩) ((j + 2) / 2) cap) ((j + 2) / 2) (cellsOf (m ++ [UInt8.ofNat (16 * x.toNat + y.toNat)])) := by
              have e3 : (j + 2) / 2 = j / 2 + 1 := by omega
              have e4 : cellsOf (m ++ [UInt8.ofNat (16 * x.toNat + y.toNat)]) = cellsOf m ++ [.int .u8 (16 * x + y)] := by
                unfold cellsOf
                rw [List.map_append, List.map_cons, List.map_nil, hcl]
                congr 3
                omega
              rw [e3, e4]; exact hown2
            have hm2 : Hid (unp (s.data.toList.take (j + 2)) = some (m ++ [UInt8.ofNat (16 * x.toNat + y.toNat)])) := by
              show _ = _
              rw [HUN.out, if_neg (by omega)]
            have e9 : (j + 2) / 2 = j / 2 + 1 := by omega
            have E9 := Lib.hid e9; clear e9
            clear hown2 hgrow2 hat hlt hown hbr hcl hna hnb
            go_roundw
            case rel => exact ⟨j + 2, _, _, rfl, by omega, by omega, by go_num, (by rw [E9.out] at hown3 ⊢; exact hown3), hm2, hb2⟩
            case measure => simp [intOf]; omega
      · have he : j = s.size := by omega
        subst he
        have hun : unp s.data.toList = some m := by
          have := HM.out
          rwa [List.take_of_length_le (by rw [size_list]; omega)] at this
        have hml : m.length = s.size / 2 := by
          have := hown.1
          unfold cellsOf at this
          simpa using this
        rcases hown.2 with ⟨rfl, hz⟩ | ⟨g, cap0, cur, rfl, _⟩
        · have hm0 : m = [] := List.length_eq_zero_iff.1 (by omega)
          subst hm0
          have HUN := Lib.hid hun; clear hun
          have HZ := Lib.hid hz; clear hz
          clear hown HM hml
          have hcv0 : (convert 35 9 (.slice none 0 0)).run Tryd.prog wr = .ok (.string ByteArray.empty) wr := by
            rw [run_convert_bytes_string wr 35 9 5 none 0 0 Tryd.underlying35 Tryd.underlying5 Tryd.underlying9]
            rfl
          go_wp2
          go_ret2
          refine ⟨⟨_, by rw [HUN.out]; rfl, ?_⟩, hbr⟩
          unfold unText
          rw [HUN.out]
          rfl
        · have hcv2 : (convert 35 9 (.slice (some ⟨g, 0, none⟩) (s.size / 2) cap0)).run Tryd.prog wr = .ok (.string (strOfNums (m.map fun c => (c.toNat : Int)))) wr := by
            refine run_convert_bytes_arg _ 35 5 Tryd.underlying35 Tryd.underlying5 g 0 (s.size / 2) cap0 _ (by simpa using hml) (fun i hi => ?_) _ Tryd.underlying9
            rw [Nat.zero_add, hown.cellAt i (by omega)]
            unfold cellsOf
            have hil : i < m.length := by omega
            simp [List.getD_eq_getElem?_getD, List.getElem?_eq_getElem hil]
          have HUN := Lib.hid hun; clear hun
          have HML := Lib.hid hml; clear hml
          clear hown HM
          go_wp2
          go_ret2
          refine ⟨⟨_, by rw [HUN.out]; rfl, ?_⟩, hbr⟩
          unfold unText
          rw [HUN.out, strOfNums_data, List.map_map]
          show _ = m
          conv => rhs; rw [← List.map_id m]
          apply List.map_congr_left
          intro c _
          simp

set_option maxHeartbeats 1000000 in
theorem rreadtext_is (l : List UInt8) (w : World) (hs : l.length ≤ 65536) : Calls Tryd.prog 48 #[.string (mkS l)] w fun e w' => e = .returned (.tuple #[.string (mkS (readB l).1), .bool (readB l).2]) ∧ Below w.heap.size w w' := by
  have hz : (mkS l).size ≤ 65536 := by rw [mkS_size]; exact hs
  have hdl : (mkS l).toList = l := by rw [ByteArray.toList_eq, mkS_list]
  by_cases h : l = [46]
  · subst h
    have h0 : (mkS [46]).toList = [46] := hdl
    clear hdl
    go_enter Tryd.func48, Tryd.ntmps48
    go_wp2
    go_ret2
    exact ⟨rfl, Below.refl _ _⟩
  · have h0 : (mkS l).toList ≠ [46] := by rw [hdl]; exact h
    have h1 : ((mkS l).toList == [46]) = false := by simpa using h0
    obtain ⟨t, b, hr, ht⟩ : ∃ t b, readB l = (t, b) ∧ unText l = t ∧ (unp l).isSome = (unp l).isSome ∧ b = ((unp l).isSome && decide (t ≠ [])) := by
      unfold readB unText
      rw [if_neg h]
      cases unp l with
      | none => exact ⟨_, _, rfl, rfl, rfl, rfl⟩
      | some x => refine ⟨_, _, rfl, rfl, rfl, ?_⟩; simp; cases x <;> rfl
    rw [hr]
    obtain ⟨ht1, _, hb⟩ := ht
    clear hr hdl
    have HN := Lib.hid h; clear h
    have HB := Lib.hid hb; clear hb
    have HT := Lib.hid ht1; clear ht1
    cases hu : (unp l).isSome
    · have HU := Lib.hid hu; clear hu
      go_enter Tryd.func48, Tryd.ntmps48
      go_wp2_with fail
      refine (runpath_is _ _ hz).mono ?_
      rintro e w1 ⟨⟨x, rfl, hx⟩, hbl⟩
      rw [mkS_list, HT.out] at hx
      obtain rfl := eq_mkS hx
      rw [mkS_list, HU.out]
      go_wp2
      go_ret2
      exact ⟨by rw [HB.out, HU.out]; rfl, hbl⟩
    · have HU := Lib.hid hu; clear hu
      by_cases ht : t = []
      · subst ht
        have he : (mkS []).toList.isEmpty = true := by rw [isEmpty_mkS]; rfl
        go_enter Tryd.func48, Tryd.ntmps48
        go_wp2_with fail
        refine (runpath_is _ _ hz).mono ?_
        rintro e w1 ⟨⟨x, rfl, hx⟩, hbl⟩
        rw [mkS_list, HT.out] at hx
        obtain rfl := eq_mkS hx
        rw [mkS_list, HU.out]
        go_wp2
        go_ret2
        exact ⟨by rw [HB.out, HU.out]; rfl, hbl⟩
      · have he : (mkS t).toList.isEmpty = false := by rw [isEmpty_mkS]; exact decide_eq_false ht
        have HT2 := Lib.hid ht; clear ht
        go_enter Tryd.func48, Tryd.ntmps48
        go_wp2_with fail
        refine (runpath_is _ _ hz).mono ?_
        rintro e w1 ⟨⟨x, rfl, hx⟩, hbl⟩
        rw [mkS_list, HT.out] at hx
        obtain rfl := eq_mkS hx
        rw [mkS_list, HU.out]
        go_wp2
        go_ret2
        exact ⟨by rw [HB.out, HU.out, decide_eq_true HT2.out]; rfl, hbl⟩

theorem rnum_is (l : List UInt8) (w : World) : Calls Tryd.prog 47 #[.string (mkS l)] w (NumIs l w) := by
  cases h : numOf l with
  | none => exact (PScriptParses.strongboxref23_readNumber.calls 41 (mkS l) 0 false w (by rw [readNumber_is _ 41 (by omega), mkS_list, h])).mono fun e w' ⟨he, hb⟩ => by subst he; exact numIs_none h (by decide) (by decide) hb.below
  | some v =>
    have hv := numOf_some h
    exact (PScriptParses.strongboxref23_readNumber.calls 41 (mkS l) v true w (by rw [readNumber_is _ 41 (by omega), mkS_list, h])).mono fun e w' ⟨he, hb⟩ => by subst he; exact numIs_some h hv.2.2.1 hv.2.2.2 hb.below
theorem rwords_is (l : List UInt8) (w : World) (hs : l.length ≤ 100000) :
    Calls Tryd.prog 46 #[.string (mkS l)] w fun e w' => (∃ v, e = .returned v ∧ Kd.R Kd.string 9 w' w.heap.size (fun k => w.heap.size ≤ k) v ((splitB 32 l).map mkS)) ∧ Below w.heap.size w w' :=
  (PScriptParses.strongboxref23_words.calls ((mkS l).size + 1) (mkS l) _ w (words_is (mkS l) (by rw [mkS_size]; exact hs))).mono fun e w' ⟨v, he, hv, hb⟩ => ⟨⟨v, he, Kd.R_mono (Kd.R_bound hv) (fun k hk => hk.2.1)⟩, hb⟩
theorem rlines_is (l : List UInt8) (w : World) (hs : l.length ≤ 100000) :
    Calls Tryd.prog 36 #[.string (mkS l)] w fun e w' => (∃ v, e = .returned (.tuple #[v, .bool (finL (splitB 10 l)).2]) ∧ Kd.R Kd.string 9 w' w.heap.size (fun k => w.heap.size ≤ k) v ((finL (splitB 10 l)).1.map mkS)) ∧ Below w.heap.size w w' :=
  (PScriptParses.strongboxref23_lines.calls ((mkS l).size + 1) (mkS l) _ _ w (lines_is (mkS l) (by rw [mkS_size]; exact hs))).mono fun e w' ⟨v, he, hv, hb⟩ => ⟨⟨v, he, Kd.R_mono (Kd.R_bound hv) (fun k hk => hk.2.1)⟩, hb⟩
def letC : Nat → UInt8
  | 0 => 98
  | 1 => 107
  | 2 => 100
  | 3 => 110
  | 4 => 97
  | 5 => 112
  | 6 => 102
  | 7 => 105
  | _ => 109
theorem rverb_f (d : Int) : PScriptParses.strongboxref23_Verb.f d = some (mkS (formC d).1, mkS ((formC d).2.map letC)) := by
  by_cases h1 : 1 ≤ d ∧ d ≤ 19
  · obtain ⟨n, hn⟩ : ∃ n : Nat, d = n := ⟨d.toNat, by omega⟩
    subst hn
    have key : ∀ n : Fin 20, PScriptParses.strongboxref23_Verb.f (n.val : Int) = some (mkS (formC (n.val : Int)).1, mkS ((formC (n.val : Int)).2.map letC)) := by decide
    exact key ⟨n, by omega⟩
  · unfold PScriptParses.strongboxref23_Verb.f formC
    iterate 19 rw [if_neg (by omega)]
    iterate 19 rw [if_neg (by omega)]
    rfl
theorem rverb_is (d : Int) (w : World) : Calls Tryd.prog 17 #[.int .i64 d] w fun e w' => e = .returned (.tuple #[.string (mkS (formC d).1), .string (mkS ((formC d).2.map letC))]) ∧ Below w.heap.size w w' :=
  (PScriptParses.strongboxref23_Verb.calls d _ _ w (rverb_f d)).mono fun e w' ⟨he, hb⟩ => ⟨he, hb.below⟩

theorem first_no (l : List UInt8) (k : Nat) (hk : (mkS l).size + 1 ≤ k) (hl : l.length ≤ 100000) (h : ¬ ((splitB 32 l).length = 5 ∧ (splitB 32 l).headD [] = [97, 114, 114, 97, 121])) (hw : PScriptParses.strongboxref23_words.f k (mkS l) = some ((splitB 32 l).map mkS)) :
    PScriptParses.strongboxref23_first.f k (mkS l) = some (0, 0, 0, 0, false) := by
  obtain ⟨k, rfl⟩ : ∃ m, k = m + 1 := ⟨k - 1, by omega⟩
  unfold PScriptParses.strongboxref23_first.f
  rw [hw]
  simp only [Option.bind_some, List.length_map]
  by_cases h5 : (splitB 32 l).length = 5
  · rw [if_pos (by omega), if_pos (by omega)]
    have hne : ((rdOf ByteArray.empty ((splitB 32 l).map mkS) 0).toList != [97, 114, 114, 97, 121]) = true := by
      rw [bne_iff_ne]
      intro e
      refine h ⟨h5, ?_⟩
      cases hs : splitB 32 l with
      | nil => rw [hs] at h5; cases h5
      | cons a t =>
        rw [hs] at e
        rw [List.headD_cons]
        have e2 : (mkS a).toList = [97, 114, 114, 97, 121] := e
        rw [ByteArray.toList_eq, mkS_list] at e2
        exact e2
    rw [hne]
    rfl
  · rw [if_neg (by omega)]
    rfl
theorem first_yes (l a w1 w2 w3 w4 : List UInt8) (k : Nat) (hk : 50 ≤ k) (hs : splitB 32 l = [a, w1, w2, w3, w4]) (ha : a = [97, 114, 114, 97, 121]) (hw : PScriptParses.strongboxref23_words.f k (mkS l) = some ((splitB 32 l).map mkS)) :
    ∃ n1 n2 n3 n4, PScriptParses.strongboxref23_first.f k (mkS l) = some (n1, n2, n3, n4, ((((numOf w1).isSome && (numOf w2).isSome) && (numOf w3).isSome) && (numOf w4).isSome)) ∧ (∀ v, numOf w1 = some v → v = n1) ∧ (∀ v, numOf w2 = some v → v = n2) ∧ (∀ v, numOf w3 = some v → v = n3) ∧ (∀ v, numOf w4 = some v → v = n4) := by
  obtain ⟨k, rfl⟩ : ∃ m, k = m + 1 := ⟨k - 1, by omega⟩
  unfold PScriptParses.strongboxref23_first.f
  rw [hw, hs]
  subst ha
  simp only [Option.bind_some, List.map_cons, List.map_nil, List.length_cons, List.length_nil]
  rw [if_pos (by omega), if_pos (by omega)]
  have hne : ((rdOf ByteArray.empty [mkS [97, 114, 114, 97, 121], mkS w1, mkS w2, mkS w3, mkS w4] 0).toList != [97, 114, 114, 97, 121]) = false := by
    show ((mkS [97, 114, 114, 97, 121]).toList != [97, 114, 114, 97, 121]) = false
    rw [ByteArray.toList_eq, mkS_list]
    rfl
  rw [hne]
  have g : ∀ v : List UInt8, ∃ n, PScriptParses.strongboxref23_readNumber.f k (mkS v) = some (n, (numOf v).isSome) ∧ ∀ x, numOf v = some x → x = n := fun v => by
    rw [readNumber_is _ k (by omega), mkS_list]
    cases h : numOf v with
    | none => exact ⟨0, rfl, fun x hx => by cases hx⟩
    | some y => exact ⟨y, rfl, fun x hx => by injection hx with hx; exact hx.symm⟩
  obtain ⟨n1, h1, m1⟩ := g w1
  obtain ⟨n2, h2, m2⟩ := g w2
  obtain ⟨n3, h3, m3⟩ := g w3
  obtain ⟨n4, h4, m4⟩ := g w4
  refine ⟨n1, n2, n3, n4, ?_, m1, m2, m3, m4⟩
  unfold PScriptParses.strongboxref23_first.j0
  simp only [List.length_cons, List.length_nil]
  rw [if_neg (by simp), if_pos (by omega), show rdOf ByteArray.empty [mkS [97, 114, 114, 97, 121], mkS w1, mkS w2, mkS w3, mkS w4] 1 = mkS w1 from rfl, h1]
  simp only [Option.bind_some]
  rw [if_pos (by omega), show rdOf ByteArray.empty [mkS [97, 114, 114, 97, 121], mkS w1, mkS w2, mkS w3, mkS w4] 2 = mkS w2 from rfl, h2]
  simp only [Option.bind_some]
  rw [if_pos (by omega), show rdOf ByteArray.empty [mkS [97, 114, 114, 97, 121], mkS w1, mkS w2, mkS w3, mkS w4] 3 = mkS w3 from rfl, h3]
  simp only [Option.bind_some]
  rw [if_pos (by omega), show rdOf ByteArray.empty [mkS [97, 114, 114, 97, 121], mkS w1, mkS w2, mkS w3, mkS w4] 4 = mkS w4 from rfl, h4]
  simp only [Option.bind_some]
  generalize (numOf w1).isSome = b1
  generalize (numOf w2).isSome = b2
  generalize (numOf w3).isSome = b3
  generalize (numOf w4).isSome = b4
  cases b1 <;> cases b2 <;> cases b3 <;> cases b4 <;> rfl

theorem rfirst_is (l : List UInt8) (w : World) (hs : l.length ≤ 20000) : Calls Tryd.prog 37 #[.string (mkS l)] w (ShapeIs l w) := by
  have hw0 := words_is (mkS l) (by rw [mkS_size]; omega)
  have hw : PScriptParses.strongboxref23_words.f (20001 + 50) (mkS l) = some ((splitB 32 l).map mkS) := by
    exact at_rounds (fun j => PScriptParses.strongboxref23_words.mono (mkS l) j) (by rw [mkS_size]; omega) hw0
  by_cases h : (splitB 32 l).length = 5 ∧ (splitB 32 l).headD [] = [97, 114, 114, 97, 121]
  · match hL : splitB 32 l, h with
    | [a, w1, w2, w3, w4], h =>
      obtain ⟨n1, n2, n3, n4, hf, m1, m2, m3, m4⟩ := first_yes l a w1 w2 w3 w4 _ (by omega) hL h.2 hw
      refine (PScriptParses.strongboxref23_first.calls _ (mkS l) _ _ _ _ _ w hf).mono fun e w' ⟨he, hb⟩ => ⟨⟨n1, n2, n3, n4, ?_, ?_⟩, hb⟩
      · rw [he]
        have : (shapeC l).isSome = ((((numOf w1).isSome && (numOf w2).isSome) && (numOf w3).isSome) && (numOf w4).isSome) := by
          unfold shapeC
          rw [hL, if_pos h, List.tail_cons]
          unfold mapN mapN mapN mapN mapN
          cases numOf w1 <;> cases numOf w2 <;> cases numOf w3 <;> cases numOf w4 <;> rfl
        rw [this]
      · intro z hz
        unfold shapeC at hz
        rw [hL, if_pos h, List.tail_cons] at hz
        unfold mapN mapN mapN mapN mapN at hz
        cases h1 : numOf w1 with
        | none => rw [h1] at hz; cases hz
        | some v1 =>
          cases h2 : numOf w2 with
          | none => rw [h1, h2] at hz; cases hz
          | some v2 =>
            cases h3 : numOf w3 with
            | none => rw [h1, h2, h3] at hz; cases hz
            | some v3 =>
              cases h4 : numOf w4 with
              | none => rw [h1, h2, h3, h4] at hz; cases hz
              | some v4 =>
                rw [h1, h2, h3, h4] at hz
                have : [v1, v2, v3, v4] = z := by injection hz
                rw [← this, m1 _ h1, m2 _ h2, m3 _ h3, m4 _ h4]
  · exact (PScriptParses.strongboxref23_first.calls _ (mkS l) _ _ _ _ _ w (first_no l _ (by rw [mkS_size]; omega) (by omega) h hw)).mono fun e w' ⟨he, hb⟩ => by
      subst he
      exact shape_none (by unfold shapeC; rw [if_neg h]) hb
end Go.Proofs.YtghllfihmmlcnaaDoor
