/- NameKnown: chapter 6's examples, and names at their limits. A closed statement; no condition but that utf8's two tables stand as the program's text lays them (tied by the card). -/
import Derived.Test.YtdegjlpcbnmhgaaDoorNamLaw
import Derived.Test.YtdegjlpcbnmhgaaDoorCards
import Derived.Test.YtdegjlpcbnmhgaaDoorTie
import Derived.Deep.DeepHandedRow
import Derived.Lib.LaidIn
import Derived.Lib.LaidU8T
namespace Go.Proofs.YtdegjlpcbnmhgaaDoor.nameKnown
open Go.ChangeShapes Go.WideShapes Go.ChangeAt Go.RowKit Go.Shelf Nam

theorem valid_x : ∀ n : Nat, Lib.validD (List.replicate n 120) = true
  | 0 => rfl
  | n + 1 => by
    rw [List.replicate_succ, Lib.validD_cons _ _ (by decide)]
    exact valid_x n
theorem key_x (n : Nat) (h0 : 0 < n) : keyB (List.replicate n 120) = decide (n ≤ 200) := by
  unfold keyB
  rw [valid_x, List.length_replicate]
  have e1 : (List.replicate n (120 : UInt8)).all keyByte = true := by
    rw [List.all_eq_true]
    intro c hc
    obtain ⟨_, rfl⟩ := List.mem_replicate.1 hc
    decide
  have e2 : List.replicate n (120 : UInt8) ≠ [] := by
    intro e
    have := congrArg List.length e
    simp at this; omega
  rw [e1, decide_eq_true e2]
  simp
theorem bw_x : ∀ (n : Nat) (was : Bool), bw was (List.replicate (n + 1) 120) = some false
  | 0, _ => by cases ‹Bool› <;> decide
  | n + 1, was => by
    rw [List.replicate_succ]
    unfold bw
    rw [if_pos (by decide)]
    exact bw_x n false
theorem bucket_x (n : Nat) : bucketB (List.replicate (n + 1) 120) = (decide (3 ≤ n + 1) && decide (n + 1 ≤ 63)) := by
  unfold bucketB
  rw [bw_x, List.length_replicate]
  simp

set_option maxHeartbeats 8000000 in
theorem walk (w : World) (hT : Tabs w) : Calls Tryd.prog 6 #[] w fun e w' => e = .returned (.bool true) ∧ Below w.heap.size w w' := by
  have HT := Lib.hid hT; clear hT
  have k0 : Hid (keyB [] = false) := by show _ = _; decide
  have k1 : Hid (keyB [97, 31] = false) := by show _ = _; decide
  have k2 : Hid (keyB [127] = false) := by show _ = _; decide
  have k3 : Hid (keyB [255] = false) := by show _ = _; decide
  have k4 : Hid (bucketB [97, 98] = false) := by show _ = _; decide
  have k5 : Hid (bucketB [45, 97, 98] = false) := by show _ = _; decide
  have k6 : Hid (bucketB [97, 98, 67] = false) := by show _ = _; decide
  have k7 : Hid ((nextR [97, 255]).getD [] = [98]) := by show _ = _; decide
  have k8 : Hid ((nextR [255]).getD [] = []) := by show _ = _; decide
  have k9 : Hid ((nextR []).getD [] = []) := by show _ = _; decide
  have u1 : Hid (unp [54, 49, 54] = none) := by show _ = _; decide
  have u2 : Hid (unp [54, 65] = none) := by show _ = _; decide
  go_enter Tryd.func6, Tryd.ntmps6
  go_wp2_with fail
  refine (awake_is _ HT.out).mono ?_
  rintro e w1 ⟨rfl, hB⟩
  go_wp2_with fail
  go_loop [1, 2] (fun v i => ∃ (k : Nat) (t : ByteArray), i = .int .i64 k ∧ k ≤ 200 ∧ v = .string t ∧ t.size = k ∧ Hid (t.data.toList = List.replicate k 120)) (fun _ i => 200 - (intOf i).toNat)
  case atStart => exact ⟨0, ⟨#[]⟩, rfl, by omega, rfl, rfl, rfl⟩
  case round =>
    obtain ⟨k, t, rfl, hk, rfl, hts, HD⟩ := hrel
    by_cases hk2 : k < 200
    · have hz : (k : Int) < 200 := by omega
      have hts' : t.size ≤ 200 := by omega
      have HS := Lib.hid hts; clear hts
      have hdat : Hid ((t ++ ⟨#[120]⟩).data.toList = List.replicate (k + 1) 120) := by
        show _ = _
        rw [ByteArray.data_append, Array.toList_append, HD.out, List.replicate_succ']
      go_wp2
      go_round
      case rel => exact ⟨k + 1, _, by go_num, by omega, rfl, by rw [ByteArray.size_append, HS.out]; rfl, hdat⟩
      case measure => simp [intOf]; omega
    · have hk200 : k = 200 := by omega
      subst hk200
      clear hk hk2
      have hts' : t.size ≤ 200 := by omega
      have hts2 : 200 ≤ t.size := by omega
      have htz : (200 : Int) ≤ (t.size : Int) := by omega
      have htx : (t ++ ⟨#[120]⟩).size ≤ 201 := by rw [ByteArray.size_append]; show t.size + 1 ≤ _; omega
      have L1 : Hid (keyB t.data.toList = true) := by show _ = _; rw [HD.out, key_x 200 (by omega)]; rfl
      have L2 : Hid (keyB (t ++ ⟨#[120]⟩).data.toList = false) := by
        show _ = _
        have e : (t ++ ⟨#[120]⟩).data.toList = List.replicate 201 120 := by
          rw [ByteArray.data_append, Array.toList_append, HD.out]
          exact List.replicate_succ'.symm
        rw [e, key_x 201 (by omega)]; rfl
      have L3 : Hid (bucketB (t.extract 0 63).data.toList = true) := by
        show _ = _
        rw [Lib.extract_data, HD.out, List.drop_zero, List.take_replicate]
        exact bucket_x 62
      have L4 : Hid (bucketB (t.extract 0 64).data.toList = false) := by
        show _ = _
        rw [Lib.extract_data, HD.out, List.drop_zero, List.take_replicate]
        exact bucket_x 63
      have z3 : (t.extract 0 63).size ≤ 63 := by rw [← size_list, Lib.extract_data, List.length_take]; omega
      have z4 : (t.extract 0 64).size ≤ 64 := by rw [← size_list, Lib.extract_data, List.length_take]; omega
      clear hts
      go_wp2_with fail
      refine (unpath_is _ _ (by decide)).mono ?_
      rintro e w3 ⟨⟨q, rfl, _⟩, hn⟩
      rw [show unp (ByteArray.mk #[54, 49, 54]).data.toList = none from u1.out]
      replace hB := hB.trans (hn.mono hB.size)
      clear hn
      simp only [Option.isSome_none]
      go_wp2_with fail
      refine (unpath_is _ _ (by decide)).mono ?_
      rintro e w3 ⟨⟨q2, rfl, _⟩, hn⟩
      rw [show unp (ByteArray.mk #[54, 65]).data.toList = none from u2.out]
      replace hB := hB.trans (hn.mono hB.size)
      clear hn
      simp only [Option.isSome_none]
      go_wp2_with fail
      refine (key_is _ _ (by unfold maxLen; omega) (HT.out.below hB)).mono ?_
      rintro e w3 ⟨rfl, hn⟩
      rw [show keyB _ = true from L1.out]
      replace hB := hB.trans (hn.mono hB.size)
      clear hn
      go_wp2_with fail
      refine (key_is _ _ (by unfold maxLen; omega) (HT.out.below hB)).mono ?_
      rintro e w3 ⟨rfl, hn⟩
      rw [show keyB _ = false from L2.out]
      replace hB := hB.trans (hn.mono hB.size)
      clear hn
      go_wp2_with fail
      refine (key_is _ _ (by unfold maxLen; decide) (HT.out.below hB)).mono ?_
      rintro e w3 ⟨rfl, hn⟩
      rw [show keyB (ByteArray.mk #[]).data.toList = false from k0.out]
      replace hB := hB.trans (hn.mono hB.size)
      clear hn
      go_wp2_with fail
      refine (key_is _ _ (by unfold maxLen; decide) (HT.out.below hB)).mono ?_
      rintro e w3 ⟨rfl, hn⟩
      rw [show keyB (ByteArray.mk #[97, 31]).data.toList = false from k1.out]
      replace hB := hB.trans (hn.mono hB.size)
      clear hn
      go_wp2_with fail
      refine (key_is _ _ (by unfold maxLen; decide) (HT.out.below hB)).mono ?_
      rintro e w3 ⟨rfl, hn⟩
      rw [show keyB (ByteArray.mk #[127]).data.toList = false from k2.out]
      replace hB := hB.trans (hn.mono hB.size)
      clear hn
      go_wp2_with fail
      refine (key_is _ _ (by unfold maxLen; decide) (HT.out.below hB)).mono ?_
      rintro e w3 ⟨rfl, hn⟩
      rw [show keyB (ByteArray.mk #[255]).data.toList = false from k3.out]
      replace hB := hB.trans (hn.mono hB.size)
      clear hn
      go_wp2_with fail
      refine (bucket_is _ _ (by unfold maxLen; decide)).mono ?_
      rintro e w3 ⟨rfl, hn⟩
      rw [show bucketB (ByteArray.mk #[97, 98]).data.toList = false from k4.out]
      replace hB := hB.trans (hn.mono hB.size)
      clear hn
      go_wp2_with fail
      refine (bucket_is _ _ (by unfold maxLen; omega)).mono ?_
      rintro e w3 ⟨rfl, hn⟩
      rw [show bucketB _ = true from L3.out]
      replace hB := hB.trans (hn.mono hB.size)
      clear hn
      go_wp2_with fail
      refine (bucket_is _ _ (by unfold maxLen; omega)).mono ?_
      rintro e w3 ⟨rfl, hn⟩
      rw [show bucketB _ = false from L4.out]
      replace hB := hB.trans (hn.mono hB.size)
      clear hn
      go_wp2_with fail
      refine (bucket_is _ _ (by unfold maxLen; decide)).mono ?_
      rintro e w3 ⟨rfl, hn⟩
      rw [show bucketB (ByteArray.mk #[45, 97, 98]).data.toList = false from k5.out]
      replace hB := hB.trans (hn.mono hB.size)
      clear hn
      go_wp2_with fail
      refine (bucket_is _ _ (by unfold maxLen; decide)).mono ?_
      rintro e w3 ⟨rfl, hn⟩
      rw [show bucketB (ByteArray.mk #[97, 98, 67]).data.toList = false from k6.out]
      replace hB := hB.trans (hn.mono hB.size)
      clear hn
      go_wp2_with fail
      refine (next_is _ _ (by decide)).mono ?_
      rintro e w3 ⟨⟨t, rfl, ht, _⟩, hn⟩
      rw [show (nextR (ByteArray.mk #[97, 255]).data.toList).getD [] = [98] from k7.out] at ht
      obtain rfl : t = ⟨#[98]⟩ := eq_data ht
      clear ht
      replace hB := hB.trans (hn.mono hB.size)
      clear hn
      go_wp2_with fail
      refine (next_is _ _ (by decide)).mono ?_
      rintro e w3 ⟨⟨t, rfl, ht, _⟩, hn⟩
      rw [show (nextR (ByteArray.mk #[255]).data.toList).getD [] = [] from k8.out] at ht
      obtain rfl : t = ⟨#[]⟩ := eq_data ht
      clear ht
      replace hB := hB.trans (hn.mono hB.size)
      clear hn
      go_wp2_with fail
      refine (next_is _ _ (by decide)).mono ?_
      rintro e w3 ⟨⟨t, rfl, ht, _⟩, hn⟩
      rw [show (nextR (ByteArray.mk #[]).data.toList).getD [] = [] from k9.out] at ht
      obtain rfl : t = ⟨#[]⟩ := eq_data ht
      clear ht
      replace hB := hB.trans (hn.mono hB.size)
      clear hn
      go_wp2
      go_ret
      exact ⟨rfl, hB⟩

theorem own : ownKnob Tryd.prog.godebug = none := by kernel_rfl
theorem laidOut : laidOutB Tryd.prog = true := by kernel_rfl
/-- A world for the witness: the two tables holding what their initialisers lay. -/
noncomputable def laidWorld (os : Os) : World :=
  let w0 := World.holding Tryd.prog os ⟨#[], #[], []⟩
  let put (h : Array Obj) (g : Nat) (cs : Array Value) : Array Obj := h.modify g fun
    | .cells _ t frozen => .cells cs t frozen
    | o => o
  let h1 := put w0.heap 0 (Lib.firstTab.map fun z => Value.int .u8 z).toArray
  let h2 := put h1 1 ((List.range 16).flatMap fun i => [Value.int .u8 (Lib.accLo i), Value.int .u8 (Lib.accHi i)]).toArray
  { w0 with heap := h2 }
theorem laid_met (os : Os) : laidMet Tryd.prog Rows.nameKnownRow.laid ((laidWorld os).forCall (fun _ _ => 0) ⟨#[], #[], []⟩).memory :=
  laidMet_of_run' 8 (by kernel_rfl) (by kernel_rfl)
theorem reads (os : Os) {H : Type} (enc : TypeId × Value → H) : ∃ places, DataW.whole enc Tryd.prog ((laidWorld os).forCall (fun _ _ => 0) ⟨#[], #[], []⟩).memory Tryd.f6.params.toList Rows.nameKnownSpec.vars false (#[] : Array Value).toList 8 = some ([], [], places) :=
  ⟨[], by kernel_rfl⟩
set_option maxRecDepth 1000000 in
theorem tabs_of {W : World} (h : laidMetH Tryd.prog Rows.nameKnownRow.laid W) : Tabs W :=
  utf8Tabs_of_readsT (U8Types.of196 Tryd.laysValid) ⟨by kernel_rfl, by kernel_rfl, by kernel_rfl, by kernel_rfl, by kernel_rfl, by kernel_rfl, by kernel_rfl⟩ (Lib.laidMet.reads h (.tail _ (.head _))) (Lib.laidMet.reads h (.head _))
set_option maxRecDepth 100000 in
theorem lifted (os : Os) (started : os.Started) (H : Type) (enc : TypeId × Value → H) (F : Stop.Interp) :
    ReturnsInHanded {} Tryd.checked os 6 .any ((OpenSpec.ofChange Rows.nameKnownSpec).preRow enc Tryd.prog Tryd.f6 Rows.nameKnownRow.domain false Rows.nameKnownRow.laid) (((OpenSpec.ofChange Rows.nameKnownSpec).at F).post enc Tryd.prog Tryd.f6 false true false false) := by
  obtain ⟨places, hx⟩ := reads os enc
  refine returnsInHanded_of_row (C := Tryd.checked) (s := OpenSpec.ofChange Rows.nameKnownSpec) own started (by kernel_rfl) Tryd.func6
    (witness_row_at (enc := enc) (C := Tryd.checked) false (laidWorld os) #[] rfl (by kernel_rfl) (by kernel_rfl) (by kernel_rfl)
      (OpenSpec.preRow_of_cond 8 hx (by kernel_rfl) (fun k hk => by cases hk) (by kernel_rfl) (laid_met os))) ?_
  intro W base args ds gs before hval0 hW _ _ _ hL _ _
  have hval : ∀ (j : Nat) t v, Tryd.f6.params[j]? = some t → args[j]? = some v → Value.okWide Tryd.prog W .any base t v := hval0
  have hW' := hW
  obtain ⟨p, q, hA0, hV, rfl, hfz, hnd⟩ := hW
  have hA : DataW.TrodAll enc Tryd.prog W 0 (fun _ => true) true Tryd.f6.params.toList args.toList ds p := hA0
  rw [Tryd.params6] at hA hval
  obtain ⟨hargs, rfl, rfl⟩ := trodAll_nil hA
  obtain rfl : args = #[] := by cases args; simp_all
  obtain ⟨rfl, rfl⟩ := trodVars_none hV
  clear hA0 hval0
  simp only [List.append_nil] at hW'
  refine (walk W (tabs_of hL)).mono fun e W' ⟨he, hg⟩ => ?_
  subst he
  exact ⟨_, rfl, law_post (s := Rows.nameKnownSpec) laidOut (of_decide_eq_true (by kernel_rfl)) Tryd.underlying4 rfl rfl rfl rfl rfl hW' hg⟩

theorem said : Rows.NameKnownSaid :=
  OpenClaim.holds_of_cond 6 Tryd.f6 rfl rfl rfl rfl rfl rfl rfl ⟨rfl, rfl, rfl, rfl, rfl⟩ rfl rfl rfl rfl rfl (by kernel_rfl) Tryd.func6 (by kernel_rfl)
    (of_decide_eq_true (by kernel_rfl)) (by unfold Func.isWrapper; first | (rw [if_pos (by decide +kernel)]; kernel_rfl) | (rw [if_neg (by decide +kernel)]; exact ⟨rfl, rfl⟩))
    (fun os started H enc _ F => by rw [OpenClaim.pre_eq_preRow]; exact lifted os started H enc F)
theorem plain (f : FuncId) (fn : Func) (hf : Tryd.pinned.checked.prog.funcNamed "strongbox/strongboxlaw6.NameKnown" = some f) (hfn : Tryd.pinned.checked.prog.funcs[f]? = some fn) :
    false = Tryd.pinned.checked.prog.looks [] ∧ ∀ (j : Nat) t, fn.params[j]? = some t → Tryd.pinned.checked.prog.wantsStandIn t = false := by
  obtain rfl : f = 6 := Option.some.inj ((show Tryd.prog.funcNamed "strongbox/strongboxlaw6.NameKnown" = some 6 by kernel_rfl).symm.trans hf) |>.symm
  obtain rfl : fn = Tryd.f6 := (Option.some.inj (Tryd.func6.symm.trans hfn)).symm
  refine ⟨by kernel_rfl, fun j t ht => ?_⟩
  rw [Tryd.params6] at ht
  simp at ht

/-- ████ THE CARD ████ -/
theorem proved : Rows.NameKnownCardSaid :=
  Claim7.holds_tied_plain_at .later [] _ _ _ _ said (fun _ h => by cases h) (by kernel_rfl) (fun _ h => by cases h) nameKnown_row_tie rfl ⟨rfl, rfl⟩ (by kernel_rfl) rfl plain (by kernel_rfl)
#print axioms proved
end Go.Proofs.YtdegjlpcbnmhgaaDoor.nameKnown
