/- NamePaths: a path is read as the text that it is of; unlike texts have unlike paths, in the same order. No condition but that utf8's two tables stand as the program's text lays them (tied by the card). -/
import Derived.Test.YtdegjlpcbnmhgaaDoorNamLaw
import Derived.Test.YtdegjlpcbnmhgaaDoorCards
import Derived.Test.YtdegjlpcbnmhgaaDoorTie
import Derived.Deep.DeepHandedRow
import Derived.Lib.LaidIn
import Derived.Lib.LaidU8T
namespace Go.Proofs.YtdegjlpcbnmhgaaDoor.namePaths
open Go.ChangeShapes Go.WideShapes Go.ChangeAt Go.RowKit Go.Shelf Nam

set_option maxHeartbeats 4000000 in
theorem walk0 (a b : ByteArray) (ha : a.size ≤ 1000) (hb : b.size ≤ 1000) (w : World) (hT : Tabs w) :
    Calls Tryd.prog 8 #[.string a, .string b] w fun e w' => e = .returned (.bool true) ∧ Below w.heap.size w w' := by
  have HT := Lib.hid hT; clear hT
  have haz : (a.size : Int) ≤ 1000 := by omega
  have hbz : (b.size : Int) ≤ 1000 := by omega
  go_enter Tryd.func8, Tryd.ntmps8
  go_wp2_with fail
  refine (awake_is _ HT.out).mono ?_
  rintro e w1 ⟨rfl, h1⟩
  go_wp2_with fail
  refine (path_is a _ (by omega)).mono ?_
  rintro e w2 ⟨⟨x, rfl, hx⟩, h2⟩
  have h12 := h1.trans (h2.mono h1.size)
  have HX := Lib.hid hx; clear hx
  go_wp2_with fail
  refine (path_is b _ (by omega)).mono ?_
  rintro e w3 ⟨⟨y, rfl, hy⟩, h3⟩
  have h13 := h12.trans (h3.mono h12.size)
  have HY := Lib.hid hy; clear hy
  have hxs : x.size = 2 * a.size := by rw [← size_list, HX.out, pathB_length, size_list]
  have hys : y.size = 2 * b.size := by rw [← size_list, HY.out, pathB_length, size_list]
  have hxl : x.size ≤ 2000 := by omega
  have hyl : y.size ≤ 2000 := by omega
  have hxz : ((x.size : Int) == 2 * (a.size : Int)) = true := by rw [beq_iff_eq]; omega
  obtain ⟨q, hq⟩ : ∃ q, (a.toList == b.toList) = q := ⟨_, rfl⟩
  have hq2 : (x.toList == y.toList) = q := by
    rw [← hq, Bool.eq_iff_iff, beq_iff_eq, beq_iff_eq, ByteArray.toList_eq, ByteArray.toList_eq, ByteArray.toList_eq, ByteArray.toList_eq, HX.out, HY.out]
    exact ⟨path_inj _ _, fun h => by rw [h]⟩
  obtain ⟨l, hl⟩ : ∃ l, Op.bytesLess a.toList b.toList = l := ⟨_, rfl⟩
  have hl2 : Op.bytesLess x.toList y.toList = l := by
    rw [← hl, ByteArray.toList_eq, ByteArray.toList_eq, ByteArray.toList_eq, ByteArray.toList_eq, HX.out, HY.out, path_less]
  obtain ⟨p, hp⟩ : ∃ p, prefixB a.data.toList b.data.toList = p := ⟨_, rfl⟩
  have hp2 : prefixB x.data.toList y.data.toList = p := by rw [← hp, HX.out, HY.out, path_prefix]
  have cl : ∀ W : World, Calls Tryd.prog 13 #[.string a, .string b] W fun e w' => e = .returned (.bool l) ∧ W = w' := fun W => by rw [← hl]; exact less_is _ _ W
  have cl2 : ∀ W : World, Calls Tryd.prog 13 #[.string x, .string y] W fun e w' => e = .returned (.bool l) ∧ W = w' := fun W => by rw [← hl2]; exact less_is _ _ W
  have cp : ∀ W : World, Calls Tryd.prog 15 #[.string a, .string b] W fun e w' => e = .returned (.bool p) ∧ W = w' := fun W => by rw [← hp]; exact prefix_is _ _ W (by unfold maxLen; omega) (by unfold maxLen; omega)
  have cp2 : ∀ W : World, Calls Tryd.prog 15 #[.string x, .string y] W fun e w' => e = .returned (.bool p) ∧ W = w' := fun W => by rw [← hp2]; exact prefix_is _ _ W (by unfold maxLen; omega) (by unfold maxLen; omega)
  have CL := Lib.hid cl; clear cl
  have CL2 := Lib.hid cl2; clear cl2
  have CP := Lib.hid cp; clear cp
  have CP2 := Lib.hid cp2; clear cp2
  clear hl hl2 hp hp2 hxs hys
  go_wp2_with fail
  refine (unpath_is x _ (by omega)).mono ?_
  rintro e w4 ⟨⟨t, rfl, ht⟩, h4⟩
  have h14 := h13.trans (h4.mono h13.size)
  have hs : unp x.data.toList = some a.data.toList := by rw [HX.out, unp_path]
  unfold unText at ht
  rw [hs] at ht
  obtain rfl : t = a := eq_data ht
  rw [hs]
  clear hs ht h1 h2 h3 h4 h12 h13 HX HY
  simp only [Option.isSome_some]
  cases l <;> cases p
  all_goals
    go_wp2_with (first
      | (go_at_call_of 13 (Value.string x); refine (CL2.out _).mono ?_; rintro e w3 ⟨rfl, rfl⟩)
      | (go_at_call 13; refine (CL.out _).mono ?_; rintro e w3 ⟨rfl, rfl⟩)
      | (go_at_call_of 15 (Value.string x); refine (CP2.out _).mono ?_; rintro e w3 ⟨rfl, rfl⟩)
      | (go_at_call 15; refine (CP.out _).mono ?_; rintro e w3 ⟨rfl, rfl⟩))
    go_ret
    exact ⟨rfl, h14⟩

theorem walk (a : ByteArray) (wa : a.size ≤ maxLen) (b : ByteArray) (wb : b.size ≤ maxLen) (w : World) (hT : Tabs w) :
    Calls Tryd.prog 8 #[.string a, .string b] w fun e w' => e = .returned (.bool true) ∧ Below w.heap.size w w' := by
  by_cases ha : a.size ≤ 1000
  · by_cases hb : b.size ≤ 1000
    · exact walk0 a b ha hb w hT
    · have HT := Lib.hid hT; clear hT
      have haz : (a.size : Int) ≤ 1000 := by omega
      have hbz : (1000 : Int) < (b.size : Int) := by omega
      go_enter Tryd.func8, Tryd.ntmps8
      go_wp2_with fail
      refine (awake_is _ HT.out).mono ?_
      rintro e w1 ⟨rfl, h1⟩
      go_wp2
      go_ret
      exact ⟨rfl, h1⟩
  · have HT := Lib.hid hT; clear hT
    have haz : (1000 : Int) < (a.size : Int) := by omega
    go_enter Tryd.func8, Tryd.ntmps8
    go_wp2_with fail
    refine (awake_is _ HT.out).mono ?_
    rintro e w1 ⟨rfl, h1⟩
    go_wp2
    go_ret
    exact ⟨rfl, h1⟩

theorem own : ownKnob Tryd.prog.godebug = none := by kernel_rfl
theorem laidOut : laidOutB Tryd.prog = true := by kernel_rfl
/-- A world for the witness: the two tables holding what their initialisers lay. -/
noncomputable def laidWorld (os : Os) : World :=
  let w0 := World.holding Tryd.prog os ⟨#[], #[], []⟩
  let put (h : Array Obj) (g : Nat) (cs : Array Value) : Array Obj := h.modify g fun
    | .cells _ t frozen => .cells cs t frozen
    | o => o
  let h1 := put w0.heap 0 (Lib.firstTab.map fun z => Value.int .u8 z).toArray
  let h2 := put h1 1 ((List.range 16).flatMap fun i => [Value.int .u8 (Lib.accLo i), Value.int .u8 (Lib.accHi i)]).toArray
  { w0 with heap := h2 }
theorem laid_met (os : Os) : laidMet Tryd.prog Rows.namePathsRow.laid ((laidWorld os).forCall (fun _ _ => 0) ⟨#[], #[.string ⟨#[]⟩, .string ⟨#[]⟩], []⟩).memory :=
  laidMet_of_run' 8 (by kernel_rfl) (by kernel_rfl)
theorem reads (os : Os) {H : Type} (enc : TypeId × Value → H) : ∃ places, DataW.whole enc Tryd.prog ((laidWorld os).forCall (fun _ _ => 0) ⟨#[], #[.string ⟨#[]⟩, .string ⟨#[]⟩], []⟩).memory Tryd.f8.params.toList Rows.namePathsSpec.vars false (#[.string ⟨#[]⟩, .string ⟨#[]⟩] : Array Value).toList 8 = some ([.lit (.string []), .lit (.string [])], [], places) :=
  ⟨[], by kernel_rfl⟩
set_option maxRecDepth 1000000 in
theorem tabs_of {W : World} (h : laidMetH Tryd.prog Rows.namePathsRow.laid W) : Tabs W :=
  utf8Tabs_of_readsT (U8Types.of196 Tryd.laysValid) ⟨by kernel_rfl, by kernel_rfl, by kernel_rfl, by kernel_rfl, by kernel_rfl, by kernel_rfl, by kernel_rfl⟩ (Lib.laidMet.reads h (.tail _ (.head _))) (Lib.laidMet.reads h (.head _))
set_option maxRecDepth 100000 in
theorem lifted (os : Os) (started : os.Started) (H : Type) (enc : TypeId × Value → H) (F : Stop.Interp) :
    ReturnsInHanded {} Tryd.checked os 8 .any ((OpenSpec.ofChange Rows.namePathsSpec).preRow enc Tryd.prog Tryd.f8 Rows.namePathsRow.domain false Rows.namePathsRow.laid) (((OpenSpec.ofChange Rows.namePathsSpec).at F).post enc Tryd.prog Tryd.f8 false true false false) := by
  obtain ⟨places, hx⟩ := reads os enc
  refine returnsInHanded_of_row (C := Tryd.checked) (s := OpenSpec.ofChange Rows.namePathsSpec) own started (by kernel_rfl) Tryd.func8
    (witness_row_at (enc := enc) (C := Tryd.checked) false (laidWorld os) #[.string ⟨#[]⟩, .string ⟨#[]⟩] rfl (by kernel_rfl) (by kernel_rfl) (by kernel_rfl)
      (OpenSpec.preRow_of_cond 8 hx (by kernel_rfl) (fun k hk => by cases hk) (by kernel_rfl) (laid_met os))) ?_
  intro W base args ds gs before hval0 hW _ _ _ hL _ _
  have hval : ∀ (j : Nat) t v, Tryd.f8.params[j]? = some t → args[j]? = some v → Value.okWide Tryd.prog W .any base t v := hval0
  have hW' := hW
  obtain ⟨p, q, hA0, hV, rfl, hfz, hnd⟩ := hW
  have hA : DataW.TrodAll enc Tryd.prog W 0 (fun _ => true) true Tryd.f8.params.toList args.toList ds p := hA0
  rw [Tryd.params8] at hA hval
  obtain ⟨v0, vs0, d0, ds0, p0, q0, hargs, rfl, rfl, h0, r0⟩ := trodAll_cons hA
  obtain ⟨v1, vs1, d1, ds1, p1, q1, rfl, rfl, rfl, h1, r1⟩ := trodAll_cons r0
  obtain ⟨rfl, rfl, rfl⟩ := trodAll_nil r1
  obtain rfl : args = #[v0, v1] := by cases args; simp_all
  obtain ⟨rfl, rfl⟩ := trodVars_none hV
  obtain ⟨a0, rfl, rfl, rfl, w0⟩ := ChangeMaps.open_string Tryd.underlying9 (hval 0 9 v0 rfl rfl) h0
  obtain ⟨a1, rfl, rfl, rfl, w1⟩ := ChangeMaps.open_string Tryd.underlying9 (hval 1 9 v1 rfl rfl) h1
  clear hA0 hval0
  simp only [List.append_nil] at hW'
  refine (walk a0 w0 a1 w1 W (tabs_of hL)).mono fun e W' ⟨he, hg⟩ => ?_
  subst he
  exact ⟨_, rfl, law_post (s := Rows.namePathsSpec) laidOut (of_decide_eq_true (by kernel_rfl)) Tryd.underlying4 rfl rfl rfl rfl rfl hW' hg⟩

theorem said : Rows.NamePathsSaid :=
  OpenClaim.holds_of_cond 8 Tryd.f8 rfl rfl rfl rfl rfl rfl rfl ⟨rfl, rfl, rfl, rfl, rfl⟩ rfl rfl rfl rfl rfl (by kernel_rfl) Tryd.func8 (by kernel_rfl)
    (of_decide_eq_true (by kernel_rfl)) (by unfold Func.isWrapper; first | (rw [if_pos (by decide +kernel)]; kernel_rfl) | (rw [if_neg (by decide +kernel)]; exact ⟨rfl, rfl⟩))
    (fun os started H enc _ F => by rw [OpenClaim.pre_eq_preRow]; exact lifted os started H enc F)
theorem plain (f : FuncId) (fn : Func) (hf : Tryd.pinned.checked.prog.funcNamed "strongbox/strongboxlaw6.NamePaths" = some f) (hfn : Tryd.pinned.checked.prog.funcs[f]? = some fn) :
    false = Tryd.pinned.checked.prog.looks [] ∧ ∀ (j : Nat) t, fn.params[j]? = some t → Tryd.pinned.checked.prog.wantsStandIn t = false := by
  obtain rfl : f = 8 := Option.some.inj ((show Tryd.prog.funcNamed "strongbox/strongboxlaw6.NamePaths" = some 8 by kernel_rfl).symm.trans hf) |>.symm
  obtain rfl : fn = Tryd.f8 := (Option.some.inj (Tryd.func8.symm.trans hfn)).symm
  refine ⟨by kernel_rfl, fun j t ht => ?_⟩
  rw [Tryd.params8] at ht
  have hm := Array.mem_of_getElem? ht
  simp only [List.mem_toArray, List.mem_cons, List.not_mem_nil, or_false] at hm
  rcases hm with rfl | rfl
  · exact (show Tryd.prog.wantsStandIn 9 = false by kernel_rfl)
  · exact (show Tryd.prog.wantsStandIn 9 = false by kernel_rfl)

/-- ████ THE CARD ████ -/
theorem proved : Rows.NamePathsCardSaid :=
  Claim7.holds_tied_plain_at .later [] _ _ _ _ said (fun _ h => by cases h) (by kernel_rfl) (fun _ h => by cases h) namePaths_row_tie rfl ⟨rfl, rfl⟩ (by kernel_rfl) rfl plain (by kernel_rfl)
#print axioms proved
end Go.Proofs.YtdegjlpcbnmhgaaDoor.namePaths
