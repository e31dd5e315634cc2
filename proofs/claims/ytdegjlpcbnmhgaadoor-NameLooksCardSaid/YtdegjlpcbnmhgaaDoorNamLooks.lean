/- NameLooks: any texts: whether they are names of buckets, of keys; their paths, and back; which is ahead, what begins with what, what comes next. No condition but that utf8's two tables stand as the program's text lays them (tied by the card). -/
import Derived.Test.YtdegjlpcbnmhgaaDoorNamLaw
import Derived.Test.YtdegjlpcbnmhgaaDoorNamR2
import Derived.Test.YtdegjlpcbnmhgaaDoorNamR3
import Derived.Test.YtdegjlpcbnmhgaaDoorCards
import Derived.Test.YtdegjlpcbnmhgaaDoorTie
import Derived.Deep.DeepHandedRow
import Derived.Lib.LaidIn
import Derived.Lib.LaidU8T
namespace Go.Proofs.YtdegjlpcbnmhgaaDoor.nameLooks
open Go.ChangeShapes Go.WideShapes Go.ChangeAt Go.RowKit Go.Shelf Nam

set_option maxHeartbeats 4000000 in
theorem walk0 (a b : ByteArray) (ha : a.size ≤ 1000) (hb : b.size ≤ 1000) (w : World) (hT : Tabs w) :
    Calls Tryd.prog 7 #[.string a, .string b] w fun e w' => e = .returned (.bool true) ∧ Below w.heap.size w w' := by
  have HT := Lib.hid hT; clear hT
  have haz : (a.size : Int) ≤ 1000 := by omega
  have hbz : (b.size : Int) ≤ 1000 := by omega
  have hal : a.size ≤ maxLen := by unfold maxLen; omega
  have hbl : b.size ≤ maxLen := by unfold maxLen; omega
  have hlt : ∀ W : World, Calls Tryd.prog 21 #[.string a, .string b] W fun e w' => e = .returned (.bool (Op.bytesLess a.toList b.toList)) ∧ ∃ n, w' = W.drewN n := fun W => rless_is a b W hal hbl
  have hlt' : ∀ W : World, Calls Tryd.prog 13 #[.string a, .string b] W fun e w' => e = .returned (.bool (Op.bytesLess a.toList b.toList)) ∧ W = w' := fun W => less_is a b W
  have hpr : ∀ W : World, Calls Tryd.prog 22 #[.string a, .string b] W fun e w' => e = .returned (.bool (prefixB a.data.toList b.data.toList)) ∧ W = w' := fun W => rprefix_is a b W hal hbl
  have hpr' : ∀ W : World, Calls Tryd.prog 15 #[.string a, .string b] W fun e w' => e = .returned (.bool (prefixB a.data.toList b.data.toList)) ∧ W = w' := fun W => prefix_is a b W hal hbl
  have hbu : ∀ W : World, Calls Tryd.prog 18 #[.string a] W fun e w' => e = .returned (.bool (bucketB a.data.toList)) ∧ W = w' := fun W => rbucket_is a W hal
  have hbu' : ∀ W : World, Calls Tryd.prog 10 #[.string a] W fun e w' => e = .returned (.bool (bucketB a.data.toList)) ∧ Below W.heap.size W w' := fun W => bucket_is a W hal
  have hke : ∀ W : World, Tabs W → Calls Tryd.prog 19 #[.string a] W fun e w' => e = .returned (.bool (keyB a.data.toList)) ∧ Below W.heap.size W w' := fun W h => rkey_is a W hal h
  have hke' : ∀ W : World, Tabs W → Calls Tryd.prog 11 #[.string a] W fun e w' => e = .returned (.bool (keyB a.data.toList)) ∧ Below W.heap.size W w' := fun W h => key_is a W hal h
  have hun : ∀ W : World, Calls Tryd.prog 17 #[.string a] W fun e w' => (∃ t : ByteArray, e = .returned (.tuple #[.string t, .bool (unp a.data.toList).isSome]) ∧ t.data.toList = unText a.data.toList) ∧ Below W.heap.size W w' := fun W => runpath_is a W (by omega)
  have hun' : ∀ W : World, Calls Tryd.prog 16 #[.string a] W fun e w' => (∃ t : ByteArray, e = .returned (.tuple #[.string t, .bool (unp a.data.toList).isSome]) ∧ t.data.toList = unText a.data.toList) ∧ Below W.heap.size W w' := fun W => unpath_is a W (by omega)
  generalize Op.bytesLess a.toList b.toList = bl at hlt hlt'
  generalize prefixB a.data.toList b.data.toList = bp at hpr hpr'
  generalize bucketB a.data.toList = bb at hbu hbu'
  generalize keyB a.data.toList = bk at hke hke'
  generalize (unp a.data.toList).isSome = bs at hun hun'
  have LT := Lib.hid hlt; clear hlt
  have LT' := Lib.hid hlt'; clear hlt'
  have PR := Lib.hid hpr; clear hpr
  have PR' := Lib.hid hpr'; clear hpr'
  have BU := Lib.hid hbu; clear hbu
  have BU' := Lib.hid hbu'; clear hbu'
  have KE := Lib.hid hke; clear hke
  have KE' := Lib.hid hke'; clear hke'
  have UN := Lib.hid hun; clear hun
  have UN' := Lib.hid hun'; clear hun'
  clear hal hbl
  go_enter Tryd.func7, Tryd.ntmps7
  go_wp2_with fail
  refine (awake_is _ HT.out).mono ?_
  rintro e w1 ⟨rfl, h1⟩
  go_wp2_with fail
  refine (UN'.out _).mono ?_
  rintro e w2 ⟨⟨t, rfl, ht⟩, h2⟩
  have h12 := h1.trans (h2.mono h1.size)
  clear h1 h2
  go_wp2_with fail
  refine (UN.out _).mono ?_
  rintro e w3 ⟨⟨t2, rfl, ht2⟩, h3⟩
  have h13 := h12.trans (h3.mono h12.size)
  clear h12 h3
  obtain rfl : t = t2 := eq_data (ht.trans ht2.symm)
  clear ht ht2
  go_wp2_with fail
  refine (BU'.out _).mono ?_
  rintro e w4 ⟨rfl, h4⟩
  have h14 := h13.trans (h4.mono h13.size)
  clear h13 h4
  go_wp2_with fail
  refine (BU.out _).mono ?_
  rintro e _ ⟨rfl, rfl⟩
  go_wp2_with fail
  refine (KE'.out _ (HT.out.below h14)).mono ?_
  rintro e w5 ⟨rfl, h5⟩
  have h15 := h14.trans (h5.mono h14.size)
  clear h14 h5
  go_wp2_with fail
  refine (KE.out _ (HT.out.below h15)).mono ?_
  rintro e w6 ⟨rfl, h6⟩
  have h16 := h15.trans (h6.mono h15.size)
  clear h15 h6
  go_wp2_with fail
  refine (path_is a _ (by omega)).mono ?_
  rintro e w7 ⟨⟨x, rfl, hx⟩, h7⟩
  have h17 := h16.trans (h7.mono h16.size)
  clear h16 h7
  go_wp2_with fail
  refine (rpath_is a _ (by omega)).mono ?_
  rintro e w8 ⟨⟨y, rfl, hy⟩, h8⟩
  have h18 := h17.trans (h8.mono h17.size)
  clear h17 h8
  obtain rfl : x = y := eq_data (hx.trans hy.symm)
  clear hx hy
  go_wp2_with fail
  refine (LT'.out _).mono ?_
  rintro e _ ⟨rfl, rfl⟩
  go_wp2_with fail
  refine (LT.out _).mono ?_
  rintro e _ ⟨rfl, n9, rfl⟩
  have h19 := h18.drewN n9
  clear h18
  go_wp2_with fail
  refine (PR'.out _).mono ?_
  rintro e _ ⟨rfl, rfl⟩
  go_wp2_with fail
  refine (PR.out _).mono ?_
  rintro e _ ⟨rfl, rfl⟩
  go_wp2_with fail
  refine (next_is a _ (by omega)).mono ?_
  rintro e w10 ⟨⟨u, rfl, hu, _⟩, h10⟩
  have h20 := h19.trans (h10.mono h19.size)
  clear h19 h10
  go_wp2_with fail
  refine (rnext_is a _ (by omega)).mono ?_
  rintro e w11 ⟨⟨v, rfl, hv, _⟩, h11⟩
  have h21 := h20.trans (h11.mono h20.size)
  clear h20 h11
  obtain rfl : u = v := eq_data (hu.trans hv.symm)
  clear hu hv
  go_wp2
  go_ret
  exact ⟨rfl, h21⟩

theorem walk (a : ByteArray) (_ : a.size ≤ maxLen) (b : ByteArray) (_ : b.size ≤ maxLen) (w : World) (hT : Tabs w) :
    Calls Tryd.prog 7 #[.string a, .string b] w fun e w' => e = .returned (.bool true) ∧ Below w.heap.size w w' := by
  by_cases ha : a.size ≤ 1000
  · by_cases hb : b.size ≤ 1000
    · exact walk0 a b ha hb w hT
    · have HT := Lib.hid hT; clear hT
      have haz : (a.size : Int) ≤ 1000 := by omega
      have hbz : (1000 : Int) < (b.size : Int) := by omega
      go_enter Tryd.func7, Tryd.ntmps7
      go_wp2_with fail
      refine (awake_is _ HT.out).mono ?_
      rintro e w1 ⟨rfl, h1⟩
      go_wp2
      go_ret
      exact ⟨rfl, h1⟩
  · have HT := Lib.hid hT; clear hT
    have haz : (1000 : Int) < (a.size : Int) := by omega
    go_enter Tryd.func7, Tryd.ntmps7
    go_wp2_with fail
    refine (awake_is _ HT.out).mono ?_
    rintro e w1 ⟨rfl, h1⟩
    go_wp2
    go_ret
    exact ⟨rfl, h1⟩

theorem own : ownKnob Tryd.prog.godebug = none := by kernel_rfl
theorem laidOut : laidOutB Tryd.prog = true := by kernel_rfl
/-- A world for the witness: the two tables holding what their initialisers lay. -/
noncomputable def laidWorld (os : Os) : World :=
  let w0 := World.holding Tryd.prog os ⟨#[], #[], []⟩
  let put (h : Array Obj) (g : Nat) (cs : Array Value) : Array Obj := h.modify g fun
    | .cells _ t frozen => .cells cs t frozen
    | o => o
  let h1 := put w0.heap 0 (Lib.firstTab.map fun z => Value.int .u8 z).toArray
  let h2 := put h1 1 ((List.range 16).flatMap fun i => [Value.int .u8 (Lib.accLo i), Value.int .u8 (Lib.accHi i)]).toArray
  { w0 with heap := h2 }
theorem laid_met (os : Os) : laidMet Tryd.prog Rows.nameLooksRow.laid ((laidWorld os).forCall (fun _ _ => 0) ⟨#[], #[.string ⟨#[]⟩, .string ⟨#[]⟩], []⟩).memory :=
  laidMet_of_run' 8 (by kernel_rfl) (by kernel_rfl)
theorem reads (os : Os) {H : Type} (enc : TypeId × Value → H) : ∃ places, DataW.whole enc Tryd.prog ((laidWorld os).forCall (fun _ _ => 0) ⟨#[], #[.string ⟨#[]⟩, .string ⟨#[]⟩], []⟩).memory Tryd.f7.params.toList Rows.nameLooksSpec.vars false (#[.string ⟨#[]⟩, .string ⟨#[]⟩] : Array Value).toList 8 = some ([.lit (.string []), .lit (.string [])], [], places) :=
  ⟨[], by kernel_rfl⟩
set_option maxRecDepth 1000000 in
theorem tabs_of {W : World} (h : laidMetH Tryd.prog Rows.nameLooksRow.laid W) : Tabs W :=
  utf8Tabs_of_readsT (U8Types.of196 Tryd.laysValid) ⟨by kernel_rfl, by kernel_rfl, by kernel_rfl, by kernel_rfl, by kernel_rfl, by kernel_rfl, by kernel_rfl⟩ (Lib.laidMet.reads h (.tail _ (.head _))) (Lib.laidMet.reads h (.head _))
set_option maxRecDepth 100000 in
theorem lifted (os : Os) (started : os.Started) (H : Type) (enc : TypeId × Value → H) (F : Stop.Interp) :
    ReturnsInHanded {} Tryd.checked os 7 .any ((OpenSpec.ofChange Rows.nameLooksSpec).preRow enc Tryd.prog Tryd.f7 Rows.nameLooksRow.domain false Rows.nameLooksRow.laid) (((OpenSpec.ofChange Rows.nameLooksSpec).at F).post enc Tryd.prog Tryd.f7 false true false false) := by
  obtain ⟨places, hx⟩ := reads os enc
  refine returnsInHanded_of_row (C := Tryd.checked) (s := OpenSpec.ofChange Rows.nameLooksSpec) own started (by kernel_rfl) Tryd.func7
    (witness_row_at (enc := enc) (C := Tryd.checked) false (laidWorld os) #[.string ⟨#[]⟩, .string ⟨#[]⟩] rfl (by kernel_rfl) (by kernel_rfl) (by kernel_rfl)
      (OpenSpec.preRow_of_cond 8 hx (by kernel_rfl) (fun k hk => by cases hk) (by kernel_rfl) (laid_met os))) ?_
  intro W base args ds gs before hval0 hW _ _ _ hL _ _
  have hval : ∀ (j : Nat) t v, Tryd.f7.params[j]? = some t → args[j]? = some v → Value.okWide Tryd.prog W .any base t v := hval0
  have hW' := hW
  obtain ⟨p, q, hA0, hV, rfl, hfz, hnd⟩ := hW
  have hA : DataW.TrodAll enc Tryd.prog W 0 (fun _ => true) true Tryd.f7.params.toList args.toList ds p := hA0
  rw [Tryd.params7] at hA hval
  obtain ⟨v0, vs0, d0, ds0, p0, q0, hargs, rfl, rfl, h0, r0⟩ := trodAll_cons hA
  obtain ⟨v1, vs1, d1, ds1, p1, q1, rfl, rfl, rfl, h1, r1⟩ := trodAll_cons r0
  obtain ⟨rfl, rfl, rfl⟩ := trodAll_nil r1
  obtain rfl : args = #[v0, v1] := by cases args; simp_all
  obtain ⟨rfl, rfl⟩ := trodVars_none hV
  obtain ⟨a0, rfl, rfl, rfl, w0⟩ := ChangeMaps.open_string Tryd.underlying9 (hval 0 9 v0 rfl rfl) h0
  obtain ⟨a1, rfl, rfl, rfl, w1⟩ := ChangeMaps.open_string Tryd.underlying9 (hval 1 9 v1 rfl rfl) h1
  clear hA0 hval0
  simp only [List.append_nil] at hW'
  refine (walk a0 w0 a1 w1 W (tabs_of hL)).mono fun e W' ⟨he, hg⟩ => ?_
  subst he
  exact ⟨_, rfl, law_post (s := Rows.nameLooksSpec) laidOut (of_decide_eq_true (by kernel_rfl)) Tryd.underlying4 rfl rfl rfl rfl rfl hW' hg⟩

theorem said : Rows.NameLooksSaid :=
  OpenClaim.holds_of_cond 7 Tryd.f7 rfl rfl rfl rfl rfl rfl rfl ⟨rfl, rfl, rfl, rfl, rfl⟩ rfl rfl rfl rfl rfl (by kernel_rfl) Tryd.func7 (by kernel_rfl)
    (of_decide_eq_true (by kernel_rfl)) (by unfold Func.isWrapper; first | (rw [if_pos (by decide +kernel)]; kernel_rfl) | (rw [if_neg (by decide +kernel)]; exact ⟨rfl, rfl⟩))
    (fun os started H enc _ F => by rw [OpenClaim.pre_eq_preRow]; exact lifted os started H enc F)
theorem plain (f : FuncId) (fn : Func) (hf : Tryd.pinned.checked.prog.funcNamed "strongbox/strongboxlaw6.NameLooks" = some f) (hfn : Tryd.pinned.checked.prog.funcs[f]? = some fn) :
    false = Tryd.pinned.checked.prog.looks [] ∧ ∀ (j : Nat) t, fn.params[j]? = some t → Tryd.pinned.checked.prog.wantsStandIn t = false := by
  obtain rfl : f = 7 := Option.some.inj ((show Tryd.prog.funcNamed "strongbox/strongboxlaw6.NameLooks" = some 7 by kernel_rfl).symm.trans hf) |>.symm
  obtain rfl : fn = Tryd.f7 := (Option.some.inj (Tryd.func7.symm.trans hfn)).symm
  refine ⟨by kernel_rfl, fun j t ht => ?_⟩
  rw [Tryd.params7] at ht
  have hm := Array.mem_of_getElem? ht
  simp only [List.mem_toArray, List.mem_cons, List.not_mem_nil, or_false] at hm
  rcases hm with rfl | rfl
  · exact (show Tryd.prog.wantsStandIn 9 = false by kernel_rfl)
  · exact (show Tryd.prog.wantsStandIn 9 = false by kernel_rfl)

/-- ████ THE CARD ████ -/
theorem proved : Rows.NameLooksCardSaid :=
  Claim7.holds_tied_plain_at .later [] _ _ _ _ said (fun _ h => by cases h) (by kernel_rfl) (fun _ h => by cases h) nameLooks_row_tie rfl ⟨rfl, rfl⟩ (by kernel_rfl) rfl plain (by kernel_rfl)
#print axioms proved
end Go.Proofs.YtdegjlpcbnmhgaaDoor.nameLooks
