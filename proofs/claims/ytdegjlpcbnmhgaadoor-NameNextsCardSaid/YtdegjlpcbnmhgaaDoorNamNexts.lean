/- NameNexts: what begins with a text is not ahead of it, and ahead of the next one; what does not is ahead of it, or not ahead of the next one. No condition but that utf8's two tables stand as the program's text lays them (tied by the card). -/
import Derived.Test.YtdegjlpcbnmhgaaDoorNamLaw
import Derived.Test.YtdegjlpcbnmhgaaDoorCards
import Derived.Test.YtdegjlpcbnmhgaaDoorTie
import Derived.Deep.DeepHandedRow
import Derived.Lib.LaidIn
import Derived.Lib.LaidU8T
namespace Go.Proofs.YtdegjlpcbnmhgaaDoor.nameNexts
open Go.ChangeShapes Go.WideShapes Go.ChangeAt Go.RowKit Go.Shelf Nam

theorem nextR_ne : ∀ (p n : List UInt8), nextR p = some n → n ≠ []
  | [], _, h => by cases h
  | c :: t, n, h => by
    simp only [nextR] at h
    cases ht : nextR t with
    | some u => rw [ht] at h; injection h with h; subst h; simp
    | none =>
      rw [ht] at h
      simp only [] at h
      split at h
      · cases h
      · injection h with h; subst h; simp

set_option maxHeartbeats 4000000 in
theorem walk0 (a p : ByteArray) (ha : a.size ≤ 1000) (hp : p.size ≤ 1000) (w : World) (hT : Tabs w) :
    Calls Tryd.prog 5 #[.string a, .string p] w fun e w' => e = .returned (.bool true) ∧ Below w.heap.size w w' := by
  have HT := Lib.hid hT; clear hT
  have haz : (a.size : Int) ≤ 1000 := by omega
  have hpz : (p.size : Int) ≤ 1000 := by omega
  have law := next_law p.data.toList a.data.toList
  obtain ⟨x, hx⟩ : ∃ x, Op.bytesLess a.toList p.toList = x := ⟨_, rfl⟩
  obtain ⟨y, hy⟩ : ∃ y, prefixB a.data.toList p.data.toList = y := ⟨_, rfl⟩
  have cx : ∀ W : World, Calls Tryd.prog 13 #[.string a, .string p] W fun e w' => e = .returned (.bool x) ∧ W = w' := fun W => by rw [← hx]; exact less_is _ _ W
  have cy : ∀ W : World, Calls Tryd.prog 15 #[.string a, .string p] W fun e w' => e = .returned (.bool y) ∧ W = w' := fun W => by rw [← hy]; exact prefix_is _ _ W (by unfold maxLen; omega) (by unfold maxLen; omega)
  rw [hy, ← ByteArray.toList_eq, ← ByteArray.toList_eq, hx] at law
  have CX := Lib.hid cx; clear cx
  have CY := Lib.hid cy; clear cy
  have LAW := Lib.hid law; clear law
  clear hx hy
  go_enter Tryd.func5, Tryd.ntmps5
  go_wp2_with fail
  refine (awake_is _ HT.out).mono ?_
  rintro e w1 ⟨rfl, h1⟩
  go_wp2_with fail
  refine (next_is p _ (by omega)).mono ?_
  rintro e w2 ⟨⟨t, rfl, ht, hts⟩, h2⟩
  have h12 := h1.trans (h2.mono h1.size)
  clear h1 h2
  rw [← ByteArray.toList_eq, ← ByteArray.toList_eq] at ht
  cases hn : nextR p.toList with
  | none =>
    rw [hn] at ht
    have hl := LAW.out
    rw [hn] at hl
    obtain rfl : t = ⟨#[]⟩ := eq_data (by rw [← ByteArray.toList_eq, ht]; rfl)
    simp only [Bool.and_true] at hl
    subst hl
    clear ht hn LAW
    cases x
    all_goals
      go_wp2_with (first
        | (go_at_call 13; refine (CX.out _).mono ?_; rintro e w3 ⟨rfl, rfl⟩)
        | (go_at_call 15; refine (CY.out _).mono ?_; rintro e w3 ⟨rfl, rfl⟩))
      go_ret
      exact ⟨rfl, h12⟩
  | some n =>
    have hne := nextR_ne _ _ hn
    rw [hn] at ht
    have hl := LAW.out
    rw [hn] at hl
    simp only [Option.getD_some] at ht hl
    obtain ⟨z, hz⟩ : ∃ z, Op.bytesLess a.toList n = z := ⟨_, rfl⟩
    rw [hz] at hl
    have cz : ∀ W : World, Calls Tryd.prog 13 #[.string a, .string t] W fun e w' => e = .returned (.bool z) ∧ W = w' := fun W => by rw [← hz, ← ht]; exact less_is _ _ W
    have CZ := Lib.hid cz; clear cz
    rw [← ht] at hne
    have hne1 : t.toList.isEmpty = false := by simpa using hne
    clear ht hn LAW hz
    subst hl
    cases x <;> cases z
    all_goals
      go_wp2_with (first
        | (go_at_call_of 13 (Value.string a); refine (CX.out _).mono ?_; rintro e w3 ⟨rfl, rfl⟩)
        | (go_at_call 13; refine (CZ.out _).mono ?_; rintro e w3 ⟨rfl, rfl⟩)
        | (go_at_call 15; refine (CY.out _).mono ?_; rintro e w3 ⟨rfl, rfl⟩))
      go_ret
      exact ⟨rfl, h12⟩

theorem walk (a : ByteArray) (wa : a.size ≤ maxLen) (b : ByteArray) (wb : b.size ≤ maxLen) (w : World) (hT : Tabs w) :
    Calls Tryd.prog 5 #[.string a, .string b] w fun e w' => e = .returned (.bool true) ∧ Below w.heap.size w w' := by
  by_cases ha : a.size ≤ 1000
  · by_cases hb : b.size ≤ 1000
    · exact walk0 a b ha hb w hT
    · have HT := Lib.hid hT; clear hT
      have haz : (a.size : Int) ≤ 1000 := by omega
      have hbz : (1000 : Int) < (b.size : Int) := by omega
      go_enter Tryd.func5, Tryd.ntmps5
      go_wp2_with fail
      refine (awake_is _ HT.out).mono ?_
      rintro e w1 ⟨rfl, h1⟩
      go_wp2
      go_ret
      exact ⟨rfl, h1⟩
  · have HT := Lib.hid hT; clear hT
    have haz : (1000 : Int) < (a.size : Int) := by omega
    go_enter Tryd.func5, Tryd.ntmps5
    go_wp2_with fail
    refine (awake_is _ HT.out).mono ?_
    rintro e w1 ⟨rfl, h1⟩
    go_wp2
    go_ret
    exact ⟨rfl, h1⟩

theorem own : ownKnob Tryd.prog.godebug = none := by kernel_rfl
theorem laidOut : laidOutB Tryd.prog = true := by kernel_rfl
/-- A world for the witness: the two tables holding what their initialisers lay. -/
noncomputable def laidWorld (os : Os) : World :=
  let w0 := World.holding Tryd.prog os ⟨#[], #[], []⟩
  let put (h : Array Obj) (g : Nat) (cs : Array Value) : Array Obj := h.modify g fun
    | .cells _ t frozen => .cells cs t frozen
    | o => o
  let h1 := put w0.heap 0 (Lib.firstTab.map fun z => Value.int .u8 z).toArray
  let h2 := put h1 1 ((List.range 16).flatMap fun i => [Value.int .u8 (Lib.accLo i), Value.int .u8 (Lib.accHi i)]).toArray
  { w0 with heap := h2 }
theorem laid_met (os : Os) : laidMet Tryd.prog Rows.nameNextsRow.laid ((laidWorld os).forCall (fun _ _ => 0) ⟨#[], #[.string ⟨#[]⟩, .string ⟨#[]⟩], []⟩).memory :=
  laidMet_of_run' 8 (by kernel_rfl) (by kernel_rfl)
theorem reads (os : Os) {H : Type} (enc : TypeId × Value → H) : ∃ places, DataW.whole enc Tryd.prog ((laidWorld os).forCall (fun _ _ => 0) ⟨#[], #[.string ⟨#[]⟩, .string ⟨#[]⟩], []⟩).memory Tryd.f5.params.toList Rows.nameNextsSpec.vars false (#[.string ⟨#[]⟩, .string ⟨#[]⟩] : Array Value).toList 8 = some ([.lit (.string []), .lit (.string [])], [], places) :=
  ⟨[], by kernel_rfl⟩
set_option maxRecDepth 1000000 in
theorem tabs_of {W : World} (h : laidMetH Tryd.prog Rows.nameNextsRow.laid W) : Tabs W :=
  utf8Tabs_of_readsT (U8Types.of196 Tryd.laysValid) ⟨by kernel_rfl, by kernel_rfl, by kernel_rfl, by kernel_rfl, by kernel_rfl, by kernel_rfl, by kernel_rfl⟩ (Lib.laidMet.reads h (.tail _ (.head _))) (Lib.laidMet.reads h (.head _))
set_option maxRecDepth 100000 in
theorem lifted (os : Os) (started : os.Started) (H : Type) (enc : TypeId × Value → H) (F : Stop.Interp) :
    ReturnsInHanded {} Tryd.checked os 5 .any ((OpenSpec.ofChange Rows.nameNextsSpec).preRow enc Tryd.prog Tryd.f5 Rows.nameNextsRow.domain false Rows.nameNextsRow.laid) (((OpenSpec.ofChange Rows.nameNextsSpec).at F).post enc Tryd.prog Tryd.f5 false true false false) := by
  obtain ⟨places, hx⟩ := reads os enc
  refine returnsInHanded_of_row (C := Tryd.checked) (s := OpenSpec.ofChange Rows.nameNextsSpec) own started (by kernel_rfl) Tryd.func5
    (witness_row_at (enc := enc) (C := Tryd.checked) false (laidWorld os) #[.string ⟨#[]⟩, .string ⟨#[]⟩] rfl (by kernel_rfl) (by kernel_rfl) (by kernel_rfl)
      (OpenSpec.preRow_of_cond 8 hx (by kernel_rfl) (fun k hk => by cases hk) (by kernel_rfl) (laid_met os))) ?_
  intro W base args ds gs before hval0 hW _ _ _ hL _ _
  have hval : ∀ (j : Nat) t v, Tryd.f5.params[j]? = some t → args[j]? = some v → Value.okWide Tryd.prog W .any base t v := hval0
  have hW' := hW
  obtain ⟨p, q, hA0, hV, rfl, hfz, hnd⟩ := hW
  have hA : DataW.TrodAll enc Tryd.prog W 0 (fun _ => true) true Tryd.f5.params.toList args.toList ds p := hA0
  rw [Tryd.params5] at hA hval
  obtain ⟨v0, vs0, d0, ds0, p0, q0, hargs, rfl, rfl, h0, r0⟩ := trodAll_cons hA
  obtain ⟨v1, vs1, d1, ds1, p1, q1, rfl, rfl, rfl, h1, r1⟩ := trodAll_cons r0
  obtain ⟨rfl, rfl, rfl⟩ := trodAll_nil r1
  obtain rfl : args = #[v0, v1] := by cases args; simp_all
  obtain ⟨rfl, rfl⟩ := trodVars_none hV
  obtain ⟨a0, rfl, rfl, rfl, w0⟩ := ChangeMaps.open_string Tryd.underlying9 (hval 0 9 v0 rfl rfl) h0
  obtain ⟨a1, rfl, rfl, rfl, w1⟩ := ChangeMaps.open_string Tryd.underlying9 (hval 1 9 v1 rfl rfl) h1
  clear hA0 hval0
  simp only [List.append_nil] at hW'
  refine (walk a0 w0 a1 w1 W (tabs_of hL)).mono fun e W' ⟨he, hg⟩ => ?_
  subst he
  exact ⟨_, rfl, law_post (s := Rows.nameNextsSpec) laidOut (of_decide_eq_true (by kernel_rfl)) Tryd.underlying4 rfl rfl rfl rfl rfl hW' hg⟩

theorem said : Rows.NameNextsSaid :=
  OpenClaim.holds_of_cond 5 Tryd.f5 rfl rfl rfl rfl rfl rfl rfl ⟨rfl, rfl, rfl, rfl, rfl⟩ rfl rfl rfl rfl rfl (by kernel_rfl) Tryd.func5 (by kernel_rfl)
    (of_decide_eq_true (by kernel_rfl)) (by unfold Func.isWrapper; first | (rw [if_pos (by decide +kernel)]; kernel_rfl) | (rw [if_neg (by decide +kernel)]; exact ⟨rfl, rfl⟩))
    (fun os started H enc _ F => by rw [OpenClaim.pre_eq_preRow]; exact lifted os started H enc F)
theorem plain (f : FuncId) (fn : Func) (hf : Tryd.pinned.checked.prog.funcNamed "strongbox/strongboxlaw6.NameNexts" = some f) (hfn : Tryd.pinned.checked.prog.funcs[f]? = some fn) :
    false = Tryd.pinned.checked.prog.looks [] ∧ ∀ (j : Nat) t, fn.params[j]? = some t → Tryd.pinned.checked.prog.wantsStandIn t = false := by
  obtain rfl : f = 5 := Option.some.inj ((show Tryd.prog.funcNamed "strongbox/strongboxlaw6.NameNexts" = some 5 by kernel_rfl).symm.trans hf) |>.symm
  obtain rfl : fn = Tryd.f5 := (Option.some.inj (Tryd.func5.symm.trans hfn)).symm
  refine ⟨by kernel_rfl, fun j t ht => ?_⟩
  rw [Tryd.params5] at ht
  have hm := Array.mem_of_getElem? ht
  simp only [List.mem_toArray, List.mem_cons, List.not_mem_nil, or_false] at hm
  rcases hm with rfl | rfl
  · exact (show Tryd.prog.wantsStandIn 9 = false by kernel_rfl)
  · exact (show Tryd.prog.wantsStandIn 9 = false by kernel_rfl)

/-- ████ THE CARD ████ -/
theorem proved : Rows.NameNextsCardSaid :=
  Claim7.holds_tied_plain_at .later [] _ _ _ _ said (fun _ h => by cases h) (by kernel_rfl) (fun _ h => by cases h) nameNexts_row_tie rfl ⟨rfl, rfl⟩ (by kernel_rfl) rfl plain (by kernel_rfl)
#print axioms proved
end Go.Proofs.YtdegjlpcbnmhgaaDoor.nameNexts
