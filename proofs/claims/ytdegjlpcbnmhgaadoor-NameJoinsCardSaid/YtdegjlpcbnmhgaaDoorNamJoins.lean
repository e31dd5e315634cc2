/- NameJoins: two buckets' names with a point between are one, if it is not too long; two keys one behind the other likewise; paths are put together so. No condition but that utf8's two tables stand as the program's text lays them (tied by the card). -/
import Derived.Test.YtdegjlpcbnmhgaaDoorNamLaw
import Derived.Test.YtdegjlpcbnmhgaaDoorCards
import Derived.Test.YtdegjlpcbnmhgaaDoorTie
import Derived.Deep.DeepHandedRow
import Derived.Lib.LaidIn
import Derived.Lib.LaidU8T
namespace Go.Proofs.YtdegjlpcbnmhgaaDoor.nameJoins
open Go.ChangeShapes Go.WideShapes Go.ChangeAt Go.RowKit Go.Shelf Nam

set_option maxHeartbeats 8000000 in
theorem walk0 (a b : ByteArray) (ha : a.size ≤ 1000) (hb : b.size ≤ 1000) (w : World) (hT : Tabs w) :
    Calls Tryd.prog 3 #[.string a, .string b] w fun e w' => e = .returned (.bool true) ∧ Below w.heap.size w w' := by
  have HT := Lib.hid hT; clear hT
  have haz : (a.size : Int) ≤ 1000 := by omega
  have hbz : (b.size : Int) ≤ 1000 := by omega
  have wa : a.size ≤ maxLen := by unfold maxLen; omega
  have wb : b.size ≤ maxLen := by unfold maxLen; omega
  have wj : (a ++ ⟨#[46]⟩ ++ b).size ≤ maxLen := by rw [ByteArray.size_append, ByteArray.size_append]; unfold maxLen; show a.size + 1 + b.size ≤ _; omega
  have wk : (a ++ b).size ≤ maxLen := by rw [ByteArray.size_append]; unfold maxLen; omega
  have dj : (a ++ ⟨#[46]⟩ ++ b).data.toList = a.data.toList ++ [46] ++ b.data.toList := by simp [ByteArray.data_append]
  have dk : (a ++ b).data.toList = a.data.toList ++ b.data.toList := by simp [ByteArray.data_append]
  have hJ : bucketB a.data.toList = true → bucketB b.data.toList = true → bucketB (a ++ ⟨#[46]⟩ ++ b).data.toList = decide ((a.size : Int) + (b.size : Int) + 1 ≤ 63) := fun h1 h2 => by
    rw [dj, bucketB_join _ _ h1 h2, size_list, size_list]
    congr 1
    exact propext ⟨fun h => by omega, fun h => by omega⟩
  have hK : keyB a.data.toList = true → keyB b.data.toList = true → keyB (a ++ b).data.toList = decide ((a.size : Int) + (b.size : Int) ≤ 200) := fun h1 h2 => by
    rw [dk, keyB_join _ _ h1 h2, size_list, size_list]
    congr 1
    exact propext ⟨fun h => by omega, fun h => by omega⟩
  have hP : Hid (pathB (a ++ b).data.toList = pathB a.data.toList ++ pathB b.data.toList) := by show _ = _; rw [dk, pathB_append]
  clear dj dk
  obtain ⟨x, hx⟩ : ∃ x, bucketB a.data.toList = x := ⟨_, rfl⟩
  obtain ⟨y, hy⟩ : ∃ y, bucketB b.data.toList = y := ⟨_, rfl⟩
  obtain ⟨p, hp⟩ : ∃ p, keyB a.data.toList = p := ⟨_, rfl⟩
  obtain ⟨q, hq⟩ : ∃ q, keyB b.data.toList = q := ⟨_, rfl⟩
  have ca : ∀ W : World, Calls Tryd.prog 10 #[.string a] W fun e w' => e = .returned (.bool x) ∧ Below W.heap.size W w' := fun W => by rw [← hx]; exact bucket_is a W wa
  have cb : ∀ W : World, Calls Tryd.prog 10 #[.string b] W fun e w' => e = .returned (.bool y) ∧ Below W.heap.size W w' := fun W => by rw [← hy]; exact bucket_is b W wb
  have cj : x = true → y = true → ∀ W : World, Calls Tryd.prog 10 #[.string (a ++ ⟨#[46]⟩ ++ b)] W fun e w' => e = .returned (.bool (decide ((a.size : Int) + (b.size : Int) + 1 ≤ 63))) ∧ Below W.heap.size W w' := fun h1 h2 W => by rw [← hJ (hx.trans h1) (hy.trans h2)]; exact bucket_is _ W wj
  have ka : ∀ W : World, Tabs W → Calls Tryd.prog 11 #[.string a] W fun e w' => e = .returned (.bool p) ∧ Below W.heap.size W w' := fun W hT => by rw [← hp]; exact key_is a W wa hT
  have kb : ∀ W : World, Tabs W → Calls Tryd.prog 11 #[.string b] W fun e w' => e = .returned (.bool q) ∧ Below W.heap.size W w' := fun W hT => by rw [← hq]; exact key_is b W wb hT
  have kj : p = true → q = true → ∀ W : World, Tabs W → Calls Tryd.prog 11 #[.string (a ++ b)] W fun e w' => e = .returned (.bool (decide ((a.size : Int) + (b.size : Int) ≤ 200))) ∧ Below W.heap.size W w' := fun h1 h2 W hT => by rw [← hK (hp.trans h1) (hq.trans h2)]; exact key_is _ W wk hT
  have CA := Lib.hid ca
  have CB := Lib.hid cb
  have CJ := Lib.hid cj
  have KA := Lib.hid ka
  have KB := Lib.hid kb
  have KJ := Lib.hid kj
  clear ca cb cj ka kb kj hx hy hp hq hJ hK
  -- the bucket's part, cut off from the keys'
  go_enter Tryd.func3, Tryd.ntmps3
  go_wp2_with fail
  refine (awake_is _ HT.out).mono ?_
  rintro e w1 ⟨rfl, h1⟩
  cases x <;> cases y <;> cases p <;> cases q
  all_goals
    go_wp2_with fail
    refine (CA.out _).mono ?_
    rintro e w2 ⟨rfl, hn⟩
    have h2 := h1.trans (hn.mono h1.size)
    clear hn
    go_wp2_with (first
      | (go_at_call_of 10 (Value.string b); refine (CB.out _).mono ?_; rintro e w3 ⟨rfl, hn⟩; replace h2 := h2.trans (hn.mono h2.size); clear hn)
      | (go_at_call 10; refine (CJ.out (by simp) (by simp) _).mono ?_; rintro e w3 ⟨rfl, hn⟩; replace h2 := h2.trans (hn.mono h2.size); clear hn)
      | (go_at_call_of 11 (Value.string a); refine (KA.out _ (HT.out.below h2)).mono ?_; rintro e w3 ⟨rfl, hn⟩; replace h2 := h2.trans (hn.mono h2.size); clear hn)
      | (go_at_call_of 11 (Value.string b); refine (KB.out _ (HT.out.below h2)).mono ?_; rintro e w3 ⟨rfl, hn⟩; replace h2 := h2.trans (hn.mono h2.size); clear hn)
      | (go_at_call 11; refine (KJ.out (by simp) (by simp) _ (HT.out.below h2)).mono ?_; rintro e w3 ⟨rfl, hn⟩; replace h2 := h2.trans (hn.mono h2.size); clear hn))
    refine (path_is (a ++ b) _ (by rw [ByteArray.size_append]; omega)).mono ?_
    rintro e w4 ⟨⟨t1, rfl, ht1⟩, hn⟩
    replace h2 := h2.trans (hn.mono h2.size)
    clear hn
    have HT1 := Lib.hid ht1; clear ht1
    go_wp2_with fail
    refine (path_is a _ (by omega)).mono ?_
    rintro e w5 ⟨⟨t2, rfl, ht2⟩, hn⟩
    replace h2 := h2.trans (hn.mono h2.size)
    clear hn
    have HT2 := Lib.hid ht2; clear ht2
    go_wp2_with fail
    refine (path_is b _ (by omega)).mono ?_
    rintro e w6 ⟨⟨t3, rfl, ht3⟩, hn⟩
    replace h2 := h2.trans (hn.mono h2.size)
    clear hn
    have hs2 : t2.size ≤ 2000 := by rw [← size_list, HT2.out, pathB_length, size_list]; omega
    have hs3 : t3.size ≤ 2000 := by rw [← size_list, ht3, pathB_length, size_list]; omega
    obtain rfl : t1 = t2 ++ t3 := eq_data (by rw [HT1.out, hP.out, ← HT2.out, ← ht3]; simp [ByteArray.data_append])
    clear ht3
    go_wp2
    go_ret
    exact ⟨rfl, h2⟩

theorem walk (a : ByteArray) (wa : a.size ≤ maxLen) (b : ByteArray) (wb : b.size ≤ maxLen) (w : World) (hT : Tabs w) :
    Calls Tryd.prog 3 #[.string a, .string b] w fun e w' => e = .returned (.bool true) ∧ Below w.heap.size w w' := by
  by_cases ha : a.size ≤ 1000
  · by_cases hb : b.size ≤ 1000
    · exact walk0 a b ha hb w hT
    · have HT := Lib.hid hT; clear hT
      have haz : (a.size : Int) ≤ 1000 := by omega
      have hbz : (1000 : Int) < (b.size : Int) := by omega
      go_enter Tryd.func3, Tryd.ntmps3
      go_wp2_with fail
      refine (awake_is _ HT.out).mono ?_
      rintro e w1 ⟨rfl, h1⟩
      go_wp2
      go_ret
      exact ⟨rfl, h1⟩
  · have HT := Lib.hid hT; clear hT
    have haz : (1000 : Int) < (a.size : Int) := by omega
    go_enter Tryd.func3, Tryd.ntmps3
    go_wp2_with fail
    refine (awake_is _ HT.out).mono ?_
    rintro e w1 ⟨rfl, h1⟩
    go_wp2
    go_ret
    exact ⟨rfl, h1⟩

theorem own : ownKnob Tryd.prog.godebug = none := by kernel_rfl
theorem laidOut : laidOutB Tryd.prog = true := by kernel_rfl
/-- A world for the witness: the two tables holding what their initialisers lay. -/
noncomputable def laidWorld (os : Os) : World :=
  let w0 := World.holding Tryd.prog os ⟨#[], #[], []⟩
  let put (h : Array Obj) (g : Nat) (cs : Array Value) : Array Obj := h.modify g fun
    | .cells _ t frozen => .cells cs t frozen
    | o => o
  let h1 := put w0.heap 0 (Lib.firstTab.map fun z => Value.int .u8 z).toArray
  let h2 := put h1 1 ((List.range 16).flatMap fun i => [Value.int .u8 (Lib.accLo i), Value.int .u8 (Lib.accHi i)]).toArray
  { w0 with heap := h2 }
theorem laid_met (os : Os) : laidMet Tryd.prog Rows.nameJoinsRow.laid ((laidWorld os).forCall (fun _ _ => 0) ⟨#[], #[.string ⟨#[]⟩, .string ⟨#[]⟩], []⟩).memory :=
  laidMet_of_run' 8 (by kernel_rfl) (by kernel_rfl)
theorem reads (os : Os) {H : Type} (enc : TypeId × Value → H) : ∃ places, DataW.whole enc Tryd.prog ((laidWorld os).forCall (fun _ _ => 0) ⟨#[], #[.string ⟨#[]⟩, .string ⟨#[]⟩], []⟩).memory Tryd.f3.params.toList Rows.nameJoinsSpec.vars false (#[.string ⟨#[]⟩, .string ⟨#[]⟩] : Array Value).toList 8 = some ([.lit (.string []), .lit (.string [])], [], places) :=
  ⟨[], by kernel_rfl⟩
set_option maxRecDepth 1000000 in
theorem tabs_of {W : World} (h : laidMetH Tryd.prog Rows.nameJoinsRow.laid W) : Tabs W :=
  utf8Tabs_of_readsT (U8Types.of196 Tryd.laysValid) ⟨by kernel_rfl, by kernel_rfl, by kernel_rfl, by kernel_rfl, by kernel_rfl, by kernel_rfl, by kernel_rfl⟩ (Lib.laidMet.reads h (.tail _ (.head _))) (Lib.laidMet.reads h (.head _))
set_option maxRecDepth 100000 in
theorem lifted (os : Os) (started : os.Started) (H : Type) (enc : TypeId × Value → H) (F : Stop.Interp) :
    ReturnsInHanded {} Tryd.checked os 3 .any ((OpenSpec.ofChange Rows.nameJoinsSpec).preRow enc Tryd.prog Tryd.f3 Rows.nameJoinsRow.domain false Rows.nameJoinsRow.laid) (((OpenSpec.ofChange Rows.nameJoinsSpec).at F).post enc Tryd.prog Tryd.f3 false true false false) := by
  obtain ⟨places, hx⟩ := reads os enc
  refine returnsInHanded_of_row (C := Tryd.checked) (s := OpenSpec.ofChange Rows.nameJoinsSpec) own started (by kernel_rfl) Tryd.func3
    (witness_row_at (enc := enc) (C := Tryd.checked) false (laidWorld os) #[.string ⟨#[]⟩, .string ⟨#[]⟩] rfl (by kernel_rfl) (by kernel_rfl) (by kernel_rfl)
      (OpenSpec.preRow_of_cond 8 hx (by kernel_rfl) (fun k hk => by cases hk) (by kernel_rfl) (laid_met os))) ?_
  intro W base args ds gs before hval0 hW _ _ _ hL _ _
  have hval : ∀ (j : Nat) t v, Tryd.f3.params[j]? = some t → args[j]? = some v → Value.okWide Tryd.prog W .any base t v := hval0
  have hW' := hW
  obtain ⟨p, q, hA0, hV, rfl, hfz, hnd⟩ := hW
  have hA : DataW.TrodAll enc Tryd.prog W 0 (fun _ => true) true Tryd.f3.params.toList args.toList ds p := hA0
  rw [Tryd.params3] at hA hval
  obtain ⟨v0, vs0, d0, ds0, p0, q0, hargs, rfl, rfl, h0, r0⟩ := trodAll_cons hA
  obtain ⟨v1, vs1, d1, ds1, p1, q1, rfl, rfl, rfl, h1, r1⟩ := trodAll_cons r0
  obtain ⟨rfl, rfl, rfl⟩ := trodAll_nil r1
  obtain rfl : args = #[v0, v1] := by cases args; simp_all
  obtain ⟨rfl, rfl⟩ := trodVars_none hV
  obtain ⟨a0, rfl, rfl, rfl, w0⟩ := ChangeMaps.open_string Tryd.underlying9 (hval 0 9 v0 rfl rfl) h0
  obtain ⟨a1, rfl, rfl, rfl, w1⟩ := ChangeMaps.open_string Tryd.underlying9 (hval 1 9 v1 rfl rfl) h1
  clear hA0 hval0
  simp only [List.append_nil] at hW'
  refine (walk a0 w0 a1 w1 W (tabs_of hL)).mono fun e W' ⟨he, hg⟩ => ?_
  subst he
  exact ⟨_, rfl, law_post (s := Rows.nameJoinsSpec) laidOut (of_decide_eq_true (by kernel_rfl)) Tryd.underlying4 rfl rfl rfl rfl rfl hW' hg⟩

theorem said : Rows.NameJoinsSaid :=
  OpenClaim.holds_of_cond 3 Tryd.f3 rfl rfl rfl rfl rfl rfl rfl ⟨rfl, rfl, rfl, rfl, rfl⟩ rfl rfl rfl rfl rfl (by kernel_rfl) Tryd.func3 (by kernel_rfl)
    (of_decide_eq_true (by kernel_rfl)) (by unfold Func.isWrapper; first | (rw [if_pos (by decide +kernel)]; kernel_rfl) | (rw [if_neg (by decide +kernel)]; exact ⟨rfl, rfl⟩))
    (fun os started H enc _ F => by rw [OpenClaim.pre_eq_preRow]; exact lifted os started H enc F)
theorem plain (f : FuncId) (fn : Func) (hf : Tryd.pinned.checked.prog.funcNamed "strongbox/strongboxlaw6.NameJoins" = some f) (hfn : Tryd.pinned.checked.prog.funcs[f]? = some fn) :
    false = Tryd.pinned.checked.prog.looks [] ∧ ∀ (j : Nat) t, fn.params[j]? = some t → Tryd.pinned.checked.prog.wantsStandIn t = false := by
  obtain rfl : f = 3 := Option.some.inj ((show Tryd.prog.funcNamed "strongbox/strongboxlaw6.NameJoins" = some 3 by kernel_rfl).symm.trans hf) |>.symm
  obtain rfl : fn = Tryd.f3 := (Option.some.inj (Tryd.func3.symm.trans hfn)).symm
  refine ⟨by kernel_rfl, fun j t ht => ?_⟩
  rw [Tryd.params3] at ht
  have hm := Array.mem_of_getElem? ht
  simp only [List.mem_toArray, List.mem_cons, List.not_mem_nil, or_false] at hm
  rcases hm with rfl | rfl
  · exact (show Tryd.prog.wantsStandIn 9 = false by kernel_rfl)
  · exact (show Tryd.prog.wantsStandIn 9 = false by kernel_rfl)

/-- ████ THE CARD ████ -/
theorem proved : Rows.NameJoinsCardSaid :=
  Claim7.holds_tied_plain_at .later [] _ _ _ _ said (fun _ h => by cases h) (by kernel_rfl) (fun _ h => by cases h) nameJoins_row_tie rfl ⟨rfl, rfl⟩ (by kernel_rfl) rfl plain (by kernel_rfl)
#print axioms proved
end Go.Proofs.YtdegjlpcbnmhgaaDoor.nameJoins
