/- NameOrder: of any three texts it is one order; two are neither way round just if they are the same. No condition but that utf8's two tables stand as the program's text lays them (tied by the card). -/
import Derived.Test.YtdegjlpcbnmhgaaDoorNamLaw
import Derived.Test.YtdegjlpcbnmhgaaDoorCards
import Derived.Test.YtdegjlpcbnmhgaaDoorTie
import Derived.Deep.DeepHandedRow
import Derived.Lib.LaidIn
import Derived.Lib.LaidU8T
namespace Go.Proofs.YtdegjlpcbnmhgaaDoor.nameOrder
open Go.ChangeShapes Go.WideShapes Go.ChangeAt Go.RowKit Go.Shelf Nam

/-- What the loops keep: the array's cells; what was there before. -/
def K (w : World) (B : Nat) (A : Nat → ByteArray) (wr : World) : Prop := (∀ i, i < 3 → wr.cell? ⟨B, i, none⟩ = some (.string (A i))) ∧ Below w.heap.size w wr

set_option maxHeartbeats 8000000 in
theorem walk0 (A : Nat → ByteArray) (hs : ∀ i, i < 3 → (A i).size ≤ maxLen) (w : World) (hT : Tabs w) :
    Calls Tryd.prog 4 #[.agg #[.string (A 0), .string (A 1), .string (A 2)]] w fun e w' => e = .returned (.bool true) ∧ Below w.heap.size w w' := by
  have HT := Lib.hid hT; clear hT
  have HS := Lib.hid hs; clear hs
  go_enter Tryd.func4, Tryd.ntmps4
  go_wp2_with fail
  refine (awake_is _ (HT.out.below ((Below.refl _ _).alloc (Nat.le_refl _) _))).mono ?_
  rintro e w1 ⟨rfl, h1⟩
  have hK : Hid (K w w.heap.size A w1) := by
    refine ⟨fun i hi => ?_, ((Below.refl _ _).alloc (Nat.le_refl _) _).trans (h1.mono (by simp))⟩
    rw [h1.cell (by simp)]
    match i, hi with
    | 0, _ => simp
    | 1, _ => simp
    | 2, _ => simp
  clear h1
  generalize w.heap.size = B at hK
  go_wp2_with fail
  go_loop [3] (fun v => ∃ i : Nat, v = .int .i64 i ∧ i ≤ 3) (fun v => 3 - (intOf v).toNat)
  case atStart => exact ⟨0, rfl, by omega⟩
  case round =>
    obtain ⟨i, rfl, hi⟩ := hrel
    by_cases hi3 : i < 3
    · have hz : (i : Int) < 3 := by omega
      have hc := hK.out.1 i hi3
      have hsz := HS.out i hi3
      unfold maxLen at hsz
      go_wp2
      · go_ret
        exact ⟨rfl, hK.out.2⟩
      · go_round
        case rel => exact ⟨i + 1, by go_num, by omega⟩
        case measure => simp [intOf]; omega
    · have hz : ¬ (i : Int) < 3 := by omega
      have hiE : i = 3 := by omega
      subst hiE
      clear hi hi3
      go_wp2_with fail
      go_loopw [4] (fun v wr => ∃ i : Nat, v = .int .i64 i ∧ i ≤ 3 ∧ Hid (K w B A wr)) (fun v _ => 3 - (intOf v).toNat)
      case atStart => exact ⟨0, rfl, by omega, hK⟩
      case round =>
        clear hK
        obtain ⟨i, rfl, hi, hK⟩ := hrel
        by_cases hi3 : i < 3
        · have hiz : (i : Int) < 3 := by omega
          go_wp2_with fail
          go_loopw [5] (fun v wr => ∃ j : Nat, v = .int .i64 j ∧ j ≤ 3 ∧ Hid (K w B A wr)) (fun v _ => 3 - (intOf v).toNat)
          case atStart => exact ⟨0, rfl, by omega, hK⟩
          case round =>
            clear hK
            obtain ⟨j, rfl, hj, hK⟩ := hrel
            by_cases hj3 : j < 3
            · have hjz : (j : Int) < 3 := by omega
              have hci := hK.out.1 i hi3
              have hcj := hK.out.1 j hj3
              obtain ⟨x, hx⟩ : ∃ x, Op.bytesLess (A i).toList (A j).toList = x := ⟨_, rfl⟩
              obtain ⟨y, hy⟩ : ∃ y, Op.bytesLess (A j).toList (A i).toList = y := ⟨_, rfl⟩
              obtain ⟨u, hu⟩ : ∃ u, ((A i).toList == (A j).toList) = u := ⟨_, rfl⟩
              have law : (x = true ∧ y = false ∧ u = false) ∨ (x = false ∧ y = true ∧ u = false) ∨ (x = false ∧ y = false ∧ u = true) := by
                cases x
                · cases y
                  · right; right
                    have e := less_total _ _ hx hy
                    rw [e] at hu
                    exact ⟨rfl, rfl, by rw [← hu]; simp⟩
                  · right; left
                    refine ⟨rfl, rfl, ?_⟩
                    rw [← hu, beq_eq_false_iff_ne]
                    intro e
                    rw [e, less_irrefl] at hy
                    cases hy
                · left
                  have e := less_asymm _ _ hx
                  rw [e] at hy
                  refine ⟨rfl, hy.symm, ?_⟩
                  rw [← hu, beq_eq_false_iff_ne]
                  intro e
                  rw [e, less_irrefl] at hx
                  cases hx
              have cij : ∀ W : World, Calls Tryd.prog 13 #[.string (A i), .string (A j)] W fun e w' => e = .returned (.bool x) ∧ W = w' := fun W => by rw [← hx]; exact less_is _ _ W
              have cji : ∀ W : World, Calls Tryd.prog 13 #[.string (A j), .string (A i)] W fun e w' => e = .returned (.bool y) ∧ W = w' := fun W => by rw [← hy]; exact less_is _ _ W
              have CIJ := Lib.hid cij; clear cij
              have CJI := Lib.hid cji; clear cji
              have HX := Lib.hid hx; clear hx
              have HY := Lib.hid hy; clear hy
              obtain ⟨ai, hai⟩ : ∃ a, A i = a := ⟨_, rfl⟩
              obtain ⟨aj, haj⟩ : ∃ a, A j = a := ⟨_, rfl⟩
              rw [hai] at hci hu
              rw [haj] at hcj hu
              rw [hai, haj] at CIJ CJI
              have HAI := Lib.hid hai; clear hai
              have HAJ := Lib.hid haj; clear haj
              go_wp2_with fail
              go_quiet ((first | (go_at_call 13; exact quiet_eq (CIJ.out _)) | (go_at_call 13; exact quiet_eq (CJI.out _))))
              rcases law with ⟨rfl, rfl, rfl⟩ | ⟨rfl, rfl, rfl⟩ | ⟨rfl, rfl, rfl⟩
              · have hK2 : Hid (K w B A (wr.drewN nq)) := ⟨hK.out.1, hK.out.2.drewN nq⟩
                clear hci hcj hK
                have hci := hK2.out.1 i hi3
                have hcj := hK2.out.1 j hj3
                rw [HAI.out] at hci
                rw [HAJ.out] at hcj
                generalize wr.drewN nq = wq at hK2 hci hcj ⊢
                go_wp2_with fail
                go_quiet (fail)
                have hK3 : Hid (K w B A (wq.drewN nq)) := ⟨hK2.out.1, hK2.out.2.drewN nq⟩
                clear hci hcj hK2
                generalize wq.drewN nq = wz at hK3 ⊢
                go_wp2_with fail
                go_loopw [8] (fun v wr => ∃ k : Nat, v = .int .i64 k ∧ k ≤ 3 ∧ Hid (K w B A wr)) (fun v _ => 3 - (intOf v).toNat)
                case atStart => exact ⟨0, rfl, by omega, hK3⟩
                case round =>
                  clear hK3
                  obtain ⟨k, rfl, hk, hK⟩ := hrel
                  by_cases hk3 : k < 3
                  · have hkz : (k : Int) < 3 := by omega
                    have hci := hK.out.1 i hi3
                    have hcj := hK.out.1 j hj3
                    have hck := hK.out.1 k hk3
                    rw [HAI.out] at hci
                    rw [HAJ.out] at hcj
                    obtain ⟨ak, hak⟩ : ∃ a, A k = a := ⟨_, rfl⟩
                    rw [hak] at hck
                    clear hak
                    obtain ⟨p, hp⟩ : ∃ p, Op.bytesLess aj.toList ak.toList = p := ⟨_, rfl⟩
                    obtain ⟨q, hq⟩ : ∃ q, Op.bytesLess ai.toList ak.toList = q := ⟨_, rfl⟩
                    have law : p = true → q = true := fun h => by
                      rw [← hq]
                      rw [h] at hp
                      have hx := HX.out
                      rw [HAI.out, HAJ.out] at hx
                      exact less_trans _ _ _ hx hp
                    have cjk : ∀ W : World, Calls Tryd.prog 13 #[.string aj, .string ak] W fun e w' => e = .returned (.bool p) ∧ W = w' := fun W => by rw [← hp]; exact less_is _ _ W
                    have cik : ∀ W : World, Calls Tryd.prog 13 #[.string ai, .string ak] W fun e w' => e = .returned (.bool q) ∧ W = w' := fun W => by rw [← hq]; exact less_is _ _ W
                    have CJK := Lib.hid cjk; clear cjk
                    have CIK := Lib.hid cik; clear cik
                    clear hp hq
                    cases p
                    · clear law
                      go_wp2_with fail
                      go_quiet ((first | (go_at_call 13; exact quiet_eq (CJK.out _)) | (go_at_call 13; exact quiet_eq (CIK.out _))))
                      go_wp2
                      go_roundw
                      case rel => exact ⟨k + 1, by go_num, by omega, ⟨hK.out.1, hK.out.2.drewN _⟩⟩
                      case measure => simp [intOf]; omega
                    · obtain rfl := law rfl
                      clear law
                      go_wp2_with fail
                      go_quiet ((first | (go_at_call 13; exact quiet_eq (CJK.out _)) | (go_at_call 13; exact quiet_eq (CIK.out _))))
                      go_wp2
                      go_roundw
                      case rel => exact ⟨k + 1, by go_num, by omega, ⟨hK.out.1, hK.out.2.drewN _⟩⟩
                      case measure => simp [intOf]; omega
                  · have hkz : ¬ (k : Int) < 3 := by omega
                    go_wp2
                    go_roundw
                    case rel => exact ⟨j + 1, by go_num, by omega, hK⟩
                    case measure => simp [intOf]; omega
              · have hK2 : Hid (K w B A (wr.drewN nq)) := ⟨hK.out.1, hK.out.2.drewN nq⟩
                clear hci hcj hK
                have hci := hK2.out.1 i hi3
                have hcj := hK2.out.1 j hj3
                rw [HAI.out] at hci
                rw [HAJ.out] at hcj
                generalize wr.drewN nq = wq at hK2 hci hcj ⊢
                go_wp2_with fail
                go_quiet (fail)
                have hK3 : Hid (K w B A (wq.drewN nq)) := ⟨hK2.out.1, hK2.out.2.drewN nq⟩
                clear hci hcj hK2
                generalize wq.drewN nq = wz at hK3 ⊢
                go_wp2_with fail
                go_loopw [8] (fun v wr => ∃ k : Nat, v = .int .i64 k ∧ k ≤ 3 ∧ Hid (K w B A wr)) (fun v _ => 3 - (intOf v).toNat)
                case atStart => exact ⟨0, rfl, by omega, hK3⟩
                case round =>
                  clear hK3
                  obtain ⟨k, rfl, hk, hK⟩ := hrel
                  by_cases hk3 : k < 3
                  · have hkz : (k : Int) < 3 := by omega
                    go_wp2_with fail
                    go_quiet (fail)
                    go_wp2
                    go_roundw
                    case rel => exact ⟨k + 1, by go_num, by omega, ⟨hK.out.1, hK.out.2.drewN _⟩⟩
                    case measure => simp [intOf]; omega
                  · have hkz : ¬ (k : Int) < 3 := by omega
                    go_wp2
                    go_roundw
                    case rel => exact ⟨j + 1, by go_num, by omega, hK⟩
                    case measure => simp [intOf]; omega
              · have hK2 : Hid (K w B A (wr.drewN nq)) := ⟨hK.out.1, hK.out.2.drewN nq⟩
                clear hci hcj hK
                have hci := hK2.out.1 i hi3
                have hcj := hK2.out.1 j hj3
                rw [HAI.out] at hci
                rw [HAJ.out] at hcj
                generalize wr.drewN nq = wq at hK2 hci hcj ⊢
                go_wp2_with fail
                go_quiet (fail)
                have hK3 : Hid (K w B A (wq.drewN nq)) := ⟨hK2.out.1, hK2.out.2.drewN nq⟩
                clear hci hcj hK2
                generalize wq.drewN nq = wz at hK3 ⊢
                go_wp2_with fail
                go_loopw [8] (fun v wr => ∃ k : Nat, v = .int .i64 k ∧ k ≤ 3 ∧ Hid (K w B A wr)) (fun v _ => 3 - (intOf v).toNat)
                case atStart => exact ⟨0, rfl, by omega, hK3⟩
                case round =>
                  clear hK3
                  obtain ⟨k, rfl, hk, hK⟩ := hrel
                  by_cases hk3 : k < 3
                  · have hkz : (k : Int) < 3 := by omega
                    go_wp2_with fail
                    go_quiet (fail)
                    go_wp2
                    go_roundw
                    case rel => exact ⟨k + 1, by go_num, by omega, ⟨hK.out.1, hK.out.2.drewN _⟩⟩
                    case measure => simp [intOf]; omega
                  · have hkz : ¬ (k : Int) < 3 := by omega
                    go_wp2
                    go_roundw
                    case rel => exact ⟨j + 1, by go_num, by omega, hK⟩
                    case measure => simp [intOf]; omega
            · have hjz : ¬ (j : Int) < 3 := by omega
              go_wp2
              go_roundw
              case rel => exact ⟨i + 1, by go_num, by omega, hK⟩
              case measure => simp [intOf]; omega
        · have hiz : ¬ (i : Int) < 3 := by omega
          go_wp2
          go_ret
          exact ⟨rfl, hK.out.2⟩

section
variable {H : Type} {enc : TypeId × Value → H}
theorem open_three {w : World} {base : Nat} {spare : Nat → Bool} {held : Bool} {r : Reach} {b0 : Nat} {v : Value} {d : DataW H} {p : List MemPlace}
    (hv : Value.okWide Tryd.prog w r b0 26 v) (h : DataW.Trod enc Tryd.prog w base spare held 26 v d p) :
    ∃ A : Nat → ByteArray, v = .agg #[.string (A 0), .string (A 1), .string (A 2)] ∧ ∀ i, i < 3 → (A i).size ≤ maxLen := by
  have hc : Tryd.prog.cellsOf 26 = 3 := by kernel_rfl
  have hc1 : Tryd.prog.cellsOf 9 = 1 := by kernel_rfl
  simp only [Value.okWide, Tryd.underlying26] at hv
  obtain ⟨cs, rfl, hsz, _⟩ := hv
  obtain ⟨l⟩ := cs
  rw [hc] at hsz
  match l, hsz with
  | [c0, c1, c2], _ =>
    obtain ⟨fuel, hf⟩ := h
    obtain ⟨xs, m, _, _, _, hlen, hel⟩ := DataW.trod_array Tryd.underlying26 hf
    have h0 := hel 0 (by omega)
    have h1 := hel 1 (by omega)
    have h2 := hel 2 (by omega)
    rw [hc1, List.getElem?_eq_getElem (by omega)] at h0 h1 h2
    obtain ⟨a, e0, _, w0⟩ := DataW.trod_string Tryd.underlying9 h0
    obtain ⟨b, e1, _, w1⟩ := DataW.trod_string Tryd.underlying9 h1
    obtain ⟨c, e2, _, w2⟩ := DataW.trod_string Tryd.underlying9 h2
    simp [Value.cells] at e0 e1 e2
    subst e0; subst e1; subst e2
    refine ⟨fun i => if i = 0 then a else if i = 1 then b else c, rfl, fun i hi => ?_⟩
    match i, hi with
    | 0, _ => exact w0
    | 1, _ => exact w1
    | 2, _ => exact w2

theorem walk (v0 : Value) (d0 : DataW H) (p0 : List MemPlace) {w0 : World} {base : Nat} {spare : Nat → Bool} {held : Bool} {r : Reach} {b0 : Nat} (o0 : Value.okWide Tryd.prog w0 r b0 26 v0) (h0 : DataW.Trod enc Tryd.prog w0 base spare held 26 v0 d0 p0) (w : World) (hT : Tabs w) :
    Calls Tryd.prog 4 #[v0] w fun e w' => e = .returned (.bool true) ∧ Below w.heap.size w w' := by
  obtain ⟨A, rfl, hA⟩ := open_three o0 h0
  exact walk0 A hA w hT
end

theorem own : ownKnob Tryd.prog.godebug = none := by kernel_rfl
theorem laidOut : laidOutB Tryd.prog = true := by kernel_rfl
/-- A world for the witness: the two tables holding what their initialisers lay. -/
noncomputable def laidWorld (os : Os) : World :=
  let w0 := World.holding Tryd.prog os ⟨#[], #[], []⟩
  let put (h : Array Obj) (g : Nat) (cs : Array Value) : Array Obj := h.modify g fun
    | .cells _ t frozen => .cells cs t frozen
    | o => o
  let h1 := put w0.heap 0 (Lib.firstTab.map fun z => Value.int .u8 z).toArray
  let h2 := put h1 1 ((List.range 16).flatMap fun i => [Value.int .u8 (Lib.accLo i), Value.int .u8 (Lib.accHi i)]).toArray
  { w0 with heap := h2 }
theorem laid_met (os : Os) : laidMet Tryd.prog Rows.nameOrderRow.laid ((laidWorld os).forCall (fun _ _ => 0) ⟨#[], #[.agg #[.string ⟨#[]⟩, .string ⟨#[]⟩, .string ⟨#[]⟩]], []⟩).memory :=
  laidMet_of_run' 8 (by kernel_rfl) (by kernel_rfl)
theorem reads (os : Os) {H : Type} (enc : TypeId × Value → H) : ∃ places, DataW.whole enc Tryd.prog ((laidWorld os).forCall (fun _ _ => 0) ⟨#[], #[.agg #[.string ⟨#[]⟩, .string ⟨#[]⟩, .string ⟨#[]⟩]], []⟩).memory Tryd.f4.params.toList Rows.nameOrderSpec.vars false (#[.agg #[.string ⟨#[]⟩, .string ⟨#[]⟩, .string ⟨#[]⟩]] : Array Value).toList 8 = some ([.agg [.lit (.string []), .lit (.string []), .lit (.string [])]], [], places) :=
  ⟨[], by kernel_rfl⟩
set_option maxRecDepth 1000000 in
theorem tabs_of {W : World} (h : laidMetH Tryd.prog Rows.nameOrderRow.laid W) : Tabs W :=
  utf8Tabs_of_readsT (U8Types.of196 Tryd.laysValid) ⟨by kernel_rfl, by kernel_rfl, by kernel_rfl, by kernel_rfl, by kernel_rfl, by kernel_rfl, by kernel_rfl⟩ (Lib.laidMet.reads h (.tail _ (.head _))) (Lib.laidMet.reads h (.head _))
set_option maxRecDepth 100000 in
theorem lifted (os : Os) (started : os.Started) (H : Type) (enc : TypeId × Value → H) (F : Stop.Interp) :
    ReturnsInHanded {} Tryd.checked os 4 .any ((OpenSpec.ofChange Rows.nameOrderSpec).preRow enc Tryd.prog Tryd.f4 Rows.nameOrderRow.domain false Rows.nameOrderRow.laid) (((OpenSpec.ofChange Rows.nameOrderSpec).at F).post enc Tryd.prog Tryd.f4 false true false false) := by
  obtain ⟨places, hx⟩ := reads os enc
  refine returnsInHanded_of_row (C := Tryd.checked) (s := OpenSpec.ofChange Rows.nameOrderSpec) own started (by kernel_rfl) Tryd.func4
    (witness_row_at (enc := enc) (C := Tryd.checked) false (laidWorld os) #[.agg #[.string ⟨#[]⟩, .string ⟨#[]⟩, .string ⟨#[]⟩]] rfl (by kernel_rfl) (by kernel_rfl) (by kernel_rfl)
      (OpenSpec.preRow_of_cond 8 hx (by kernel_rfl) (fun k hk => by cases hk) (by kernel_rfl) (laid_met os))) ?_
  intro W base args ds gs before hval0 hW _ _ _ hL _ _
  have hval : ∀ (j : Nat) t v, Tryd.f4.params[j]? = some t → args[j]? = some v → Value.okWide Tryd.prog W .any base t v := hval0
  have hW' := hW
  obtain ⟨p, q, hA0, hV, rfl, hfz, hnd⟩ := hW
  have hA : DataW.TrodAll enc Tryd.prog W 0 (fun _ => true) true Tryd.f4.params.toList args.toList ds p := hA0
  rw [Tryd.params4] at hA hval
  obtain ⟨v0, vs0, d0, ds0, p0, q0, hargs, rfl, rfl, h0, r0⟩ := trodAll_cons hA
  obtain ⟨rfl, rfl, rfl⟩ := trodAll_nil r0
  obtain rfl : args = #[v0] := by cases args; simp_all
  obtain ⟨rfl, rfl⟩ := trodVars_none hV
  have o0 := hval 0 26 v0 rfl rfl
  clear hA0 hval0
  simp only [List.append_nil] at hW'
  refine (walk v0 d0 p0 o0 h0 W (tabs_of hL)).mono fun e W' ⟨he, hg⟩ => ?_
  subst he
  exact ⟨_, rfl, law_post (s := Rows.nameOrderSpec) laidOut (of_decide_eq_true (by kernel_rfl)) Tryd.underlying4 rfl rfl rfl rfl rfl hW' hg⟩

theorem said : Rows.NameOrderSaid :=
  OpenClaim.holds_of_cond 4 Tryd.f4 rfl rfl rfl rfl rfl rfl rfl ⟨rfl, rfl, rfl, rfl, rfl⟩ rfl rfl rfl rfl rfl (by kernel_rfl) Tryd.func4 (by kernel_rfl)
    (of_decide_eq_true (by kernel_rfl)) (by unfold Func.isWrapper; first | (rw [if_pos (by decide +kernel)]; kernel_rfl) | (rw [if_neg (by decide +kernel)]; exact ⟨rfl, rfl⟩))
    (fun os started H enc _ F => by rw [OpenClaim.pre_eq_preRow]; exact lifted os started H enc F)
theorem plain (f : FuncId) (fn : Func) (hf : Tryd.pinned.checked.prog.funcNamed "strongbox/strongboxlaw6.NameOrder" = some f) (hfn : Tryd.pinned.checked.prog.funcs[f]? = some fn) :
    false = Tryd.pinned.checked.prog.looks [] ∧ ∀ (j : Nat) t, fn.params[j]? = some t → Tryd.pinned.checked.prog.wantsStandIn t = false := by
  obtain rfl : f = 4 := Option.some.inj ((show Tryd.prog.funcNamed "strongbox/strongboxlaw6.NameOrder" = some 4 by kernel_rfl).symm.trans hf) |>.symm
  obtain rfl : fn = Tryd.f4 := (Option.some.inj (Tryd.func4.symm.trans hfn)).symm
  refine ⟨by kernel_rfl, fun j t ht => ?_⟩
  rw [Tryd.params4] at ht
  have hm := Array.mem_of_getElem? ht
  simp only [List.mem_toArray, List.mem_cons, List.not_mem_nil, or_false] at hm
  obtain rfl := hm
  · exact (show Tryd.prog.wantsStandIn 26 = false by kernel_rfl)

/-- ████ THE CARD ████ -/
theorem proved : Rows.NameOrderCardSaid :=
  Claim7.holds_tied_plain_at .later [] _ _ _ _ said (fun _ h => by cases h) (by kernel_rfl) (fun _ h => by cases h) nameOrder_row_tie rfl ⟨rfl, rfl⟩ (by kernel_rfl) rfl plain (by kernel_rfl)
#print axioms proved
end Go.Proofs.YtdegjlpcbnmhgaaDoor.nameOrder
