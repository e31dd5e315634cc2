/- PageSorts is true of every input: sorted entries are all of them, each key's together, the greatest id first; in whatever order they came. -/
import Derived.Test.YtgaejaadjmcckaaPPlain
import Derived.Test.YtgaejaadjmcckaaPArg
import Derived.Deep.DeepCutAuto
import Derived.Deep.RegionLaw
namespace Go.Proofs.Ytgaejaadjmcckaa.pageSorts
open Go.ChangeShapes Go.WideShapes Go.ChangeAt Go.RowKit Go.Shelf Go.Lib Nam

section
variable {H : Type} {enc : TypeId × Value → H}

set_option maxHeartbeats 4000000 in
set_option maxRecDepth 100000 in
theorem walk (l : List Ent) (hl : l.length ≤ maxLen) (p : Option Addr) (c : Nat) (W : World) (hr : RowE W (.slice p l.length c) l) (hlc : l.length ≤ c) (hpc : p = none → c = 0) (a : Int) (wa : (Lit.int .u8 a).wf = true) :
    Calls Try.prog 3 #[.slice p l.length c, .int .u8 a] W fun e W' => e = .returned (.bool true) ∧ Below W.heap.size W W' := by
  obtain ⟨a0, a1⟩ := wf_u8 wa
  clear wa
  have HR := Lib.hid hr; clear hr
  have HP := Lib.hid hpc; clear hpc
  go_enter Try.func3, Try.ntmps3
  go_wp2_with fail
  refine (pawake_is _).mono ?_
  rintro e w1 ⟨rfl, hb1⟩
  have HR1 := Lib.hid (HR.out.below hb1)
  have HB1 := Lib.hid hb1; clear hb1
  cases hf : fewB l
  · have HF := Lib.hid (few_is l hl _ w1 HR1.out)
    rw [hf] at HF
    go_wp2_with fail
    refine HF.out.mono ?_
    rintro e w' ⟨rfl, rfl⟩
    go_wp2_with fail
    go_ret
    exact ⟨rfl, HB1.out⟩
  have HF := Lib.hid (few_is l hl _ w1 HR1.out)
  rw [hf] at HF
  have h200 : l.length ≤ 200 := by
    unfold fewB at hf
    simp only [Bool.and_eq_true, decide_eq_true_eq] at hf
    exact hf.1
  have HK : Hid (∀ x ∈ l, x.key.size ≤ 500) := by
    unfold fewB at hf
    simp only [Bool.and_eq_true, decide_eq_true_eq, List.all_eq_true] at hf
    exact hf.2
  have HF1 := Lib.hid (fair_is l (by omega) _ w1 HR1.out)
  clear hf
  go_wp2_with fail
  refine HF.out.mono ?_
  rintro e w' ⟨rfl, rfl⟩
  go_wp2_with fail
  refine HF1.out.mono ?_
  rintro e w2 ⟨b, rfl, hfp, q, rfl⟩
  cases b
  · clear hfp
    go_wp2_with fail
    go_ret
    exact ⟨rfl, HB1.out.drewN _⟩
  have FM := Lib.hid ((hfp rfl).m)
  clear hfp HF HF1
  have HL := Lib.hid hlc; clear hlc
  go_upto_if 21 with (fail)
  go_cut [5] (fun v5 wx => ∃ k : Nat, v5 = .int .i64 k ∧ k ≤ l.length ∧ wx = w1.drewN q)
  case first =>
    by_cases h0 : (0 : Int) < (l.length : Int)
    · obtain ⟨m, hm⟩ : ∃ m : Nat, a % (l.length : Int) = m := ⟨(a % (l.length : Int)).toNat, by have := Int.emod_nonneg a (show (l.length : Int) ≠ 0 by omega); omega⟩
      have hm2 : Int.tmod a (l.length : Int) = m := by rw [Int.tmod_eq_emod_of_nonneg a0]; exact hm
      have hlt : m ≤ l.length := by
        have := Int.emod_lt_of_pos a h0
        omega
      go_wp2_with fail
      go_meet
      case rel => exact ⟨m, rfl, hlt, rfl⟩
    · go_wp2_with fail
      go_meet
      case rel => exact ⟨0, rfl, by omega, rfl⟩
  case rest =>
    obtain ⟨k, rfl, hk, rfl⟩ := hcut
    have HS := Lib.hid (psort_is l (by omega) _ (w1.drewN q) (HR1.out.below ((Below.refl _ _).drewN q)))
    go_wp2_with fail
    refine HS.out.mono ?_
    rintro e w2 ⟨vx, lx, rfl, hrx, hpx, hsx, _, hb2⟩
    obtain ⟨px, cx, rfl, hpx2⟩ := len_of_row hrx
    have HRX := Lib.hid hrx; clear hrx
    have HPX := Lib.hid (And.intro hpx hsx); clear hpx hsx
    have HPX2 := Lib.hid hpx2; clear hpx2
    have HB2 := Lib.hid (show Below W.heap.size W w2 from (HB1.out.drewN q).trans (hb2.mono HB1.out.size))
    have HR2 := Lib.hid (show RowE w2 (.slice p l.length c) l from (HR1.out.below ((Below.refl _ _).drewN q)).below hb2)
    clear HS hb2 HR1 HB1
    go_upto_region 9 with (fail)
    go_cut [7] (fun v7 wx => ∃ ly, RowE wx v7 ly ∧ ly.Perm l ∧ SortedE ly ∧ Below w2.heap.size w2 wx)
    case first =>
      have q1 : (k : Int) ≤ (l.length : Int) := by omega
      have q2 : (k : Int) ≤ (c : Int) := by have := HL.out; omega
      obtain ⟨wb, hwb⟩ : ∃ wb, (w2.alloc (.cells #[] 32)).drew = wb := ⟨_, rfl⟩
      have HBb := Lib.hid (show Below w2.heap.size w2 wb by rw [← hwb]; exact ((Below.refl _ _).alloc (Nat.le_refl _) _).drewN 1)
      have HO := Lib.hid (show wb.ownsRow w2.heap.size 32 6 (.slice (some ⟨w2.heap.size, 0, none⟩) 0 0) ([] : List Ent).length (([] : List Ent).flatMap encE) by
        rw [← hwb]
        exact ⟨rfl, .inr ⟨w2.heap.size, 0, #[], rfl, Nat.le_refl _, heap_alloc_new w2 _, Nat.le_refl _, Nat.zero_le _, rfl, rfl⟩⟩)
      obtain ⟨A, hA⟩ : ∃ A, (if c = k then p else p.map (·.add (k * 6))) = A := ⟨_, rfl⟩
      have hx1 := rowE_from (HR2.out.below HBb.out) hk HL.out
      rw [hA] at hx1
      have HX1 := Lib.hid hx1; clear hx1
      have HX2 := Lib.hid (rowE_to (c' := c) HR2.out hk HP.out)
      have hl1 : (l.drop k).length ≤ 200 := by rw [List.length_drop]; omega
      have hl2 : (l.take k).length ≤ 200 := by rw [List.length_take]; omega
      have HW := Lib.hid hwb; clear hwb
      go_region_law (first
        | (rw [show (w2.alloc (.cells #[] 32)).drew = wb from HW.out]; refine step_append_rowE (by rfl) (.tmp 29) (.tmp 32) (by rfl) (by rfl) HO.out (by rfl) HX1.out (by simp; omega) HBb.out.size ?_; intro v1 wa hown1 hgr1 _; have HO1 := Lib.hid hown1; clear hown1; have HG1 := Lib.hid (show Below w2.heap.size w2 wa from HBb.out.grown hgr1 HBb.out.size (fun k hk => by cases hk; exact Nat.le_refl _)); clear hgr1)
        | (refine step_append_rowE (by rfl) (.tmp 33) (.tmp 36) (by rfl) (by rfl) HO1.out (by rfl) (HX2.out.below HG1.out) (by simp; omega) HG1.out.size ?_; intro v2 wa2 hown2 hgr2 _; have HO2 := Lib.hid hown2; clear hown2)
        | (go_simp; go_at_call 11; refine (psort_is _ (by simp; omega) v2 wa2 (rowE_own HO2.out).1).mono ?_; rintro e w4 ⟨vy, ly, rfl, hry, hpy, hsy, _, hb4⟩; have HY := Lib.hid (And.intro hry (And.intro hpy (And.intro hsy hb4))); clear hry hpy hsy hb4)
        | fail)
      all_goals
        go_wp2
        go_meet
        case rel =>
          obtain ⟨hry, hpy, hsy, hb4⟩ := HY.out
          have hb3 : Below w2.heap.size w2 wa2 := HG1.out.grown hgr2 HG1.out.size (own_ge HO1.out)
          refine ⟨ly, hry, hpy.trans ?_, hsy, hb3.trans (hb4.mono hb3.size)⟩
          rw [List.nil_append]
          exact List.perm_append_comm.trans (by rw [List.take_append_drop])
    case rest =>
      obtain ⟨ly, hry, hpy, hsy, hb4⟩ := hcut
      obtain ⟨hpx, hsx⟩ := HPX.out
      have hxy : lx = ly := sortE_unique FM.out (List.Perm.refl l) hpx hsx hpy hsy
      have hlen : lx.length = l.length := hpx.length_eq
      have hne : ((lx.length : Int) != (l.length : Int)) = false := by rw [hlen]; simp
      subst hxy
      have hsm := same_is lx lx (by omega) (by omega) _ _ wc (HRX.out.below hb4) hry
      rw [decide_eq_true rfl] at hsm
      have HSM := Lib.hid hsm; clear hsm
      have FX := Lib.hid (FM.out.perm hpx)
      have HB4 := Lib.hid (show Below W.heap.size W wc from HB2.out.trans (hb4.mono HB2.out.size))
      have HRX4 := Lib.hid (HRX.out.below hb4)
      have HSX := Lib.hid hsx
      have HKX : Hid (∀ x ∈ lx, x.key.size ≤ 500) := fun x hx => HK.out x (hpx.subset hx)
      have hlen2 : lx.length ≤ 200 := by omega
      have HLN := Lib.hid hlen
      clear hpx hsx hpy hsy hb4 hlen hry HRX HPX HPX2 HB2 HR2
      go_wp2_with fail
      refine HSM.out.mono ?_
      rintro e w5 ⟨rfl, q5, rfl⟩
      clear HSM
      go_wp2_with fail
      go_loopw [8] (fun v wr => ∃ i q : Nat, v = .int .i64 i ∧ 1 ≤ i ∧ wr = wc.drewN q) (fun v _ => 201 - (intOf v).toNat)
      case atStart => exact ⟨1, q5, rfl, Nat.le_refl _, rfl⟩
      case round =>
        obtain ⟨i, q, rfl, hi1, rfl⟩ := hrel
        by_cases hlt : i < lx.length
        · obtain ⟨k0, hk0⟩ : ∃ k0, i = k0 + 1 := ⟨i - 1, by omega⟩
          have hk1 : k0 + 1 < lx.length := by omega
          have nx := nextE FX.out HSX.out k0 hk1
          rcases HRX4.out with ⟨_, h0⟩ | ⟨b, o, cap, hv, hbl, hc⟩
          · rw [h0] at hlt; simp at hlt
          obtain ⟨a0, a1, -, -, -, a5⟩ := at_of hc i hlt
          obtain ⟨b0, b1, -, -, -, -⟩ := at_of hc k0 (by omega)
          have hx : lx[i] = lx[k0 + 1] := by congr 1
          rw [hx] at a0 a1 a5
          obtain ⟨x, hx2⟩ : ∃ x, lx[k0 + 1] = x := ⟨_, rfl⟩
          obtain ⟨y, hy2⟩ : ∃ y, lx[k0] = y := ⟨_, rfl⟩
          have kx : x.key.size ≤ 500 := by rw [← hx2]; exact HKX.out _ (List.getElem_mem _)
          have ky : y.key.size ≤ 500 := by rw [← hy2]; exact HKX.out _ (List.getElem_mem _)
          rw [hx2] at a0 a1 a5 nx
          rw [hy2] at b0 b1 nx
          obtain ⟨n1, n2⟩ := nx
          have cl : ∀ w : World, Calls Try.prog 13 #[.string x.key, .string y.key] w fun e w' => e = .returned (.bool false) ∧ ∃ n, w' = w.drewN n := fun w => by
            rw [← n1]; exact rless_is x.key y.key w (by unfold maxLen; omega) (by unfold maxLen; omega)
          have CL := Lib.hid cl
          have hpp : px = some ⟨b, o, none⟩ := by cases hv; rfl
          have HI := Lib.hid hk0
          have e1 : IntKind.i64.wrap ((i : Int) - 1) = (k0 : Int) := by rw [hk0]; exact (IntWalk.i64_in _ (by omega)).trans (by omega)
          have e2 : (0 : Int) ≤ (k0 : Int) := by omega
          have e3 : (k0 : Int) < (lx.length : Int) := by omega
          have e4 : (i : Int) < (lx.length : Int) := by omega
          clear hv hc hx hx2 hy2 n1 cl hk0 hk1
          subst hpp
          by_cases hkk : x.key = y.key
          · obtain ⟨m1, m2⟩ := n2 hkk
            have ht : (x.key.toList == y.key.toList) = true := by rw [hkk]; simp
            have hd : decide (y.id ≤ x.id) = false := by simp; omega
            clear n2
            have HKK := Lib.hid hkk; clear hkk
            go_wp2_with fail
            go_quiet ((go_at_call 13; first | exact quiet_add CL.out | exact quiet_any CL.out))
            go_wp2_with fail
            refine ⟨⟨i + 1, q + nq, by go_num, by omega, rfl⟩, by simp [intOf]; omega⟩
          · have ht : (x.key.toList == y.key.toList) = false := by
              rw [beq_eq_false_iff_ne]; exact fun h => hkk (list_inj_data h)
            clear n2
            have HKK := Lib.hid hkk; clear hkk
            go_wp2_with fail
            go_quiet ((go_at_call 13; first | exact quiet_add CL.out | exact quiet_any CL.out))
            go_wp2_with fail
            refine ⟨⟨i + 1, q + nq, by go_num, by omega, rfl⟩, by simp [intOf]; omega⟩
        · have hge : ((lx.length : Int) ≤ (i : Int)) := by omega
          go_wp2
          go_ret
          exact ⟨rfl, HB4.out.drewN _⟩

theorem walkv (v : Value) (d : DataW H) (ps : List MemPlace) {W : World} {base : Nat} (o : Value.okWide Try.prog W .any base 22 v) (h : DataW.Trod enc Try.prog W 0 (fun _ => true) true 22 v d ps) (a : Int) (wa : (Lit.int .u8 a).wf = true) :
    Calls Try.prog 3 #[v, .int .u8 a] W fun e W' => e = .returned (.bool true) ∧ Below W.heap.size W W' := by
  obtain ⟨l, hr, hl, p, c, rfl, hlc, hpc⟩ := open_row o h
  exact walk l hl p c W hr hlc hpc a wa
end
theorem own : ownKnob Try.prog.godebug = none := by kernel_rfl
theorem laidOut : laidOutB Try.prog = true := by kernel_rfl
set_option maxRecDepth 100000 in
theorem lifted (os : Os) (started : os.Started) (H : Type) (enc : TypeId × Value → H) :
    ReturnsInHanded {} Try.checked os 3 .any (Rows.pageSortsSpec.pre6 enc Try.prog Try.f3 Rows.pageSortsRow.domain false) (Rows.pageSortsSpec.post enc Try.prog Try.f3 false true false false) := by
  refine returnsInHanded_of_change (C := Try.checked) own started (by kernel_rfl) Try.func3
    (ChangeSpec.witness6 (enc := enc) (C := Try.checked) false ⟨#[], #[.slice none 0 0, .int .u8 0], []⟩ 8 (by kernel_rfl) (by kernel_rfl) (by kernel_rfl) (by kernel_rfl)) ?_
  intro W base args ds gs before hval0 hW hcnd _
  have hval : ∀ (j : Nat) t v, Try.f3.params[j]? = some t → args[j]? = some v → Value.okWide Try.prog W .any base t v := hval0
  have hW' := hW
  obtain ⟨p, q, hA0, hV, rfl, hfz, hnd⟩ := hW
  have hA : DataW.TrodAll enc Try.prog W 0 (fun _ => true) true Try.f3.params.toList args.toList ds p := hA0
  rw [Try.params3] at hA hval
  obtain ⟨v0, vs0, d0, ds0, p0, q0, hargs, rfl, rfl, h0, r0⟩ := trodAll_cons hA
  obtain ⟨v1, vs1, d1, ds1, p1, q1, rfl, rfl, rfl, h1, r1⟩ := trodAll_cons r0
  obtain ⟨rfl, rfl, rfl⟩ := trodAll_nil r1
  obtain rfl : args = #[v0, v1] := by cases args; simp_all
  obtain ⟨rfl, rfl⟩ := trodVars_none hV
  have o0 := hval 0 22 v0 rfl rfl
  obtain ⟨a1, rfl, rfl, rfl, w1⟩ := open_int Try.underlying5 (hval 1 5 v1 rfl rfl) h1
  clear hA0 hval0
  simp only [List.append_nil] at hW'
  refine (walkv v0 d0 p0 o0 h0 a1 w1).mono fun e W' ⟨he, hg⟩ => ?_
  subst he
  exact ⟨_, rfl, law_post laidOut (of_decide_eq_true (by kernel_rfl)) Try.underlying4 rfl rfl rfl rfl rfl hW' hg⟩

theorem over : Rows.pageSortsRow.holds Try.pinned (OpenSpec.ofChange Rows.pageSortsSpec) :=
  OpenClaim.holds_of_wide 3 Try.f3 rfl rfl rfl rfl rfl rfl rfl ⟨rfl, rfl, rfl, rfl, rfl⟩ rfl rfl rfl rfl rfl (by kernel_rfl) Try.func3 (by kernel_rfl)
    (of_decide_eq_true (by kernel_rfl)) (by unfold Func.isWrapper; first | (rw [if_pos (by decide +kernel)]; kernel_rfl) | (rw [if_neg (by decide +kernel)]; exact ⟨rfl, rfl⟩))
    (fun os started H enc _ => lifted os started H enc)

/-- ████ THE STATEMENT ████ -/
theorem proved : Rows.PageSortsSaid :=
  over
#print axioms proved
end Go.Proofs.Ytgaejaadjmcckaa.pageSorts
