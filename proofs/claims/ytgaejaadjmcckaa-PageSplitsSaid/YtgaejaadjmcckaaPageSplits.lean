/- PageSplits is true of every input: a prefix takes just the keys that begin with it; without one a page takes all. -/
import Derived.Test.YtgaejaadjmcckaaPVers
import Derived.Test.YtgaejaadjmcckaaPArg
import Derived.Deep.DeepCutAuto
import Derived.Deep.RegionLaw
namespace Go.Proofs.Ytgaejaadjmcckaa.pageSplits
open Go.ChangeShapes Go.WideShapes Go.ChangeAt Go.RowKit Go.Shelf Go.Lib Nam

section
variable {H : Type} {enc : TypeId × Value → H}

set_option maxHeartbeats 1000000 in
set_option maxRecDepth 100000 in
theorem walk (l : List Ent) (hl : l.length ≤ maxLen) (v : Value) (W : World) (hr : RowE W v l) (s : ByteArray) (hs : s.size ≤ maxLen) :
    Calls Try.prog 7 #[v, .string s] W fun e W' => e = .returned (.bool true) ∧ Below W.heap.size W W' := by
  obtain ⟨p, c, rfl, -⟩ := len_of_row hr
  have HR := Lib.hid hr; clear hr
  go_enter Try.func7, Try.ntmps7
  go_wp2_with fail
  refine (pawake_is _).mono ?_
  rintro e w1 ⟨rfl, hb1⟩
  have HR1 := Lib.hid (HR.out.below hb1)
  have HB1 := Lib.hid hb1; clear hb1
  cases hf : fewB l
  · have HF := Lib.hid (few_is l hl _ w1 HR1.out)
    rw [hf] at HF
    go_wp2_with fail
    refine HF.out.mono ?_
    rintro e w' ⟨rfl, rfl⟩
    go_wp2_with fail
    go_ret
    exact ⟨rfl, HB1.out⟩
  have HF := Lib.hid (few_is l hl _ w1 HR1.out)
  rw [hf] at HF
  have h200 : l.length ≤ 200 := by
    unfold fewB at hf
    simp only [Bool.and_eq_true, decide_eq_true_eq] at hf
    exact hf.1
  have HK : Hid (∀ x ∈ l, x.key.size ≤ 500) := by
    unfold fewB at hf
    simp only [Bool.and_eq_true, decide_eq_true_eq, List.all_eq_true] at hf
    exact hf.2
  have HF1 := Lib.hid (fair_is l (by omega) _ w1 HR1.out)
  clear hf
  go_wp2_with fail
  refine HF.out.mono ?_
  rintro e w' ⟨rfl, rfl⟩
  go_wp2_with fail
  refine HF1.out.mono ?_
  rintro e w2 ⟨b, rfl, hfp, q, rfl⟩
  cases b
  · clear hfp
    go_wp2_with fail
    go_ret
    exact ⟨rfl, HB1.out.drewN _⟩
  have FM := Lib.hid ((hfp rfl).m)
  clear hfp HF HF1
  obtain ⟨w2, hw2⟩ : ∃ w2, w1.drewN q = w2 := ⟨_, rfl⟩
  rw [hw2]
  have HR2 := Lib.hid (show RowE w2 (.slice p l.length c) l by rw [← hw2]; exact HR1.out.below ((Below.refl _ _).drewN q))
  have HB2 := Lib.hid (show Below W.heap.size W w2 by rw [← hw2]; exact HB1.out.drewN q)
  clear hw2 HR1 HB1
  unfold maxLen at hs
  by_cases h100 : 100 < s.size
  · have hz : (100 : Int) < (s.size : Int) := by omega
    go_wp2_with fail
    go_ret
    exact ⟨rfl, HB2.out⟩
  have hz : (s.size : Int) ≤ 100 := by omega
  obtain ⟨S, hSp, hSs⟩ := sorted_ex l
  have hSl : S.length = l.length := hSp.length_eq
  have HK2 : ∀ x ∈ l, x.key.size ≤ maxLen := fun x hx => by have := HK.out x hx; unfold maxLen; omega
  have hq : s.size ≤ maxLen := by unfold maxLen; omega
  obtain ⟨F, hF⟩ : ∃ F, (S.filter fun x => prefixB x.key.data.toList s.data.toList) = F := ⟨_, rfl⟩
  have v1 := fun v w hv => vers_all FM.out hSp hSs s (by omega) HK2 hq v w hv
  have v2 := fun v w hv => vers_all FM.out hSp hSs ⟨#[]⟩ (by omega) HK2 (by unfold maxLen; decide) v w hv
  rw [hF] at v1
  rw [show (S.filter fun x => prefixB x.key.data.toList (⟨#[]⟩ : ByteArray).data.toList) = S from List.filter_eq_self.2 fun x _ => prefixB_nil _] at v2
  have V1 := Lib.hid v1; clear v1
  have V2 := Lib.hid v2; clear v2
  have HKS : Hid (∀ x ∈ S, x.key.size ≤ 500) := fun x hx => HK.out x (hSp.subset hx)
  have HF := Lib.hid hF; clear hF
  have hS200 : S.length ≤ 200 := by omega
  have HSL := Lib.hid hSl; clear hSl
  clear hSp hSs HK2
  go_wp2_with fail
  refine (V1.out _ _ HR2.out).mono ?_
  rintro e w3 ⟨sv1, hrow1, hb3, rfl⟩
  obtain ⟨p1, c1, rfl, -⟩ := len_of_row hrow1
  have HR3 := Lib.hid (show RowE w3 (.slice p l.length c) l from HR2.out.below hb3)
  have HB3 := Lib.hid (show Below W.heap.size W w3 from HB2.out.trans (hb3.mono HB2.out.size))
  have HROW1 := Lib.hid hrow1
  clear hrow1 hb3 V1 HR2 HB2
  go_wp2_with fail
  generalize hw4 : w3.alloc _ = w4
  have h45 : w4.heap[w3.heap.size]? = some (.cells #[.slice p1 F.length c1, .bool false, .string ⟨#[]⟩, .int .i64 0] 37 (0, 0)) := by rw [← hw4]; exact heap_alloc_new w3 _
  have hb4 : Below w3.heap.size w3 w4 := by rw [← hw4]; exact (Below.refl _ _).alloc (Nat.le_refl _) _
  have s4 : w4.heap.size = w3.heap.size + 1 := by rw [← hw4]; simp
  clear hw4
  refine (V2.out _ _ (HR3.out.below hb4)).mono ?_
  rintro e w5 ⟨sv2, hrow2, hb5, rfl⟩
  obtain ⟨p2, c2, rfl, -⟩ := len_of_row hrow2
  have h55 : w5.heap[w3.heap.size]? = _ := (hb5.block _ (by omega)).trans h45
  have hlt5 : w3.heap.size < w5.heap.size := by have := hb5.size; omega
  have HROW15 := Lib.hid ((HROW1.out.below hb4).below hb5)
  have HROW2 := Lib.hid hrow2
  have HB5 := Lib.hid (show Below W.heap.size W w5 from (HB3.out.trans (hb4.mono HB3.out.size)).trans (hb5.mono (by have := HB3.out.size; omega)))
  clear hrow2 hb5 hb4 V2 HR3 HB3 HROW1 h45 s4
  go_wp2_with fail
  generalize hw6 : w5.alloc _ = w6
  have h67 : w6.heap[w5.heap.size]? = some (.cells #[.slice p2 S.length c2, .bool false, .string ⟨#[]⟩, .int .i64 0] 37 (0, 0)) := by rw [← hw6]; exact heap_alloc_new w5 _
  have h65 : w6.heap[w3.heap.size]? = some (.cells #[.slice p1 F.length c1, .bool false, .string ⟨#[]⟩, .int .i64 0] 37 (0, 0)) := by rw [← hw6]; exact (heap_alloc_old _ _ hlt5).trans h55
  have hb6 : Below w5.heap.size w5 w6 := by rw [← hw6]; exact (Below.refl _ _).alloc (Nat.le_refl _) _
  have s6 : w6.heap.size = w5.heap.size + 1 := by rw [← hw6]; simp
  have HR61 := Lib.hid (HROW15.out.below hb6)
  have HR62 := Lib.hid (HROW2.out.below hb6)
  have HB6 := Lib.hid (show Below W.heap.size W w6 from HB5.out.trans (hb6.mono HB5.out.size))
  clear hw6 hb6 HROW15 HROW2 HB5 h55
  have hbx : ∀ V : World, Below w6.heap.size w6 V → (V.cell? ⟨w5.heap.size, 0, none⟩ = some (.slice p2 S.length c2) ∧ V.cell? ⟨w5.heap.size, 1, none⟩ = some (.bool false)) ∧ V.cell? ⟨w3.heap.size, 0, none⟩ = some (.slice p1 F.length c1) ∧ V.cell? ⟨w3.heap.size, 1, none⟩ = some (.bool false) := fun V hb => by
    have h7 := (cells_of_heap ((hb.block _ (by omega)).trans h67)).1
    have h5 := (cells_of_heap ((hb.block _ (by omega)).trans h65)).1
    exact ⟨⟨h7 0 _ rfl, h7 1 _ rfl⟩, h5 0 _ rfl, h5 1 _ rfl⟩
  have HBX := Lib.hid hbx; clear hbx h67 h65 s6 hlt5
  go_wp2_with fail
  go_loopw [9, 10] (fun vo vi wr => ∃ (i : Nat) (f : List Ent) (sv : Value), sv = vo ∧ vi = .int .i64 i ∧ i ≤ S.length ∧ Hid (wr.ownsRow w6.heap.size 32 6 sv f.length (f.flatMap encE)) ∧ Hid (f = (S.take i).filter fun x => prefixB x.key.data.toList s.data.toList) ∧ Hid (Below w6.heap.size w6 wr)) (fun _ v _ => S.length - (intOf v).toNat)
  case atStart => exact ⟨0, [], _, rfl, rfl, Nat.zero_le _, ⟨rfl, .inl ⟨rfl, rfl⟩⟩, rfl, Below.refl _ _⟩
  case round =>
    rename_i wr
    obtain ⟨i, f, vo, hvo, rfl, hi, HO, HFE, HB⟩ := hrel
    subst hvo
    obtain ⟨⟨x0, x1⟩, x2, x3⟩ := HBX.out wr HB.out
    by_cases hpi : i < S.length
    · have hpz : (i : Int) < (S.length : Int) := by omega
      rcases (HR62.out.below HB.out) with ⟨_, h0⟩ | ⟨b, o, cap, hv, hbl, hc⟩
      · rw [h0] at hpi; simp at hpi
      obtain ⟨a0, a1, a2, a3, a4, a5⟩ := at_of hc i hpi
      have hpp : p2 = some ⟨b, o, none⟩ := by cases hv; rfl
      have htk : S.take (i + 1) = S.take i ++ [S[i]] := List.take_succ_eq_append_getElem hpi
      have hkx : (S[i]).key.size ≤ 500 := HKS.out _ (List.getElem_mem _)
      obtain ⟨x, hx⟩ : ∃ x, S[i] = x := ⟨_, rfl⟩
      rw [hx] at a0 a1 a2 a3 a4 a5 htk hkx
      have HTK := Lib.hid htk; clear htk hx hc hv
      subst hpp
      obtain ⟨pb, hpb⟩ : ∃ b, prefixB x.key.data.toList s.data.toList = b := ⟨_, rfl⟩
      have cpre : ∀ W : World, Calls Try.prog 22 #[.string x.key, .string s] W fun e w' => e = .returned (.bool pb) ∧ W = w' := fun W => by rw [← hpb]; exact rprefix_is _ _ W (by unfold maxLen; omega) hq
      have CPRE := Lib.hid cpre; clear cpre
      have hsel : Hid ((S.take (i + 1)).filter (fun x => prefixB x.key.data.toList s.data.toList) = f ++ (if pb = true then [x] else [])) := by
        show _ = _
        rw [HTK.out, HFE.out, List.filter_append]
        congr 1
        rw [List.filter_cons, hpb]
        rfl
      clear hpb
      cases pb
      · go_wp2_with (go_at_call 22; refine (CPRE.out _).mono ?_; rintro e w' ⟨rfl, rfl⟩)
        go_roundw
        case rel => exact ⟨i + 1, f, vo, rfl, by go_num, by omega, HO, by show _ = _; rw [hsel.out]; simp, HB⟩
        case measure => simp [intOf]; omega
      · have hfl : f.length ≤ 200 := by
          have h1 := HFE.out
          have h2 := HSL.out
          rw [h1]
          exact Nat.le_trans (List.length_filter_le _ _) (by rw [List.length_take]; omega)
        go_wp2_with (first
          | (go_at_call 22; refine (CPRE.out _).mono ?_; rintro e w' ⟨rfl, rfl⟩)
          | (at_builtin; refine wpList_append_rowE rfl (.tmp 60) (.tmp 66) rfl rfl (HO.out.alloc _) rfl (rowE_one wr x) (by simp; omega) (by have := HB.out.size; simp; omega) ?_; intro v2 wa hown2 hgr2 _; have HO2 := Lib.hid hown2; clear hown2; have HB2 := Lib.hid (show Below w6.heap.size w6 wa from (HB.out.alloc HB.out.size _).grown hgr2 (by have := HB.out.size; simp; omega) (own_ge HO.out)); clear hgr2))
        go_roundw
        case rel => exact ⟨i + 1, f ++ [x], v2, rfl, by go_num, by omega, HO2, by show _ = _; rw [hsel.out]; simp, HB2⟩
        case measure => simp [intOf]; omega
    · have hpz : (S.length : Int) ≤ (i : Int) := by omega
      have hil : i = S.length := by omega
      have hff : F = f := by rw [HFE.out, hil, List.take_length, HF.out]
      have hown := rowE_own HO.out
      have hsl : ((S.length : Int) == (l.length : Int)) = true := by rw [HSL.out]; simp
      have hF200 : F.length ≤ 200 := by
        rw [← HF.out]
        exact Nat.le_trans (List.length_filter_le _ _) (by rw [HSL.out]; omega)
      have hsm := same_is F f (by omega) (by rw [← hff]; omega) _ vo wr (HR61.out.below HB.out) hown.1
      rw [decide_eq_true hff] at hsm
      have HSM := Lib.hid hsm; clear hsm
      have HFF := Lib.hid hff
      clear hil hff hown
      go_wp2_with fail
      refine HSM.out.mono ?_
      rintro e w8 ⟨rfl, q8, rfl⟩
      go_wp2
      go_ret
      exact ⟨rfl, (HB6.out.trans (HB.out.mono HB6.out.size)).drewN _⟩

theorem walkv (v : Value) (d : DataW H) (ps : List MemPlace) {W : World} {base : Nat} (o : Value.okWide Try.prog W .any base 22 v) (h : DataW.Trod enc Try.prog W 0 (fun _ => true) true 22 v d ps) (s : ByteArray) (hs : s.size ≤ maxLen) :
    Calls Try.prog 7 #[v, .string s] W fun e W' => e = .returned (.bool true) ∧ Below W.heap.size W W' := by
  obtain ⟨l, hr, hl, -⟩ := open_row o h
  exact walk l hl v W hr s hs
end
theorem own : ownKnob Try.prog.godebug = none := by kernel_rfl
theorem laidOut : laidOutB Try.prog = true := by kernel_rfl
set_option maxRecDepth 100000 in
theorem lifted (os : Os) (started : os.Started) (H : Type) (enc : TypeId × Value → H) :
    ReturnsInHanded {} Try.checked os 7 .any (Rows.pageSplitsSpec.pre6 enc Try.prog Try.f7 Rows.pageSplitsRow.domain false) (Rows.pageSplitsSpec.post enc Try.prog Try.f7 false true false false) := by
  refine returnsInHanded_of_change (C := Try.checked) own started (by kernel_rfl) Try.func7
    (ChangeSpec.witness6 (enc := enc) (C := Try.checked) false ⟨#[], #[.slice none 0 0, .string ⟨#[]⟩], []⟩ 8 (by kernel_rfl) (by kernel_rfl) (by kernel_rfl) (by kernel_rfl)) ?_
  intro W base args ds gs before hval0 hW hcnd _
  have hval : ∀ (j : Nat) t v, Try.f7.params[j]? = some t → args[j]? = some v → Value.okWide Try.prog W .any base t v := hval0
  have hW' := hW
  obtain ⟨p, q, hA0, hV, rfl, hfz, hnd⟩ := hW
  have hA : DataW.TrodAll enc Try.prog W 0 (fun _ => true) true Try.f7.params.toList args.toList ds p := hA0
  rw [Try.params7] at hA hval
  obtain ⟨v0, vs0, d0, ds0, p0, q0, hargs, rfl, rfl, h0, r0⟩ := trodAll_cons hA
  obtain ⟨v1, vs1, d1, ds1, p1, q1, rfl, rfl, rfl, h1, r1⟩ := trodAll_cons r0
  obtain ⟨rfl, rfl, rfl⟩ := trodAll_nil r1
  obtain rfl : args = #[v0, v1] := by cases args; simp_all
  obtain ⟨rfl, rfl⟩ := trodVars_none hV
  have o0 := hval 0 22 v0 rfl rfl
  obtain ⟨a1, rfl, rfl, rfl, w1⟩ := ChangeMaps.open_string Try.underlying9 (hval 1 9 v1 rfl rfl) h1
  clear hA0 hval0
  simp only [List.append_nil] at hW'
  refine (walkv v0 d0 p0 o0 h0 a1 w1).mono fun e W' ⟨he, hg⟩ => ?_
  subst he
  exact ⟨_, rfl, law_post laidOut (of_decide_eq_true (by kernel_rfl)) Try.underlying4 rfl rfl rfl rfl rfl hW' hg⟩

theorem over : Rows.pageSplitsRow.holds Try.pinned (OpenSpec.ofChange Rows.pageSplitsSpec) :=
  OpenClaim.holds_of_wide 7 Try.f7 rfl rfl rfl rfl rfl rfl rfl ⟨rfl, rfl, rfl, rfl, rfl⟩ rfl rfl rfl rfl rfl (by kernel_rfl) Try.func7 (by kernel_rfl)
    (of_decide_eq_true (by kernel_rfl)) (by unfold Func.isWrapper; first | (rw [if_pos (by decide +kernel)]; kernel_rfl) | (rw [if_neg (by decide +kernel)]; exact ⟨rfl, rfl⟩))
    (fun os started H enc _ => lifted os started H enc)

/-- ████ THE STATEMENT ████ -/
theorem proved : Rows.PageSplitsSaid :=
  over
#print axioms proved
end Go.Proofs.Ytgaejaadjmcckaa.pageSplits
