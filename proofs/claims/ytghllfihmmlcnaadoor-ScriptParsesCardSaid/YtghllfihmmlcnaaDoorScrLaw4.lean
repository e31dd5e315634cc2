/- ScriptParses: any text: an array and choices, or the first line that is none; what was read is printed as it stood. -/
import Derived.Test.YtghllfihmmlcnaaDoorScrMF
import Derived.Test.YtghllfihmmlcnaaDoorScrPI
import Derived.Test.YtghllfihmmlcnaaDoorScrQC
import Derived.Test.YtghllfihmmlcnaaDoorCards
import Derived.Test.YtghllfihmmlcnaaDoorTie
import Derived.Deep.DeepHandedRow
import Derived.Lib.LaidIn
namespace Go.Proofs.YtghllfihmmlcnaaDoor.scriptParses
open Go.ChangeShapes Go.WideShapes Go.ChangeAt Go.RowKit Nam YtghllfihmmlcnaaDoorW.PrintWords

attribute [local go_sem high] eqA26

/-! ### plainly: what was read are ints -/
theorem mapN_range : ∀ (ws : List (List UInt8)) (ns : List Int), mapN ws = some ns → ns.length = ws.length ∧ ∀ n ∈ ns, -9223372036854775808 ≤ n ∧ n ≤ 9223372036854775807
  | [], ns, h => by
    have : ([] : List Int) = ns := by simpa [mapN] using h
    subst this
    exact ⟨rfl, fun n hn => by cases hn⟩
  | a :: r, ns, h => by
    rw [mapN] at h
    cases ha : numOf a with
    | none => rw [ha] at h; cases h
    | some v =>
      rw [ha] at h
      cases hr : mapN r with
      | none => rw [hr] at h; cases h
      | some ms =>
        rw [hr] at h
        have : v :: ms = ns := by simpa using h
        subst this
        obtain ⟨h1, h2⟩ := mapN_range r ms hr
        have hv := numOf_some ha
        exact ⟨by simp [h1], fun n hn => by
          rcases List.mem_cons.1 hn with rfl | hn
          · exact ⟨hv.2.2.1, hv.2.2.2⟩
          · exact h2 n hn⟩
def Four (h : List Int) : Prop := h.length = 4 ∧ ∀ n ∈ h, -9223372036854775808 ≤ n ∧ n ≤ 9223372036854775807
theorem shape_four {a : List UInt8} {z : List Int} (h : shapeC a = some z) : Four z := by
  unfold shapeC at h
  split at h
  · rename_i hc
    obtain ⟨h1, h2⟩ := mapN_range _ _ h
    exact ⟨by rw [h1, List.length_tail, hc.1], h2⟩
  · cases h
theorem readL_four : ∀ (L : List (List UInt8)) (i : Nat) (h h' : List Int) (acc l : List Ch), Four h → readL i h acc L = .inr (h', l) → Four h'
  | [], i, h, h', acc, l, hf, hr => by
    simp only [readL, Sum.inr.injEq, Prod.mk.injEq] at hr
    rw [← hr.1]; exact hf
  | a :: r, i, h, h', acc, l, hf, hr => by
    rw [readL] at hr
    split at hr
    · cases hs : shapeC a with
      | none => rw [hs] at hr; cases hr
      | some z => rw [hs] at hr; exact readL_four r _ _ _ _ _ (shape_four hs) hr
    · cases hs : choiceC a with
      | none => rw [hs] at hr; cases hr
      | some z => rw [hs] at hr; exact readL_four r _ _ _ _ _ hf hr
theorem zeros_four : Four [0, 0, 0, 0] := ⟨rfl, fun n hn => by simp at hn; subst hn; decide⟩
theorem four_ite {c : Prop} [Decidable c] {a b : PR} (ha : Four a.h) (hb : Four b.h) : Four (if c then a else b).h := by
  split
  · exact ha
  · exact hb
theorem parseL_four (L : List (List UInt8)) (la : List UInt8) : Four (parseL L la).h := by
  unfold parseL
  cases hr : readL 0 [0, 0, 0, 0] [] L with
  | inl i => exact zeros_four
  | inr p =>
    obtain ⟨h, l⟩ := p
    exact four_ite zeros_four (readL_four _ _ _ _ _ _ zeros_four hr)
theorem parse_four (s : List UInt8) : Four (parseC s).h := four_ite zeros_four (parseL_four _ _)
theorem readL_len : ∀ (L : List (List UInt8)) (i : Nat) (h h' : List Int) (acc l : List Ch), readL i h acc L = .inr (h', l) → l.length ≤ acc.length + L.length
  | [], i, h, h', acc, l, hr => by
    simp only [readL, Sum.inr.injEq, Prod.mk.injEq] at hr
    rw [← hr.2]; simp
  | a :: r, i, h, h', acc, l, hr => by
    rw [readL] at hr
    split at hr
    · cases hs : shapeC a with
      | none => rw [hs] at hr; cases hr
      | some z => rw [hs] at hr; have := readL_len r _ _ _ _ _ hr; simp; omega
    · cases hs : choiceC a with
      | none => rw [hs] at hr; cases hr
      | some z => rw [hs] at hr; have := readL_len r _ _ _ _ _ hr; simp at this ⊢; omega
def Few (m : Nat) (r : PR) : Prop := r.l.length ≤ m
theorem few_ite {c : Prop} [Decidable c] {a b : PR} {m : Nat} (ha : Few m a) (hb : Few m b) : Few m (if c then a else b) := by
  split
  · exact ha
  · exact hb
theorem parseL_few (L : List (List UInt8)) (la : List UInt8) : Few L.length (parseL L la) := by
  unfold parseL
  cases hr : readL 0 [0, 0, 0, 0] [] L with
  | inl i => exact Nat.zero_le _
  | inr p =>
    obtain ⟨h, l⟩ := p
    refine few_ite (Nat.zero_le _) ?_
    have := readL_len _ _ _ _ _ _ hr
    simpa [Few] using this
theorem parse_few (s : List UInt8) : Few s.length (parseC s) := by
  refine few_ite (Nat.zero_le _) ?_
  have h := parseL_few (splitB 10 s).dropLast ((splitB 10 s).getLastD [])
  have h2 := splitB_length 10 s
  unfold Few at h ⊢
  rw [List.length_dropLast] at h
  omega
theorem four_open {h : List Int} (hf : Four h) : ∃ k m b o, h = [k, m, b, o] ∧ ∀ n ∈ [k, m, b, o], -9223372036854775808 ≤ n ∧ n ≤ 9223372036854775807 := by
  obtain ⟨h1, h2⟩ := hf
  match h, h1 with
  | [k, m, b, o], _ => exact ⟨k, m, b, o, rfl, h2⟩

set_option maxHeartbeats 1000000 in
set_option maxRecDepth 100000 in
theorem walk0 (l : List UInt8) (w0 : World) (hE : Env w0) :
    Calls Tryd.prog 6 #[.string (mkS l)] w0 fun e W' => e = .returned (.bool true) ∧ Below w0.heap.size w0 W' := by
  have HE := Lib.hid hE; clear hE
  have HAw : Hid (∀ V, Below w0.heap.size w0 V → Calls Tryd.prog 8 #[] V fun e w' => e = .returned (.bool true) ∧ Below w0.heap.size w0 w') := fun V hV =>
    (awake_is V (HE.out.below hV)).mono fun e w' ⟨he, hb⟩ => ⟨he, hV.trans (hb.mono hV.size)⟩
  have hb0 : Below w0.heap.size w0 w0 := Below.refl _ _
  by_cases hlong : 6000 < l.length
  · have hd : decide ((6000 : Int) < ((mkS l).size : Int)) = true := by rw [mkS_size]; exact decide_eq_true (by omega)
    have HLO := Lib.hid hlong; clear hlong
    go_enter Tryd.func6, Tryd.ntmps6
    go_wp2_with fail
    refine (HAw.out _ hb0).mono ?_
    rintro e w1 ⟨rfl, hbw1⟩
    go_wp2_with fail
    go_ret
    exact ⟨rfl, hbw1⟩
  have hd : decide ((6000 : Int) < ((mkS l).size : Int)) = false := by rw [mkS_size]; exact decide_eq_false (by omega)
  obtain ⟨r, hr⟩ : ∃ r, parseC l = r := ⟨_, rfl⟩
  obtain ⟨k, m, b, o, hh, hrg⟩ := four_open (parse_four l)
  rw [hr] at hh
  obtain ⟨L, hL⟩ : ∃ L, r.l = L := ⟨_, rfl⟩
  obtain ⟨n, hn⟩ : ∃ n, L.length = n := ⟨_, rfl⟩
  obtain ⟨at_, hat⟩ : ∃ at_ : Nat, r.at_ = at_ := ⟨_, rfl⟩
  obtain ⟨er, her⟩ : ∃ er, r.e = er := ⟨_, rfl⟩
  have hlines : ∀ x ∈ splitB 10 l, x.length ≤ 20000 := fun x hx => by have := split_le 10 l x hx; omega
  have HPa : Hid (∀ V, Below w0.heap.size w0 V → Calls Tryd.prog 11 #[.string (mkS l)] V fun e w' => (∃ B c', e = .returned (.tuple #[.agg #[.int .i64 k, .int .i64 m, .int .i64 b], .int .i64 o, .slice B n c', .int .i64 (at_ : Int), .int .i64 er]) ∧ Hid (HasC w' B L) ∧ Hid (∀ c ∈ L, c.Ok 20000)) ∧ Below w0.heap.size w0 w') := fun V hV => by
    subst hn; subst hL; subst hat; subst her
    refine (parse_is l V (by omega) hlines (HE.out.below hV)).mono ?_
    rintro e w' ⟨⟨k', m', b', o', v, rfl, he, hv, hk⟩, hb⟩
    rw [hr] at he hv hk ⊢
    rw [hh] at he
    simp only [List.cons.injEq, and_true] at he
    obtain ⟨rfl, rfl, rfl, rfl⟩ := he
    obtain ⟨B, c', rfl, _, hB⟩ := Kd.N_reads hv
    exact ⟨⟨B, c', rfl, HasC.of hB, hk⟩, hV.trans (hb.mono hV.size)⟩
  have HRa : Hid (∀ V, Below w0.heap.size w0 V → Calls Tryd.prog 20 #[.string (mkS l)] V fun e w' => (∃ B c', e = .returned (.tuple #[.agg #[.int .i64 k, .int .i64 m, .int .i64 b], .int .i64 o, .slice B n c', .int .i64 (at_ : Int), .int .i64 er]) ∧ Hid (HasC w' B L)) ∧ Below w0.heap.size w0 w' ∧ Below V.heap.size V w') := fun V hV => by
    subst hn; subst hL; subst hat; subst her
    refine (rparse_is l V (by omega) hlines).mono ?_
    rintro e w' ⟨⟨k', m', b', o', v, rfl, he, hv, hk⟩, hb⟩
    rw [hr] at he hv hk ⊢
    rw [hh] at he
    simp only [List.cons.injEq, and_true] at he
    obtain ⟨rfl, rfl, rfl, rfl⟩ := he
    obtain ⟨B, c', rfl, _, hB⟩ := Kd.N_reads hv
    exact ⟨⟨B, c', rfl, HasC.of hB⟩, hV.trans (hb.mono hV.size), hb⟩
  have hnb : n ≤ 100000 := by
    have := parse_few l
    unfold Few at this
    rw [hr, hL, hn] at this
    omega
  have HBk : Hid (∀ V B c', Below w0.heap.size w0 V → HasC V B L → (∀ c ∈ L, c.Ok 20000) → Calls Tryd.prog 22 #[.slice B n c'] V fun e w' => (∃ B c', e = .returned (.slice B n c') ∧ Hid (HasC w' B L)) ∧ Below w0.heap.size w0 w' ∧ Below V.heap.size V w') := fun V B c' hV hB hk => by
    subst hn
    refine (backs_is L B c' V hnb (fun x hx => by have := (hk x hx).dt; omega) hB.now).mono ?_
    rintro e w' ⟨⟨v, rfl, hv⟩, hb⟩
    obtain ⟨B, c', rfl, _, hB⟩ := Kd.N_reads hv
    exact ⟨⟨B, c', rfl, HasC.of hB⟩, hV.trans (hb.mono hV.size), hb⟩
  have HSm : Hid (∀ V A B c c', Below w0.heap.size w0 V → HasC V A L → HasC V B L → Calls Tryd.prog 21 #[.slice A n c, .slice B n c'] V fun e w' => e = .returned (.bool true) ∧ Below w0.heap.size w0 w' ∧ Below V.heap.size V w') := fun V A B c c' hV hA hB => by
    subst hn
    refine (sames_is L L A B c c' V hnb hnb hA.now hB.now).mono ?_
    rintro e w' ⟨rfl, hb⟩
    exact ⟨by rw [decide_eq_true rfl], hV.trans (hb.mono hV.size), hb⟩
  obtain ⟨ps, hps⟩ : ∃ ps, (printC [k, m, b, o] L).1 = ps := ⟨_, rfl⟩
  obtain ⟨pe, hpe⟩ : ∃ pe, (printC [k, m, b, o] L).2 = pe := ⟨_, rfl⟩
  have HPr : Hid (∀ V B c', Below w0.heap.size w0 V → HasC V B L → (∀ c ∈ L, c.Ok 20000) → Calls Tryd.prog 18 #[.agg #[.int .i64 k, .int .i64 m, .int .i64 b], .int .i64 o, .slice B n c'] V fun e w' => e = .returned (.tuple #[.string (mkS ps), .int .i64 pe]) ∧ Below w0.heap.size w0 w') := fun V B c' hV hB hk => by
    subst hn; subst hps; subst hpe
    exact (print_is k m b o L B c' V hrg hnb hk hB.now (HE.out.below hV)).mono fun e w' ⟨he, hb⟩ => ⟨he, hV.trans (hb.mono hV.size)⟩
  have HBK : Hid (er = 0 → ps = l ∧ pe = 0) := fun h0 => by
    have := parse_back l (by rw [hr, her]; exact h0)
    rw [hr, hh, hL] at this
    rw [← hps, ← hpe, this]
    exact ⟨rfl, rfl⟩
  clear hlong hr hh hL hat her hlines hnb hps hpe hn hrg
  go_enter Tryd.func6, Tryd.ntmps6
  go_wp2_with fail
  refine (HAw.out _ hb0).mono ?_
  rintro e w1 ⟨rfl, hbw1⟩
  go_wp2_with fail
  refine (HPa.out _ hbw1).mono ?_
  rintro e w2 ⟨⟨A, c, rfl, HA, HK⟩, hbw2⟩
  go_upto_region 6 with (fail)
  obtain ⟨W3, hW3⟩ : ∃ W3, w2.alloc (.cells #[.int .i64 k, .int .i64 m, .int .i64 b] 26) = W3 := ⟨_, rfl⟩
  rw [hW3]
  have hk3 : W3.heap[w2.heap.size]? = some (.cells #[.int .i64 k, .int .i64 m, .int .i64 b] 26 (0, 0)) := by rw [← hW3]; exact blk_new w2 _
  have hb3 : Below w0.heap.size w0 W3 := by rw [← hW3]; exact hbw2.alloc hbw2.size _
  have HA3 : Hid (HasC W3 A L) := by rw [← hW3]; exact HA.out.below ((Below.refl _ _).alloc (Nat.le_refl _) _)
  have HK3 := Lib.hid hk3
  clear hW3 hbw2 HA hk3
  go_wp2_with fail
  refine (HRa.out _ hb3).mono ?_
  rintro e w4 ⟨⟨B, d, rfl, HB⟩, hbw4, hbv4⟩
  go_upto_region 7 with (fail)
  obtain ⟨W5, hW5⟩ : ∃ W5, w4.alloc (.cells #[.int .i64 k, .int .i64 m, .int .i64 b] 26) = W5 := ⟨_, rfl⟩
  rw [hW5]
  have hb45 : Below w4.heap.size w4 W5 := by rw [← hW5]; exact (Below.refl _ _).alloc (Nat.le_refl _) _
  have hk5 : W5.heap[w4.heap.size]? = some (.cells #[.int .i64 k, .int .i64 m, .int .i64 b] 26 (0, 0)) := by rw [← hW5]; exact blk_new w4 _
  have hk35 : W5.heap[w2.heap.size]? = some (.cells #[.int .i64 k, .int .i64 m, .int .i64 b] 26 (0, 0)) := blk_below (blk_below HK3.out hbv4) hb45
  have hb5 : Below w0.heap.size w0 W5 := hbw4.trans (hb45.mono hbw4.size)
  have HA5 := Lib.hid ((HA3.out.below hbv4).below hb45)
  have HB5 := Lib.hid (HB.out.below hb45)
  have x0 := (blk_cell hk35 0).trans (rfl : _ = some (Value.int .i64 k))
  have x1 := (blk_cell hk35 1).trans (rfl : _ = some (Value.int .i64 m))
  have x2 := (blk_cell hk35 2).trans (rfl : _ = some (Value.int .i64 b))
  have y0 := (blk_cell hk5 0).trans (rfl : _ = some (Value.int .i64 k))
  have y1 := (blk_cell hk5 1).trans (rfl : _ = some (Value.int .i64 m))
  have y2 := (blk_cell hk5 2).trans (rfl : _ = some (Value.int .i64 b))
  have HK35 := Lib.hid hk35
  clear hW5 hb45 hk5 hk35 HA3 HB hbw4 hbv4 HK3
  go_wp2_with fail
  refine (HBk.out _ A c hb5 HA5.out HK.out).mono ?_
  rintro e w6 ⟨⟨C, d2, rfl, HC⟩, hb6, hbv6⟩
  have HA6 := Lib.hid (HA5.out.below hbv6)
  have HB6 := Lib.hid (HB5.out.below hbv6)
  have HK36 := Lib.hid (blk_below HK35.out hbv6)
  clear x0 x1 x2 y0 y1 y2 hbv6 HA5 HB5 HK35
  go_wp2_with fail
  refine (HSm.out _ C B d2 d hb6 HC.out HB6.out).mono ?_
  rintro e w7 ⟨rfl, hb7, hbv7⟩
  have HA7 := Lib.hid (HA6.out.below hbv7)
  have hk7 := blk_below HK36.out hbv7
  have x0 := (blk_cell hk7 0).trans (rfl : _ = some (Value.int .i64 k))
  have x1 := (blk_cell hk7 1).trans (rfl : _ = some (Value.int .i64 m))
  have x2 := (blk_cell hk7 2).trans (rfl : _ = some (Value.int .i64 b))
  clear hk7 hbv7 HA6 HB6 HK36 HC
  go_wp2_with fail
  refine (HPr.out _ A c hb7 HA7.out HK.out).mono ?_
  rintro e w8 ⟨rfl, hb8⟩
  clear x0 x1 x2 HPr
  by_cases h0 : er = 0
  · obtain ⟨rfl, rfl⟩ := HBK.out h0
    subst h0
    clear HBK
    go_wp2_with fail
    go_ret
    exact ⟨rfl, hb8⟩
  · have hz : (er != 0) = true := by simpa using h0
    clear HBK h0
    go_wp2_with fail
    go_ret
    exact ⟨rfl, hb8⟩

section
variable {H : Type} {enc : TypeId × Value → H}
theorem walk (a : ByteArray) (W : World) (hE : Env W) :
    Calls Tryd.prog 6 #[.string a] W fun e W' => e = .returned (.bool true) ∧ Below W.heap.size W W' := by
  have := walk0 a.data.toList W hE
  rw [mkS_of] at this
  exact this
end
theorem laid_met (os : Os) : laidMet Tryd.prog Rows.scriptParsesRow.laid ((laidWorld os).forCall (fun _ _ => 0) ⟨#[], #[.string ⟨#[]⟩], []⟩).memory :=
  laidMet_of_run' 8 (by kernel_rfl) (by kernel_rfl)
theorem reads (os : Os) {H : Type} (enc : TypeId × Value → H) : ∃ places, DataW.whole enc Tryd.prog ((laidWorld os).forCall (fun _ _ => 0) ⟨#[], #[.string ⟨#[]⟩], []⟩).memory Tryd.f6.params.toList Rows.scriptParsesSpec.vars false (#[.string ⟨#[]⟩] : Array Value).toList 8 = some ([.lit (.string [])], [], places) :=
  ⟨[], by kernel_rfl⟩
theorem tabs_of {W : World} (h : laidMetH Tryd.prog Rows.scriptParsesRow.laid W) : Env W := env_of5 h
set_option maxRecDepth 100000 in
theorem lifted (os : Os) (started : os.Started) (H : Type) (enc : TypeId × Value → H) (F : Stop.Interp) :
    ReturnsInHanded {} Tryd.checked os 6 .any ((OpenSpec.ofChange Rows.scriptParsesSpec).preRow enc Tryd.prog Tryd.f6 Rows.scriptParsesRow.domain false Rows.scriptParsesRow.laid) (((OpenSpec.ofChange Rows.scriptParsesSpec).at F).post enc Tryd.prog Tryd.f6 false true false false) := by
  obtain ⟨places, hx⟩ := reads os enc
  refine returnsInHanded_of_row (C := Tryd.checked) (s := OpenSpec.ofChange Rows.scriptParsesSpec) own started (by kernel_rfl) Tryd.func6
    (witness_row_at (enc := enc) (C := Tryd.checked) false (laidWorld os) #[.string ⟨#[]⟩] rfl (by kernel_rfl) (by kernel_rfl) (by kernel_rfl)
      (OpenSpec.preRow_of_cond 8 hx (by kernel_rfl) (fun k hk => by cases hk) (by kernel_rfl) (laid_met os))) ?_
  intro W base args ds gs before hval0 hW _ _ _ hL _ _
  have hval : ∀ (j : Nat) t v, Tryd.f6.params[j]? = some t → args[j]? = some v → Value.okWide Tryd.prog W .any base t v := hval0
  have hW' := hW
  obtain ⟨p, q, hA0, hV, rfl, hfz, hnd⟩ := hW
  have hA : DataW.TrodAll enc Tryd.prog W 0 (fun _ => true) true Tryd.f6.params.toList args.toList ds p := hA0
  rw [Tryd.params6] at hA hval
  obtain ⟨v0, vs0, d0, ds0, p0, q0, hargs, rfl, rfl, h0, r0⟩ := trodAll_cons hA
  obtain ⟨rfl, rfl, rfl⟩ := trodAll_nil r0
  obtain rfl : args = #[v0] := by cases args; simp_all
  obtain ⟨rfl, rfl⟩ := trodVars_none hV
  obtain ⟨a0, rfl, rfl, rfl, w0⟩ := ChangeMaps.open_string Tryd.underlying9 (hval 0 9 v0 rfl rfl) h0
  clear hA0 hval0
  simp only [List.append_nil] at hW'
  refine (walk a0 W (tabs_of hL)).mono fun e W' ⟨he, hg⟩ => ?_
  subst he
  exact ⟨_, rfl, law_post (s := Rows.scriptParsesSpec) laidOut (of_decide_eq_true (by kernel_rfl)) Tryd.underlying4 rfl rfl rfl rfl rfl hW' hg⟩

theorem said : Rows.ScriptParsesSaid :=
  OpenClaim.holds_of_cond 6 Tryd.f6 rfl rfl rfl rfl rfl rfl rfl ⟨rfl, rfl, rfl, rfl, rfl⟩ rfl rfl rfl rfl rfl (by kernel_rfl) Tryd.func6 (by kernel_rfl)
    (of_decide_eq_true (by kernel_rfl)) (by unfold Func.isWrapper; first | (rw [if_pos (by decide +kernel)]; kernel_rfl) | (rw [if_neg (by decide +kernel)]; exact ⟨rfl, rfl⟩))
    (fun os started H enc _ F => by rw [OpenClaim.pre_eq_preRow]; exact lifted os started H enc F)
theorem plain (f : FuncId) (fn : Func) (hf : Tryd.pinned.checked.prog.funcNamed "strongbox/strongboxlaw24.ScriptParses" = some f) (hfn : Tryd.pinned.checked.prog.funcs[f]? = some fn) :
    true = Tryd.pinned.checked.prog.looks [] ∧ ∀ (j : Nat) t, fn.params[j]? = some t → Tryd.pinned.checked.prog.wantsStandIn t = false := by
  obtain rfl : f = 6 := Option.some.inj ((show Tryd.prog.funcNamed "strongbox/strongboxlaw24.ScriptParses" = some 6 by kernel_rfl).symm.trans hf) |>.symm
  obtain rfl : fn = Tryd.f6 := (Option.some.inj (Tryd.func6.symm.trans hfn)).symm
  refine ⟨by kernel_rfl, fun j t ht => ?_⟩
  rw [Tryd.params6] at ht
  have hm := Array.mem_of_getElem? ht
  simp only [List.mem_toArray, List.mem_cons, List.not_mem_nil, or_false] at hm
  obtain rfl := hm
  · exact (show Tryd.prog.wantsStandIn 9 = false by kernel_rfl)

/-- ████ THE CARD ████ -/
theorem proved : Rows.ScriptParsesCardSaid :=
  Claim7.holds_tied_plain_at .later [] _ _ _ _ said (fun _ h => by cases h) (by kernel_rfl) (fun _ h => by cases h) scriptParses_row_tie rfl ⟨rfl, rfl⟩ (by kernel_rfl) rfl plain (by kernel_rfl)
#print axioms proved
end Go.Proofs.YtghllfihmmlcnaaDoor.scriptParses
