/- ScriptBack: what was printed is read as it was. -/
import Derived.Test.YtghllfihmmlcnaaDoorScrAr
import Derived.Test.YtghllfihmmlcnaaDoorScrR
import Derived.Test.YtghllfihmmlcnaaDoorScrEn
import Derived.Test.YtghllfihmmlcnaaDoorCards
import Derived.Test.YtghllfihmmlcnaaDoorTie
import Derived.Deep.DeepHandedRow
import Derived.Lib.LaidIn
namespace Go.Proofs.YtghllfihmmlcnaaDoor.scriptBack
open Go.ChangeShapes Go.WideShapes Go.ChangeAt Go.RowKit Nam YtghllfihmmlcnaaDoorW.PrintWords

theorem eqA26 (d : Nat) (w : World) (x0 y0 : Int) (x1 y1 : Int) (x2 y2 : Int) :
    (Op.equalIn (d + 2) 26 (.agg #[.int .i64 x0, .int .i64 x1, .int .i64 x2]) (.agg #[.int .i64 y0, .int .i64 y1, .int .i64 y2])).run Tryd.prog w = .ok (x0 == y0 && (x1 == y1 && (x2 == y2))) w := by
  refine eqA_of Tryd.underlying26 (by kernel_rfl) ?_
  refine eqf_cons (by rfl) (by go_simp; rfl) (by go_simp; rfl) (by go_simp) ?_
  refine eqf_cons (by rfl) (by go_simp; rfl) (by go_simp; rfl) (by go_simp) ?_
  exact eqf_last (by rfl) (by go_simp; rfl) (by go_simp; rfl) (by go_simp)
attribute [local go_sem high] eqA26

theorem ch_ok {x : Ch} (h : x.Num) (hs : x.Short) : x.Ok 3000 := ⟨h.d, h.n, h.a, h.fi, h.mo, by have := hs.bk; omega, by have := hs.ky; omega, hs.dt, by have := hs.pf; omega, by have := hs.fr; omega⟩
theorem ch_short {l : List Ch} {m : Nat} (h : roomB l m = true) : ∀ x ∈ l, x.Short := fun x hx => by
  obtain ⟨h1, h2, h3, h4, h5⟩ := (roomB_ok h).2 x hx
  exact ⟨h1, h2, h3, h4, h5⟩
/-- What lies in a row of choices, and stays. -/
def HasC (w : World) (A : Option Addr) (l : List Ch) : Prop := ∀ w', Below w.heap.size w w' → Kd.C kCh w' A l.length l
theorem HasC.of {w : World} {A : Option Addr} {l : List Ch} (h : Kd.C kCh w A l.length l) : HasC w A l := fun _ hb => Kd.C_below h hb
theorem HasC.below {w w' : World} {A : Option Addr} {l : List Ch} (h : HasC w A l) (hb : Below w.heap.size w w') : HasC w' A l := fun _ hb2 => h _ (hb.trans (hb2.mono hb.size))
theorem HasC.now {w : World} {A : Option Addr} {l : List Ch} (h : HasC w A l) : Kd.C kCh w A l.length l := h _ (Below.refl _ _)

set_option maxHeartbeats 1000000 in
set_option maxRecDepth 100000 in
theorem walk0 (k m b o : Int) (hh : ∀ n ∈ [k, m, b, o], -9223372036854775808 ≤ n ∧ n ≤ 9223372036854775807) (l : List Ch) (A : Option Addr) (c : Nat) (W : World) (hc : l.length ≤ c) (hC : Kd.C kCh W A l.length l) (hN : ∀ x ∈ l, x.Num) (hE : Env W) :
    Calls Tryd.prog 7 #[.agg #[.int .i64 k, .int .i64 m, .int .i64 b], .int .i64 o, .slice A l.length c] W fun e W' => e = .returned (.bool true) ∧ Below W.heap.size W W' := by
  obtain ⟨w0, hw0⟩ : ∃ w0, W.alloc (.cells #[.int .i64 k, .int .i64 m, .int .i64 b] 26) = w0 := ⟨_, rfl⟩
  have hbw : Below W.heap.size W w0 := by rw [← hw0]; exact (Below.refl _ _).alloc (Nat.le_refl _) _
  have hk0 : w0.heap[W.heap.size]? = some (.cells #[.int .i64 k, .int .i64 m, .int .i64 b] 26 (0, 0)) := by rw [← hw0]; exact blk_new W _
  have HE : Hid (Env w0) := hE.below hbw
  clear hE
  have HH := Lib.hid hh; clear hh
  have HC : Hid (HasC w0 A l) := (HasC.of hC).below hbw
  clear hC
  have HBW := Lib.hid hbw; clear hbw
  have HK0 := Lib.hid hk0; clear hk0
  have HNm := Lib.hid hN; clear hN
  have HAw : Hid (∀ V, Below w0.heap.size w0 V → Calls Tryd.prog 8 #[] V fun e w' => e = .returned (.bool true) ∧ Below w0.heap.size w0 w') := fun V hV =>
    (awake_is V (HE.out.below hV)).mono fun e w' ⟨he, hb⟩ => ⟨he, hV.trans (hb.mono hV.size)⟩
  obtain ⟨R, hR⟩ : ∃ R, roomB l 60 = R := ⟨_, rfl⟩
  have HRm : Hid (∀ V, Below w0.heap.size w0 V → Calls Tryd.prog 9 #[.slice A l.length c, .int .i64 60] V fun e w' => e = .returned (.bool R) ∧ Below w0.heap.size w0 w') := fun V hV => by
    rw [← hR]
    exact (room_is l 60 A c V hc (by decide) (HC.out V hV)).mono fun e w' ⟨he, hb⟩ => ⟨he, hV.trans (hb.mono hV.size)⟩
  have HSf : Hid (∀ V, Below w0.heap.size w0 V → V.cell? ⟨W.heap.size, 0, none⟩ = some (.int .i64 k) ∧ V.cell? ⟨W.heap.size, 1, none⟩ = some (.int .i64 m) ∧ V.cell? ⟨W.heap.size, 2, none⟩ = some (.int .i64 b)) := fun V hV =>
    ⟨(blk_cell (blk_below HK0.out hV) 0).trans rfl, (blk_cell (blk_below HK0.out hV) 1).trans rfl, (blk_cell (blk_below HK0.out hV) 2).trans rfl⟩
  have hb0 : Below w0.heap.size w0 w0 := Below.refl _ _
  obtain ⟨n, hn⟩ : ∃ n, l.length = n := ⟨_, rfl⟩
  rw [hn] at HRm hc ⊢
  cases R with
  | false =>
    go_enter Tryd.func7, Tryd.ntmps7
    go_wp2_with fail
    refine (HAw.out _ hb0).mono ?_
    rintro e w1 ⟨rfl, hbw1⟩
    go_wp2_with (go_at_call 9; refine (HRm.out _ hbw1).mono ?_; rintro e w2 ⟨rfl, hbw2⟩)
    go_ret
    exact ⟨rfl, HBW.out.trans (hbw2.mono HBW.out.size)⟩
  | true =>
    have hShort := ch_short hR
    have hl60 := (roomB_ok hR).1
    rw [hn] at hl60
    have hOk : ∀ x ∈ l, x.Ok 3000 := fun x hx => ch_ok (HNm.out x hx) (hShort x hx)
    clear hR
    have HCh : Hid (∀ V, Below w0.heap.size w0 V → Calls Tryd.prog 19 #[.slice A n c] V fun e w' => (∃ B c', e = .returned (.slice B n c') ∧ Hid (HasC w' B l)) ∧ Below w0.heap.size w0 w') := fun V hV => by
      subst hn
      refine (choices_is l A c V (by omega) (fun x hx => by have := (hOk x hx).dt; omega) (HC.out V hV)).mono ?_
      rintro e w' ⟨⟨v, rfl, hv⟩, hb⟩
      obtain ⟨B, c', rfl, _, hB⟩ := Kd.N_reads hv
      exact ⟨⟨B, c', rfl, HasC.of hB⟩, hV.trans (hb.mono hV.size)⟩
    obtain ⟨ps, hps⟩ : ∃ ps, (printC [k, m, b, o] l).1 = ps := ⟨_, rfl⟩
    obtain ⟨pe, hpe⟩ : ∃ pe, (printC [k, m, b, o] l).2 = pe := ⟨_, rfl⟩
    have HPr : Hid (∀ V B c', Below w0.heap.size w0 V → HasC V B l → Calls Tryd.prog 18 #[.agg #[.int .i64 k, .int .i64 m, .int .i64 b], .int .i64 o, .slice B n c'] V fun e w' => e = .returned (.tuple #[.string (mkS ps), .int .i64 pe]) ∧ Below w0.heap.size w0 w') := fun V B c' hV hB => by
      subst hn; subst hps; subst hpe
      exact (print_is k m b o l B c' V HH.out (by omega) (fun x hx => (hOk x hx).mono (by omega)) hB.now (HE.out.below hV)).mono fun e w' ⟨he, hb⟩ => ⟨he, hV.trans (hb.mono hV.size)⟩
    have HPa : Hid (pe = 0 → ∀ V, Below w0.heap.size w0 V → Calls Tryd.prog 11 #[.string (mkS ps)] V fun e w' => (∃ B c', e = .returned (.tuple #[.agg #[.int .i64 k, .int .i64 m, .int .i64 b], .int .i64 o, .slice B n c', .int .i64 0, .int .i64 0]) ∧ Hid (HasC w' B l)) ∧ Below w0.heap.size w0 w') := fun h0 V hV => by
      subst hn; subst hps; subst hpe
      obtain ⟨hp, hpl⟩ := parse_print k m b o l HH.out (fun x hx => (hOk x hx).mono (by omega)) h0
      refine (parse_is _ V (by omega) (print_lines_len k m b o l HH.out (fun x hx => (hOk x hx).mono (by omega)) hShort h0) (HE.out.below hV)).mono ?_
      rintro e w' ⟨⟨k', m', b', o', v, rfl, he, hv, _⟩, hb⟩
      rw [hp] at he hv ⊢
      simp only [List.cons.injEq, and_true] at he
      obtain ⟨rfl, rfl, rfl, rfl⟩ := he
      obtain ⟨B, c', rfl, _, hB⟩ := Kd.N_reads hv
      exact ⟨⟨B, c', rfl, HasC.of hB⟩, hV.trans (hb.mono hV.size)⟩
    have HBk : Hid (∀ V B c', Below w0.heap.size w0 V → HasC V B l → Calls Tryd.prog 22 #[.slice B n c'] V fun e w' => (∃ B c', e = .returned (.slice B n c') ∧ Hid (HasC w' B l)) ∧ Below w0.heap.size w0 w') := fun V B c' hV hB => by
      subst hn
      refine (backs_is l B c' V (by omega) (fun x hx => by have := (hOk x hx).dt; omega) hB.now).mono ?_
      rintro e w' ⟨⟨v, rfl, hv⟩, hb⟩
      obtain ⟨B, c', rfl, _, hB⟩ := Kd.N_reads hv
      exact ⟨⟨B, c', rfl, HasC.of hB⟩, hV.trans (hb.mono hV.size)⟩
    have HSm : Hid (∀ V B c', Below w0.heap.size w0 V → HasC V B l → Calls Tryd.prog 21 #[.slice B n c', .slice A n c] V fun e w' => e = .returned (.bool true) ∧ Below w0.heap.size w0 w') := fun V B c' hV hB => by
      subst hn
      refine (sames_is l l B A c' c V (by omega) (by omega) hB.now (HC.out V hV)).mono ?_
      rintro e w' ⟨rfl, hb⟩
      exact ⟨by rw [decide_eq_true rfl], hV.trans (hb.mono hV.size)⟩
    clear hOk hShort hn hps hpe
    go_enter Tryd.func7, Tryd.ntmps7
    go_wp2_with fail
    clear hw0
    refine (HAw.out _ hb0).mono ?_
    rintro e w1 ⟨rfl, hbw1⟩
    go_wp2_with (go_at_call 9; refine (HRm.out _ hbw1).mono ?_; rintro e w2 ⟨rfl, hbw2⟩)
    have hB0 : Below w0.heap.size w0 w2.drew := hbw2.drew
    go_region_held3 (fun V => V.cell? ⟨W.heap.size, 0, none⟩ = some (.int .i64 k) ∧ V.cell? ⟨W.heap.size, 1, none⟩ = some (.int .i64 m) ∧ V.cell? ⟨W.heap.size, 2, none⟩ = some (.int .i64 b))
      (first | (with_reducible exact (HSf.out _ (by with_reducible assumption))) | go_keep)
      (first
        | (go_at_call 19; refine (HCh.out _ (by with_reducible assumption)).mono ?_; rintro e w3 ⟨⟨B1, c1, rfl, HC1⟩, hbw3⟩)
        | (go_at_call 18; refine (HPr.out _ B1 c1 (by with_reducible assumption) HC1.out).mono ?_; rintro e w4 ⟨rfl, hbw4⟩))
    by_cases h0 : pe = 0
    · have HPb := Lib.hid (HPa.out h0)
      subst h0
      clear HPa
      go_wp2_with (first
        | (go_at_call 11; refine (HPb.out _ hbw4).mono ?_; rintro e w5 ⟨⟨B2, c2, rfl, HC2⟩, hbw5⟩; have hbw6 : ∀ o, Below w0.heap.size w0 (w5.alloc o) := fun o => hbw5.alloc hbw5.size o; have x0 := fun o => (HSf.out _ (hbw6 o)).1; have x1 := fun o => (HSf.out _ (hbw6 o)).2.1; have x2 := fun o => (HSf.out _ (hbw6 o)).2.2)
        | (go_at_call 22; refine (HBk.out _ B2 c2 (hbw6 _) (HC2.out.below ((Below.refl _ _).alloc (Nat.le_refl _) _))).mono ?_; rintro e w7 ⟨⟨B3, c3, rfl, HC3⟩, hbw7⟩)
        | (go_at_call 21; refine (HSm.out _ B3 c3 hbw7 HC3.out).mono ?_; rintro e w8 ⟨rfl, hbw8⟩))
      go_ret
      exact ⟨rfl, HBW.out.trans (hbw8.mono HBW.out.size)⟩
    · have hz : (pe != 0) = true := by simpa using h0
      go_wp2_with fail
      go_ret
      exact ⟨rfl, HBW.out.trans (hbw4.mono HBW.out.size)⟩

section
variable {H : Type} {enc : TypeId × Value → H}
set_option maxRecDepth 100000 in
theorem walk (v : Value) (d : DataW H) (ps : List MemPlace) {W : World} {base base' : Nat} (o : Value.okWide Tryd.prog W .any base 26 v) (h : DataW.Trod enc Tryd.prog W 0 (fun _ => true) true 26 v d ps) (a : Int) (wa : (Lit.int .i64 a).wf = true)
    (u : Value) (d' : DataW H) (ps' : List MemPlace) (o' : Value.okWide Tryd.prog W .any base' 22 u) (h' : DataW.Trod enc Tryd.prog W 0 (fun _ => true) true 22 u d' ps') (W0 : World) (hW : W0 = W) (hE : Env W0) :
    Calls Tryd.prog 7 #[v, .int .i64 a, u] W0 fun e W' => e = .returned (.bool true) ∧ Below W0.heap.size W0 W' := by
  subst hW
  obtain ⟨k, m, b, rfl, hr⟩ := open_shape o h
  obtain ⟨l, A, c, rfl, hc, hC, hN⟩ := open_chs o' h'
  refine walk0 k m b a (fun n hn => ?_) l A c W0 hc hC hN hE
  simp only [List.mem_cons, List.not_mem_nil, or_false] at hn hr
  rcases hn with hn | hn | hn | hn
  · exact hr n (.inl hn)
  · exact hr n (.inr (.inl hn))
  · exact hr n (.inr (.inr hn))
  · subst hn; exact wf_i64 wa
end
theorem laid_met (os : Os) : laidMet Tryd.prog Rows.scriptBackRow.laid ((laidWorld os).forCall (fun _ _ => 0) ⟨#[], #[.agg #[.int .i64 0, .int .i64 0, .int .i64 0], .int .i64 0, .slice none 0 0], []⟩).memory :=
  laidMet_of_run' 8 (by kernel_rfl) (by kernel_rfl)
theorem reads (os : Os) {H : Type} (enc : TypeId × Value → H) : ∃ places, DataW.whole enc Tryd.prog ((laidWorld os).forCall (fun _ _ => 0) ⟨#[], #[.agg #[.int .i64 0, .int .i64 0, .int .i64 0], .int .i64 0, .slice none 0 0], []⟩).memory Tryd.f7.params.toList Rows.scriptBackSpec.vars false (#[.agg #[.int .i64 0, .int .i64 0, .int .i64 0], .int .i64 0, .slice none 0 0] : Array Value).toList 8 = some ([.agg [.lit (.int .i64 0), .lit (.int .i64 0), .lit (.int .i64 0)], .lit (.int .i64 0), .nil], [], places) :=
  ⟨[], by kernel_rfl⟩
theorem tabs_of {W : World} (h : laidMetH Tryd.prog Rows.scriptBackRow.laid W) : Env W := env_of5 h
set_option maxRecDepth 100000 in
theorem lifted (os : Os) (started : os.Started) (H : Type) (enc : TypeId × Value → H) (F : Stop.Interp) :
    ReturnsInHanded {} Tryd.checked os 7 .any ((OpenSpec.ofChange Rows.scriptBackSpec).preRow enc Tryd.prog Tryd.f7 Rows.scriptBackRow.domain false Rows.scriptBackRow.laid) (((OpenSpec.ofChange Rows.scriptBackSpec).at F).post enc Tryd.prog Tryd.f7 false true false false) := by
  obtain ⟨places, hx⟩ := reads os enc
  refine returnsInHanded_of_row (C := Tryd.checked) (s := OpenSpec.ofChange Rows.scriptBackSpec) own started (by kernel_rfl) Tryd.func7
    (witness_row_at (enc := enc) (C := Tryd.checked) false (laidWorld os) #[.agg #[.int .i64 0, .int .i64 0, .int .i64 0], .int .i64 0, .slice none 0 0] rfl (by kernel_rfl) (by kernel_rfl) (by kernel_rfl)
      (OpenSpec.preRow_of_cond 8 hx (by kernel_rfl) (fun k hk => by cases hk) (by kernel_rfl) (laid_met os))) ?_
  intro W base args ds gs before hval0 hW _ _ _ hL _ _
  have hval : ∀ (j : Nat) t v, Tryd.f7.params[j]? = some t → args[j]? = some v → Value.okWide Tryd.prog W .any base t v := hval0
  have hW' := hW
  obtain ⟨p, q, hA0, hV, rfl, hfz, hnd⟩ := hW
  have hA : DataW.TrodAll enc Tryd.prog W 0 (fun _ => true) true Tryd.f7.params.toList args.toList ds p := hA0
  rw [Tryd.params7] at hA hval
  obtain ⟨v0, vs0, d0, ds0, p0, q0, hargs, rfl, rfl, h0, r0⟩ := trodAll_cons hA
  obtain ⟨v1, vs1, d1, ds1, p1, q1, rfl, rfl, rfl, h1, r1⟩ := trodAll_cons r0
  obtain ⟨v2, vs2, d2, ds2, p2, q2, rfl, rfl, rfl, h2, r2⟩ := trodAll_cons r1
  obtain ⟨rfl, rfl, rfl⟩ := trodAll_nil r2
  obtain rfl : args = #[v0, v1, v2] := by cases args; simp_all
  obtain ⟨rfl, rfl⟩ := trodVars_none hV
  have o0 := hval 0 26 v0 rfl rfl
  obtain ⟨a1, rfl, rfl, rfl, w1⟩ := open_int Tryd.underlying3 (hval 1 3 v1 rfl rfl) h1
  have o2 := hval 2 22 v2 rfl rfl
  clear hA0 hval0
  simp only [List.append_nil] at hW'
  refine (walk v0 d0 p0 o0 h0 a1 w1 v2 d2 p2 o2 h2 W rfl (tabs_of hL)).mono fun e W' ⟨he, hg⟩ => ?_
  subst he
  exact ⟨_, rfl, law_post (s := Rows.scriptBackSpec) laidOut (of_decide_eq_true (by kernel_rfl)) Tryd.underlying4 rfl rfl rfl rfl rfl hW' hg⟩

theorem said : Rows.ScriptBackSaid :=
  OpenClaim.holds_of_cond 7 Tryd.f7 rfl rfl rfl rfl rfl rfl rfl ⟨rfl, rfl, rfl, rfl, rfl⟩ rfl rfl rfl rfl rfl (by kernel_rfl) Tryd.func7 (by kernel_rfl)
    (of_decide_eq_true (by kernel_rfl)) (by unfold Func.isWrapper; first | (rw [if_pos (by decide +kernel)]; kernel_rfl) | (rw [if_neg (by decide +kernel)]; exact ⟨rfl, rfl⟩))
    (fun os started H enc _ F => by rw [OpenClaim.pre_eq_preRow]; exact lifted os started H enc F)
theorem plain (f : FuncId) (fn : Func) (hf : Tryd.pinned.checked.prog.funcNamed "strongbox/strongboxlaw24.ScriptBack" = some f) (hfn : Tryd.pinned.checked.prog.funcs[f]? = some fn) :
    true = Tryd.pinned.checked.prog.looks [] ∧ ∀ (j : Nat) t, fn.params[j]? = some t → Tryd.pinned.checked.prog.wantsStandIn t = false := by
  obtain rfl : f = 7 := Option.some.inj ((show Tryd.prog.funcNamed "strongbox/strongboxlaw24.ScriptBack" = some 7 by kernel_rfl).symm.trans hf) |>.symm
  obtain rfl : fn = Tryd.f7 := (Option.some.inj (Tryd.func7.symm.trans hfn)).symm
  refine ⟨by kernel_rfl, fun j t ht => ?_⟩
  rw [Tryd.params7] at ht
  have hm := Array.mem_of_getElem? ht
  simp only [List.mem_toArray, List.mem_cons, List.not_mem_nil, or_false] at hm
  rcases hm with rfl | rfl | rfl
  · exact (show Tryd.prog.wantsStandIn 26 = false by kernel_rfl)
  · exact (show Tryd.prog.wantsStandIn 3 = false by kernel_rfl)
  · exact (show Tryd.prog.wantsStandIn 22 = false by kernel_rfl)

/-- ████ THE CARD ████ -/
theorem proved : Rows.ScriptBackCardSaid :=
  Claim7.holds_tied_plain_at .later [] _ _ _ _ said (fun _ h => by cases h) (by kernel_rfl) (fun _ h => by cases h) scriptBack_row_tie rfl ⟨rfl, rfl⟩ (by kernel_rfl) rfl plain (by kernel_rfl)
#print axioms proved
end Go.Proofs.YtghllfihmmlcnaaDoor.scriptBack
