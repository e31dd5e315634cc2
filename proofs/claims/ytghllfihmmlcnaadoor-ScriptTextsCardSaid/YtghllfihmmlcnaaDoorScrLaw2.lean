/- ScriptTexts: a choice with a field that its line has not has no text; without it, it has one, which is read as it was. -/
import Derived.Test.YtghllfihmmlcnaaDoorScrMF
import Derived.Test.YtghllfihmmlcnaaDoorScrRT
import Derived.Test.YtghllfihmmlcnaaDoorCards
import Derived.Test.YtghllfihmmlcnaaDoorTie
import Derived.Deep.DeepHandedRow
import Derived.Lib.LaidIn
namespace Go.Proofs.YtghllfihmmlcnaaDoor.scriptTexts
open Go.ChangeShapes Go.WideShapes Go.ChangeAt Go.RowKit Nam YtghllfihmmlcnaaDoorW.PrintWords

/-! ### plainly -/
def withA (x : Ch) (a : Int) : Ch := { x with a := a }
theorem putC_withA (x y : Ch) (a b : Int) (f : Nat) : putC (withA x a) (withA y b) f = withA (putC x y f) (if f = 4 then a else b) := by
  match f with
  | 0 => rfl
  | 1 => rfl
  | 2 => rfl
  | 3 => rfl
  | 4 => rfl
  | 5 => rfl
  | 6 => rfl
  | 7 => rfl
  | n + 8 =>
    rw [if_neg (by omega)]
    rfl
theorem onlyC_withA (x : Ch) (a : Int) : ∀ (fs : List Nat) (y : Ch) (b : Int), fs.foldl (putC (withA x a)) (withA y b) = withA (fs.foldl (putC x) y) (if 4 ∈ fs then a else b)
  | [], y, b => by simp
  | f :: t, y, b => by
    rw [List.foldl_cons, List.foldl_cons, putC_withA, onlyC_withA x a t]
    congr 1
    by_cases h4 : f = 4
    · subst h4; simp
    · rw [if_neg h4]
      have : (4 ∈ f :: t) = (4 ∈ t) := by simp [Ne.symm h4]
      simp only [this]
/-- A choice whose text is there, with another At. -/
theorem text_withA (x : Ch) (a : Int) (h : (textC x).isSome = true) (ha : a ≠ x.a) : (textC (withA x a)).isSome = decide (4 ∈ (formC x.d).2) := by
  unfold textC at h ⊢
  have hd : (withA x a).d = x.d := rfl
  rw [hd]
  by_cases h0 : (formC x.d).1 = []
  · rw [if_pos h0] at h; cases h
  rw [if_neg h0] at h ⊢
  by_cases ho : onlyC x (formC x.d).2 = x
  rotate_left
  · rw [if_neg ho] at h; cases h
  have e1 : onlyC (withA x a) (formC x.d).2 = withA x (if 4 ∈ (formC x.d).2 then a else 0) := by
    have := onlyC_withA x a (formC x.d).2 (bareC x.d) 0
    have e : onlyC x (formC x.d).2 = (formC x.d).2.foldl (putC x) (bareC x.d) := rfl
    rw [← e, ho] at this
    exact this
  have e2 : x = withA x (if 4 ∈ (formC x.d).2 then x.a else 0) := by
    have := onlyC_withA x x.a (formC x.d).2 (bareC x.d) 0
    have e : onlyC x (formC x.d).2 = (formC x.d).2.foldl (putC x) (bareC x.d) := rfl
    rw [← e, ho] at this
    exact ho.symm.trans (e.trans this)
  rw [e1]
  by_cases h4 : 4 ∈ (formC x.d).2
  · simp [h4]
  · rw [if_neg h4] at e2 ⊢
    have hz : x.a = 0 := congrArg Ch.a e2
    have hne : ¬ withA x 0 = withA x a := fun e => ha (by have := congrArg Ch.a e; rw [hz]; exact this.symm)
    rw [if_neg hne]
    simp [h4]
def textT (t : List UInt8) : List UInt8 := [97, 114, 114, 97, 121, 32, 49, 32, 49, 32, 49, 54, 32, 55, 10] ++ (t ++ [10])
theorem print_one (x : Ch) (t : List UInt8) (ht : textC x = some t) (hl : t.length ≤ 10000) : printC [1, 1, 16, 7] [x] = (textT t, 0) := by
  have h1 : headC [1, 1, 16, 7] = [97, 114, 114, 97, 121, 32, 49, 32, 49, 32, 49, 54, 32, 55, 10] := by
    unfold headC numsB
    simp [itoa_1, itoa_16, itoa_7]
  have h2 : bodyC [x] = t ++ [10] := by
    unfold bodyC
    simp [ht]
  unfold printC
  rw [h1, h2]
  rw [if_neg (by simp [ht]), if_neg (by simp; omega)]
  rfl
theorem textT_mkS (t : List UInt8) : ((⟨#[97, 114, 114, 97, 121, 32, 49, 32, 49, 32, 49, 54, 32, 55, 10]⟩ : ByteArray) ++ mkS t) ++ ⟨#[10]⟩ = mkS (textT t) := by
  rw [show (⟨#[97, 114, 114, 97, 121, 32, 49, 32, 49, 32, 49, 54, 32, 55, 10]⟩ : ByteArray) = mkS [97, 114, 114, 97, 121, 32, 49, 32, 49, 32, 49, 54, 32, 55, 10] from rfl, show (⟨#[10]⟩ : ByteArray) = mkS [10] from rfl, mkS_app, mkS_app]
  simp [textT]
/-- Is the letter among those of the fields? -/
theorem letC_97 (f : Nat) (h : f ≤ 8) : (letC f = 97) ↔ f = 4 := by
  match f, h with
  | 0, _ => decide
  | 1, _ => decide
  | 2, _ => decide
  | 3, _ => decide
  | 4, _ => decide
  | 5, _ => decide
  | 6, _ => decide
  | 7, _ => decide
  | 8, _ => decide

theorem mem_take_true (L : List UInt8) (j : Nat) (h : j < L.length) (hB : decide (97 ∈ L.take j) = true) : decide (97 ∈ L.take (j + 1)) = true := by
  rw [List.take_succ_eq_append_getElem h]
  exact decide_eq_true (List.mem_append.2 (.inl (of_decide_eq_true hB)))
theorem mem_take_false (L : List UInt8) (j : Nat) (h : j < L.length) (hB : decide (97 ∈ L.take j) = false) : decide (97 ∈ L.take (j + 1)) = decide (L[j] = 97) := by
  rw [List.take_succ_eq_append_getElem h]
  apply decide_eq_decide.2
  rw [List.mem_append, List.mem_singleton]
  have := of_decide_eq_false hB
  exact ⟨fun h => (h.resolve_left this).symm, fun h => .inr h.symm⟩
theorem byte_97 (b : UInt8) : (((b.toNat : Nat) : Int) == 97) = decide (b = 97) := by
  rw [Bool.eq_iff_iff, beq_iff_eq, decide_eq_true_eq]
  constructor
  · intro h
    apply UInt8.toNat_inj.1
    have : (97 : UInt8).toNat = 97 := rfl
    omega
  · rintro rfl
    rfl
/-- One choice as a row. -/
theorem one_C {w : World} {g : Nat} {T : TypeId} {x : Ch} {A : Option Addr} {c : Nat} (h : w.heap[g]? = some (.cells (chCells x (.slice A (byN x.dt).length c)).toArray T (0, 0))) (hd : Dt w (fun _ => True) (.slice A (byN x.dt).length c) x.dt) : Kd.C kCh w (some ⟨g, 0, none⟩) 1 [x] := by
  refine ⟨rfl, by omega, fun _ => ⟨_, rfl, fun j p hp => ?_⟩⟩
  match j, hp with
  | 0, hp =>
    simp only [List.getElem?_cons_zero, Option.some.injEq] at hp
    subst hp
    obtain ⟨_, l3, g3⟩ := Kd.V_reads' hd
    refine ⟨_, by rfl, kCh_mk w x l3 g3, fun i u hu => ?_⟩
    rw [YtghllfihmmlcnaaDoorW.PrintWords.add_plain, Nat.zero_mul, Nat.zero_add]
    rw [blk_cell h i]
    simpa using hu
  | j + 1, hp => simp at hp

set_option maxHeartbeats 1000000 in
set_option maxRecDepth 100000 in
theorem walk0 (x : Ch) (A : Option Addr) (c : Nat) (nn : Int) (W : World) (hc : (byN x.dt).length ≤ c) (hC : (Kd.int .u8).C W A (byN x.dt).length (byN x.dt)) (hN : x.Num) (hn : 0 ≤ nn ∧ nn ≤ 255) (hE : Env W) :
    Calls Tryd.prog 4 #[.agg (chCells x (.slice A (byN x.dt).length c)).toArray, .int .u8 nn] W fun e W' => e = .returned (.bool true) ∧ Below W.heap.size W W' := by
  obtain ⟨w0, hw0⟩ : ∃ w0, W.alloc (.cells (chCells x (.slice A (byN x.dt).length c)).toArray 39) = w0 := ⟨_, rfl⟩
  have hbw : Below W.heap.size W w0 := by rw [← hw0]; exact (Below.refl _ _).alloc (Nat.le_refl _) _
  have hk0 : w0.heap[W.heap.size]? = some (.cells (chCells x (.slice A (byN x.dt).length c)).toArray 39 (0, 0)) := by rw [← hw0]; exact blk_new W _
  have hdt : HasD w0 (.slice A (byN x.dt).length c) x.dt := fun w' hb => ⟨A, c, rfl, hc, fun W' hW => Kd.Heap.C (Kd.heap_int .u8) (fun j hj => hW j trivial hj) (Kd.C_below (Kd.C_below hC hbw) hb)⟩
  have HE : Hid (Env w0) := hE.below hbw
  have HD := Lib.hid hdt; clear hdt
  have HBW := Lib.hid hbw; clear hbw
  have HK0 := Lib.hid hk0; clear hk0
  clear hE hC
  have HNm := Lib.hid hN; clear hN
  obtain ⟨R, hR⟩ : ∃ R, roomB [x] 1 = R := ⟨_, rfl⟩
  have HAw : Hid (∀ V, Below w0.heap.size w0 V → Calls Tryd.prog 8 #[] V fun e w' => e = .returned (.bool true) ∧ Below w0.heap.size w0 w') := fun V hV =>
    (awake_is V (HE.out.below hV)).mono fun e w' ⟨he, hb⟩ => ⟨he, hV.trans (hb.mono hV.size)⟩
  have HRm : Hid (∀ V, Below w0.heap.size w0 V → Calls Tryd.prog 9 #[.slice (some ⟨V.heap.size, 0, none⟩) 1 1, .int .i64 1] (V.alloc (.cells (chCells x (.slice A (byN x.dt).length c)).toArray 39)) fun e w' => e = .returned (.bool R) ∧ Below w0.heap.size w0 w') := fun V hV => by
    rw [← hR]
    have hV2 : Below w0.heap.size w0 (V.alloc (.cells (chCells x (.slice A (byN x.dt).length c)).toArray 39)) := hV.alloc hV.size _
    exact (room_is [x] 1 (some ⟨V.heap.size, 0, none⟩) 1 _ (Nat.le_refl _) (by decide) (one_C (blk_new V _) (HD.out _ hV2))).mono fun e w' ⟨he, hb⟩ => ⟨he, hV2.trans (hb.mono hV2.size)⟩
  have HSf : Hid (∀ V, Below w0.heap.size w0 V → V.heap[W.heap.size]? = some (.cells (chCells x (.slice A (byN x.dt).length c)).toArray 39 (0, 0))) := fun V hV => blk_below HK0.out hV
  have hb0 : Below w0.heap.size w0 w0 := Below.refl _ _
  unfold chCells at hw0
  cases R with
  | false =>
    unfold chCells
    go_enter Tryd.func4, Tryd.ntmps4
    go_wp2_with fail
    clear hw0
    refine (HAw.out _ hb0).mono ?_
    rintro e w1 ⟨rfl, hbw1⟩
    obtain ⟨x0, x1, x2, x3, x4, x5, x6, x7, x8, x9⟩ := ch_cells (HSf.out _ hbw1)
    go_wp2_with (go_at_call 9; refine (HRm.out _ hbw1).mono ?_; rintro e w2 ⟨rfl, hbw2⟩)
    go_ret
    exact ⟨rfl, HBW.out.trans (hbw2.mono HBW.out.size)⟩
  | true =>
    have hShort := ch_short hR
    have hsh : x.Short := hShort x (by simp)
    have hOk : x.Ok 3000 := ch_ok HNm.out hsh
    clear hR hShort
    have hok2 : x.Ok 20000 := hOk.mono (by omega)
    have hok6 : x.Ok 65536 := hOk.mono (by omega)
    have hdl : x.dt.length ≤ 1000000 := by have := hOk.dt; omega
    have HCh : Hid (∀ (a : Int) V, Below w0.heap.size w0 V → Calls Tryd.prog 13 #[.agg (chCells (withA x a) (.slice A (byN x.dt).length c)).toArray] V fun e w' => (∃ v, e = .returned (.agg (chCells (withA x a) v).toArray) ∧ Hid (HasD w' v x.dt)) ∧ Below w0.heap.size w0 w') := fun a V hV => by
      refine (choice8_is (withA x a) A c V hdl (HD.out V hV)).mono ?_
      rintro e w' ⟨⟨v, he, hd⟩, hb⟩
      exact ⟨⟨v, he, HasD.of hd⟩, hV.trans (hb.mono hV.size)⟩
    have HTx : Hid (∀ (a : Int) V v, -9223372036854775808 ≤ a ∧ a ≤ 9223372036854775807 → Below w0.heap.size w0 V → HasD V v x.dt → Calls Tryd.prog 12 #[.agg (chCells (withA x a) v).toArray] V fun e w' => e = .returned (.tuple #[.string (mkS ((textC (withA x a)).getD [])), .bool (textC (withA x a)).isSome]) ∧ Below w0.heap.size w0 w') := fun a V v ha hV hd =>
      (ptext2_is (withA x a) v V ⟨hok2.d, hok2.n, ha, hok2.fi, hok2.mo, hok2.bk, hok2.ky, hok2.dt, hok2.pf, hok2.fr⟩ hd.now (HE.out.below hV)).mono fun e w' ⟨he, hb⟩ => ⟨he, hV.trans (hb.mono hV.size)⟩
    obtain ⟨s, hs⟩ : ∃ s, (textC x).getD [] = s := ⟨_, rfl⟩
    obtain ⟨ok, hok⟩ : ∃ ok, (textC x).isSome = ok := ⟨_, rfl⟩
    have hax : withA x x.a = x := rfl
    have HC1 := Lib.hid (HCh.out x.a)
    have HT1 := Lib.hid (HTx.out x.a)
    rw [hax, hs, hok] at HT1
    rw [hax] at HC1
    have HRt : Hid (∀ V, Below w0.heap.size w0 V → Calls Tryd.prog 14 #[.agg (chCells x (.slice A (byN x.dt).length c)).toArray] V fun e w' => e = .returned (.tuple #[.string (mkS s), .bool ok]) ∧ Below w0.heap.size w0 w') := fun V hV => by
      rw [← hs, ← hok]
      exact (rtext_is x _ V hok6 (HD.out V hV)).mono fun e w' ⟨he, hb⟩ => ⟨he, hV.trans (hb.mono hV.size)⟩
    have hself : ((mkS s).toList == (mkS s).toList) = true := by simp
    have hselfn : ((mkS s).toList != (mkS s).toList) = false := by simp
    cases ok with
    | false =>
      have hs0 : s = [] := by
        cases ht : textC x with
        | none => rw [ht] at hs; exact hs.symm
        | some t => rw [ht] at hok; cases hok
      subst hs0
      have he0 : (mkS []).toList.isEmpty = true := by rw [isEmpty_mkS]; rfl
      clear hs hok hax
      unfold chCells
      go_enter Tryd.func4, Tryd.ntmps4
      go_wp2_with fail
      clear hw0
      refine (HAw.out _ hb0).mono ?_
      rintro e w1 ⟨rfl, hbw1⟩
      obtain ⟨x0, x1, x2, x3, x4, x5, x6, x7, x8, x9⟩ := ch_cells (HSf.out _ hbw1)
      go_wp2_with (go_at_call 9; refine (HRm.out _ hbw1).mono ?_; rintro e w2 ⟨rfl, hbw2⟩; obtain ⟨y0, y1, y2, y3, y4, y5, y6, y7, y8, y9⟩ := ch_cells (HSf.out _ hbw2))
      go_wp2_with (first
        | (go_at_call 13; refine (HC1.out _ hbw2).mono ?_; rintro e w3 ⟨⟨v3, rfl, HD3⟩, hbw3⟩)
        | (go_at_call 12; refine (HT1.out _ _ HNm.out.a hbw3 HD3.out).mono ?_; rintro e w4 ⟨rfl, hbw4⟩; obtain ⟨z0, z1, z2, z3, z4, z5, z6, z7, z8, z9⟩ := ch_cells (HSf.out _ hbw4))
        | (go_at_call 14; refine (HRt.out _ hbw4).mono ?_; rintro e w5 ⟨rfl, hbw5⟩))
      go_ret
      exact ⟨by first | rfl | exact congrArg (fun b => Ending.returned (.bool b)) he0, HBW.out.trans (hbw5.mono HBW.out.size)⟩
    | true =>
      have ht : textC x = some s := by
        cases ht : textC x with
        | none => rw [ht] at hok; cases hok
        | some t => rw [ht] at hs; rw [← hs]; rfl
      have htl := text_len x hok6 hsh s ht
      have hpr := print_one x s ht htl
      have h16 : ∀ n ∈ ([1, 1, 16, 7] : List Int), -9223372036854775808 ≤ n ∧ n ≤ 9223372036854775807 := by decide
      have hx6 : ∀ y ∈ [x], y.Ok 65536 := fun y hy => by rw [List.mem_singleton.1 hy]; exact hok6
      have hxs : ∀ y ∈ [x], y.Short := fun y hy => by rw [List.mem_singleton.1 hy]; exact hsh
      have hpp := parse_print 1 1 16 7 [x] h16 hx6 (by rw [hpr])
      have hpl := print_lines_len 1 1 16 7 [x] h16 hx6 hxs (by rw [hpr])
      rw [hpr] at hpp hpl
      have HPa : Hid (∀ V, Below w0.heap.size w0 V → Calls Tryd.prog 11 #[.string (mkS (textT s))] V fun e w' => (∃ g c' A4 c4, e = .returned (.tuple #[.agg #[.int .i64 1, .int .i64 1, .int .i64 16], .int .i64 7, .slice (some ⟨g, 0, none⟩) 1 c', .int .i64 0, .int .i64 0]) ∧ Hid (HasD w' (.slice A4 (byN x.dt).length c4) x.dt) ∧ Hid (g < w'.heap.size ∧ ∀ j u, (chCells x (.slice A4 (byN x.dt).length c4))[j]? = some u → w'.cell? ⟨g, j, none⟩ = some u)) ∧ Below w0.heap.size w0 w') := fun V hV => by
        refine (parse_is (textT s) V (by have := hpp.2; simp only at this; omega) hpl (HE.out.below hV)).mono ?_
        rintro e w' ⟨⟨k, m, b, o, v, rfl, hh, hN, _⟩, hb⟩
        rw [hpp.1] at hh hN ⊢
        obtain ⟨g, c', rfl, _, hg, _⟩ := Kd.N_form hN (Nat.one_pos)
        have hC := (Kd.N_reads' hN).2.2
        simp only [List.cons.injEq, and_true] at hh
        obtain ⟨rfl, rfl, rfl, rfl⟩ := hh
        obtain ⟨ad, A4, c4, hA, hd4, h1⟩ := at_Ch hC 0 (Nat.one_pos)
        injection hA with hA
        subst hA
        refine ⟨⟨g, c', A4, c4, rfl, HasD.of hd4, hg, fun j u hu => ?_⟩, hV.trans (hb.mono hV.size)⟩
        have := h1 j u hu
        rw [Nat.zero_mul, Nat.zero_add, YtghllfihmmlcnaaDoorW.PrintWords.add_plain] at this
        exact this
      have HBk : Hid (∀ V A4 c4, Below w0.heap.size w0 V → HasD V (.slice A4 (byN x.dt).length c4) x.dt → Calls Tryd.prog 16 #[.agg (chCells x (.slice A4 (byN x.dt).length c4)).toArray] V fun e w' => (∃ v, e = .returned (.agg (chCells x v).toArray) ∧ Hid (HasD w' v x.dt)) ∧ Below V.heap.size V w') := fun V A4 c4 hV hd => by
        refine (back8_is x A4 c4 V hdl hd.now).mono ?_
        rintro e w' ⟨⟨v, he, hd⟩, hb⟩
        exact ⟨⟨v, he, HasD.of hd⟩, hb⟩
      have HSm : Hid (∀ V v5, Below w0.heap.size w0 V → HasD V v5 x.dt → Calls Tryd.prog 15 #[.agg (chCells x v5).toArray, .agg (chCells x (.slice A (byN x.dt).length c)).toArray] V fun e w' => e = .returned (.bool true) ∧ Below V.heap.size V w') := fun V v5 hV hd => by
        refine (same_is x x v5 _ V hd.now (HD.out V hV)).mono ?_
        rintro e w' ⟨rfl, hb⟩
        exact ⟨by rw [decide_eq_true rfl], hb⟩
      obtain ⟨L, hL⟩ : ∃ L, (formC x.d).2.map letC = L := ⟨_, rfl⟩
      have HVb : Hid (∀ V, Below w0.heap.size w0 V → Calls Tryd.prog 17 #[.int .i64 x.d] V fun e w' => e = .returned (.tuple #[.string (mkS (formC x.d).1), .string (mkS L)]) ∧ Below w0.heap.size w0 w') := fun V hV => by
        rw [← hL]
        exact (PScriptPrints.strongboxref23_Verb.calls x.d _ _ V (verb_f x.d)).mono fun e w' ⟨he, hb⟩ => ⟨he, by obtain ⟨n, rfl⟩ := hb; exact hV.drewN n⟩
      have hm4 : decide (97 ∈ L) = decide (4 ∈ (formC x.d).2) := by
        rw [← hL]
        apply decide_eq_decide.2
        rw [List.mem_map]
        constructor
        · rintro ⟨f, hf, he⟩
          rw [← (letC_97 f (form_le x.d f hf)).1 he]; exact hf
        · intro h
          exact ⟨4, h, rfl⟩
      have hLl : L.length ≤ 5 := by rw [← hL, List.length_map]; exact (form_len x.d).1
      have HM4 := Lib.hid hm4; clear hm4
      have HTT := Lib.hid (textT_mkS s)
      have hzs : (mkS s).size ≤ 10000 := by rw [mkS_size]; exact htl
      have HTS := Lib.hid ht; clear ht
      clear hpp hpl hpr hs hok hax h16 hx6 hxs hL htl
      unfold chCells
      go_enter Tryd.func4, Tryd.ntmps4
      go_wp2_with fail
      clear hw0
      refine (HAw.out _ hb0).mono ?_
      rintro e w1 ⟨rfl, hbw1⟩
      obtain ⟨x0, x1, x2, x3, x4, x5, x6, x7, x8, x9⟩ := ch_cells (HSf.out _ hbw1)
      go_wp2_with (go_at_call 9; refine (HRm.out _ hbw1).mono ?_; rintro e w2 ⟨rfl, hbw2⟩; obtain ⟨y0, y1, y2, y3, y4, y5, y6, y7, y8, y9⟩ := ch_cells (HSf.out _ hbw2))
      clear x0 x1 x2 x3 x4 x5 x6 x7 x8 x9 HRm HAw
      go_wp2_with (first
        | (go_at_call 13; refine (HC1.out _ hbw2).mono ?_; rintro e w3 ⟨⟨v3, rfl, HD3⟩, hbw3⟩)
        | (go_at_call 12; refine (HT1.out _ _ HNm.out.a hbw3 HD3.out).mono ?_; rintro e w4 ⟨rfl, hbw4⟩; obtain ⟨z0, z1, z2, z3, z4, z5, z6, z7, z8, z9⟩ := ch_cells (HSf.out _ hbw4))
        | (go_at_call 14; refine (HRt.out _ hbw4).mono ?_; rintro e w5 ⟨rfl, hbw5⟩))
      clear y0 y1 y2 y3 y4 y5 y6 y7 y8 y9 z0 z1 z2 z3 z4 z5 z6 z7 z8 z9
      rw [HTT.out]
      refine (HPa.out _ hbw5).mono ?_
      rintro e w6 ⟨⟨g, c6, A4, c4, rfl, HD6, HG6⟩, hbw6⟩
      clear HPa HRt HC1 HT1
      go_wp2_with fail
      obtain ⟨W7, hW7⟩ : ∃ W7, w6.alloc (.cells #[.int .i64 1, .int .i64 1, .int .i64 16] 26) = W7 := ⟨_, rfl⟩
      have hb67 : Below w6.heap.size w6 W7 := by rw [← hW7]; exact (Below.refl _ _).alloc (Nat.le_refl _) _
      have hk7 : W7.heap[w6.heap.size]? = some (.cells #[.int .i64 1, .int .i64 1, .int .i64 16] 26 (0, 0)) := by rw [← hW7]; exact blk_new w6 _
      have hbw7 : Below w0.heap.size w0 W7 := hbw6.trans (hb67.mono hbw6.size)
      have HD7 : Hid (HasD W7 (.slice A4 (byN x.dt).length c4) x.dt) := HD6.out.below hb67
      have hSf7 : ∀ V, Below W7.heap.size W7 V → V.cell? ⟨w6.heap.size, 2, none⟩ = some (.int .i64 16) ∧ V.cell? ⟨g, 0, none⟩ = some (.int .i64 x.d) ∧ V.cell? ⟨g, 1, none⟩ = some (.string (mkS x.bk)) ∧ V.cell? ⟨g, 2, none⟩ = some (.string (mkS x.ky)) ∧ V.cell? ⟨g, 3, none⟩ = some (.slice A4 (byN x.dt).length c4) ∧ V.cell? ⟨g, 4, none⟩ = some (.int .i64 x.n) ∧ V.cell? ⟨g, 5, none⟩ = some (.int .i64 x.a) ∧ V.cell? ⟨g, 6, none⟩ = some (.string (mkS x.pf)) ∧ V.cell? ⟨g, 7, none⟩ = some (.string (mkS x.fr)) ∧ V.cell? ⟨g, 8, none⟩ = some (.int .i64 x.fi) ∧ V.cell? ⟨g, 9, none⟩ = some (.int .i64 x.mo) ∧ V.cell? ⟨W.heap.size, 0, none⟩ = some (.int .i64 x.d) ∧ V.cell? ⟨W.heap.size, 1, none⟩ = some (.string (mkS x.bk)) ∧ V.cell? ⟨W.heap.size, 2, none⟩ = some (.string (mkS x.ky)) ∧ V.cell? ⟨W.heap.size, 3, none⟩ = some (.slice A (byN x.dt).length c) ∧ V.cell? ⟨W.heap.size, 4, none⟩ = some (.int .i64 x.n) ∧ V.cell? ⟨W.heap.size, 5, none⟩ = some (.int .i64 x.a) ∧ V.cell? ⟨W.heap.size, 6, none⟩ = some (.string (mkS x.pf)) ∧ V.cell? ⟨W.heap.size, 7, none⟩ = some (.string (mkS x.fr)) ∧ V.cell? ⟨W.heap.size, 8, none⟩ = some (.int .i64 x.fi) ∧ V.cell? ⟨W.heap.size, 9, none⟩ = some (.int .i64 x.mo) := fun V hV => by
        have q2 := (blk_cell (blk_below hk7 hV) 2).trans (rfl : _ = some (Value.int .i64 16))
        have k1 : ∀ j u, (chCells x (.slice A4 (byN x.dt).length c4))[j]? = some u → V.cell? ⟨g, j, none⟩ = some u := fun j u hu => by
          have h1 := HG6.out.2 j u hu
          have hb := hb67.trans (hV.mono hb67.size)
          exact (hb.cell (p := ⟨g, j, none⟩) HG6.out.1).trans h1
        obtain ⟨x0, x1, x2, x3, x4, x5, x6, x7, x8, x9⟩ := ch_cells (HSf.out V (hbw7.trans (hV.mono hbw7.size)))
        exact ⟨q2, k1 0 _ rfl, k1 1 _ rfl, k1 2 _ rfl, k1 3 _ rfl, k1 4 _ rfl, k1 5 _ rfl, k1 6 _ rfl, k1 7 _ rfl, k1 8 _ rfl, k1 9 _ rfl, x0, x1, x2, x3, x4, x5, x6, x7, x8, x9⟩
      have HS7 := Lib.hid hSf7; clear hSf7
      have HB7 : Hid (∀ V, Below W7.heap.size W7 V → Calls Tryd.prog 16 #[.agg (chCells x (.slice A4 (byN x.dt).length c4)).toArray] V fun e w' => (∃ v, e = .returned (.agg (chCells x v).toArray) ∧ Hid (HasD w' v x.dt)) ∧ Below W7.heap.size W7 w') := fun V hV =>
        (HBk.out V A4 c4 (hbw7.trans (hV.mono hbw7.size)) (HD7.out.below hV)).mono fun e w' ⟨he, hb⟩ => ⟨he, hV.trans (hb.mono hV.size)⟩
      have HM7 : Hid (∀ V v5, Below W7.heap.size W7 V → HasD V v5 x.dt → Calls Tryd.prog 15 #[.agg (chCells x v5).toArray, .agg (chCells x (.slice A (byN x.dt).length c)).toArray] V fun e w' => e = .returned (.bool true) ∧ Below W7.heap.size W7 w') := fun V v5 hV hd =>
        (HSm.out V v5 (hbw7.trans (hV.mono hbw7.size)) hd).mono fun e w' ⟨he, hb⟩ => ⟨he, hV.trans (hb.mono hV.size)⟩
      have hB0 : Below W7.heap.size W7 W7.drew := (Below.refl _ _).drew
      rw [hW7]
      clear hW7 hb67 hk7 HBk HSm HG6 HD6 HD7
      go_region_held3 (fun V => V.cell? ⟨w6.heap.size, 2, none⟩ = some (.int .i64 16) ∧ V.cell? ⟨g, 0, none⟩ = some (.int .i64 x.d) ∧ V.cell? ⟨g, 1, none⟩ = some (.string (mkS x.bk)) ∧ V.cell? ⟨g, 2, none⟩ = some (.string (mkS x.ky)) ∧ V.cell? ⟨g, 3, none⟩ = some (.slice A4 (byN x.dt).length c4) ∧ V.cell? ⟨g, 4, none⟩ = some (.int .i64 x.n) ∧ V.cell? ⟨g, 5, none⟩ = some (.int .i64 x.a) ∧ V.cell? ⟨g, 6, none⟩ = some (.string (mkS x.pf)) ∧ V.cell? ⟨g, 7, none⟩ = some (.string (mkS x.fr)) ∧ V.cell? ⟨g, 8, none⟩ = some (.int .i64 x.fi) ∧ V.cell? ⟨g, 9, none⟩ = some (.int .i64 x.mo) ∧ V.cell? ⟨W.heap.size, 0, none⟩ = some (.int .i64 x.d) ∧ V.cell? ⟨W.heap.size, 1, none⟩ = some (.string (mkS x.bk)) ∧ V.cell? ⟨W.heap.size, 2, none⟩ = some (.string (mkS x.ky)) ∧ V.cell? ⟨W.heap.size, 3, none⟩ = some (.slice A (byN x.dt).length c) ∧ V.cell? ⟨W.heap.size, 4, none⟩ = some (.int .i64 x.n) ∧ V.cell? ⟨W.heap.size, 5, none⟩ = some (.int .i64 x.a) ∧ V.cell? ⟨W.heap.size, 6, none⟩ = some (.string (mkS x.pf)) ∧ V.cell? ⟨W.heap.size, 7, none⟩ = some (.string (mkS x.fr)) ∧ V.cell? ⟨W.heap.size, 8, none⟩ = some (.int .i64 x.fi) ∧ V.cell? ⟨W.heap.size, 9, none⟩ = some (.int .i64 x.mo)) (first | (with_reducible exact (HS7.out _ (by with_reducible assumption))) | go_keep)
        (first
          | (go_at_call 16; refine (HB7.out _ (by with_reducible assumption)).mono ?_; rintro e w8 ⟨⟨v8, rfl, HD8⟩, hbw8⟩)
          | (go_at_call 15; refine (HM7.out _ _ (by with_reducible assumption) HD8.out).mono ?_; rintro e w9 ⟨rfl, hbw9⟩))
      have hbw99 : Below w0.heap.size w0 w9 := hbw7.trans (hbw9.mono hbw7.size)
      rename_i hHeld
      clear hHeld HS7 HB7 HM7 HD8 hbw8 hB0 hbw9
      obtain ⟨x0, x1, x2, x3, x4, x5, x6, x7, x8, x9⟩ := ch_cells (HSf.out _ hbw99)
      go_wp2_with (go_at_call 17; refine (HVb.out _ hbw99).mono ?_; rintro e w10 ⟨rfl, hbw10⟩; obtain ⟨z0, z1, z2, z3, z4, z5, z6, z7, z8, z9⟩ := ch_cells (HSf.out _ hbw10))
      obtain ⟨W11, hW11⟩ : ∃ W11, w10.alloc (.cells (chCells x (.slice A (byN x.dt).length c)).toArray 39) = W11 := ⟨_, rfl⟩
      have hbw11 : Below w0.heap.size w0 W11 := by rw [← hW11]; exact hbw10.alloc hbw10.size _
      have hk11 : W11.heap[w10.heap.size]? = some (.cells (chCells x (.slice A (byN x.dt).length c)).toArray 39 (0, 0)) := by rw [← hW11]; exact blk_new w10 _
      have HK11 := Lib.hid hk11; clear hk11
      unfold chCells at hW11
      rw [hW11]
      have hg10 := hbw10.size
      clear hW11 x0 x1 x2 x3 x4 x5 x6 x7 x8 x9 z0 z1 z2 z3 z4 z5 z6 z7 z8 z9
      have hLz : ((mkS L).size : Int) = (L.length : Int) := by rw [mkS_size]
      have hLz2 : (mkS L).size ≤ 5 := by rw [mkS_size]; exact hLl
      go_loopw [17, 18] (fun vh vi wr => ∃ (j : Nat), vi = .int .i64 j ∧ j ≤ L.length ∧ vh = .bool (decide (97 ∈ L.take j)) ∧ wr = W11) (fun _ vi _ => L.length - (intOf vi).toNat)
      case atStart => exact ⟨0, rfl, Nat.zero_le _, rfl, rfl⟩
      case round =>
        obtain ⟨j, rfl, hj, rfl, rfl⟩ := hrel
        by_cases hlt : j < L.length
        · have hltz : (j : Int) < ((mkS L).size : Int) := by rw [mkS_size]; omega
          obtain ⟨B, hB⟩ : ∃ B, decide (97 ∈ L.take j) = B := ⟨_, rfl⟩
          rw [hB]
          cases B with
          | true =>
            have hnx : decide (97 ∈ L.take (j + 1)) = true := mem_take_true L j hlt hB
            clear hB
            go_wp2_with fail
            go_roundw
            case rel => exact ⟨j + 1, by go_num, by omega, by rw [hnx], by trivial⟩
            case measure => simp [intOf]; omega
          | false =>
            have hnx : decide (97 ∈ L.take (j + 1)) = decide (L[j] = 97) := mem_take_false L j hlt hB
            clear hB
            go_wp2_with fail
            go_roundw
            case rel => exact ⟨j + 1, by go_num, by omega, by rw [hnx]; exact congrArg Value.bool (byte_97 L[j]), by trivial⟩
            case measure => simp [intOf]; omega
        · obtain rfl : j = L.length := by omega
          rw [List.take_length]
          clear hj hlt
          obtain ⟨x0, x1, x2, x3, x4, x5, x6, x7, x8, x9⟩ := ch_cells HK11.out
          obtain ⟨z0, z1, z2, z3, z4, z5, z6, z7, z8, z9⟩ := ch_free HK11.out
          go_upto_region 22 with fail
          obtain ⟨a', ha'⟩ : ∃ a', wrap64 (wrap64 (x.a + 1) + nn) = a' := ⟨_, rfl⟩
          have hxa := HNm.out.a
          have hne : a' ≠ x.a := by rw [← ha']; unfold wrap64; omega
          have hrg : -9223372036854775808 ≤ a' ∧ a' ≤ 9223372036854775807 := by rw [← ha']; unfold wrap64; omega
          have htw := text_withA x a' (by rw [HTS.out]; rfl) hne
          rw [← HM4.out] at htw
          obtain ⟨B, hB⟩ : ∃ B, decide (97 ∈ L) = B := ⟨_, rfl⟩
          rw [hB] at htw
          have HT2 := Lib.hid (HTx.out a')
          rw [htw] at HT2
          obtain ⟨W12, hW12⟩ : ∃ W12, wr.setCell ⟨w10.heap.size, 5, none⟩ (.int .i64 a') = W12 := ⟨_, rfl⟩
          have h12 : W12.heap[w10.heap.size]? = some (.cells (chCells (withA x a') (.slice A (byN x.dt).length c)).toArray 39 (0, 0)) := by
            rw [← hW12]
            exact (blk_set HK11.out 5 (.int .i64 a')).trans (by simp [chCells, withA])
          have hbw12 : Below w0.heap.size w0 W12 := by rw [← hW12]; exact hbw11.setCell (p := ⟨w10.heap.size, 5, none⟩) hg10 _
          rw [ha', hW12, hB]
          clear hW12 ha' hne hxa htw hB x0 x1 x2 x3 x4 x5 x6 x7 x8 x9 z0 z1 z2 z3 z4 z5 z6 z7 z8 z9
          obtain ⟨x0, x1, x2, x3, x4, x5, x6, x7, x8, x9⟩ := ch_cells h12
          simp only [withA] at x0 x1 x2 x3 x4 x5 x6 x7 x8 x9
          cases B with
          | true =>
            go_wp2_with (first
              | (go_at_call 13; refine (HCh.out a' _ hbw12).mono ?_; rintro e w13 ⟨⟨v13, rfl, HD13⟩, hbw13⟩)
              | (go_at_call 12; refine (HT2.out _ _ hrg hbw13 HD13.out).mono ?_; rintro e w14 ⟨rfl, hbw14⟩))
            go_ret
            exact ⟨rfl, HBW.out.trans (hbw14.mono HBW.out.size)⟩
          | false =>
            go_wp2_with (first
              | (go_at_call 13; refine (HCh.out a' _ hbw12).mono ?_; rintro e w13 ⟨⟨v13, rfl, HD13⟩, hbw13⟩)
              | (go_at_call 12; refine (HT2.out _ _ hrg hbw13 HD13.out).mono ?_; rintro e w14 ⟨rfl, hbw14⟩))
            go_ret
            exact ⟨rfl, HBW.out.trans (hbw14.mono HBW.out.size)⟩

section
variable {H : Type} {enc : TypeId × Value → H}
set_option maxRecDepth 100000 in
theorem walk (v : Value) (d : DataW H) (ps : List MemPlace) {W : World} {base : Nat} (o : Value.okWide Tryd.prog W .any base 39 v) (h : DataW.Trod enc Tryd.prog W 0 (fun _ => true) true 39 v d ps) (a : Int) (wa : (Lit.int .u8 a).wf = true) (W0 : World) (hW : W0 = W) (hE : Env W0) :
    Calls Tryd.prog 4 #[v, .int .u8 a] W0 fun e W' => e = .returned (.bool true) ∧ Below W0.heap.size W0 W' := by
  subst hW
  obtain ⟨x, A, c, rfl, hc, hC, hN⟩ := open_choice o h
  exact walk0 x A c a W0 hc hC hN (wf_u8 wa) hE
end
theorem laid_met (os : Os) : laidMet Tryd.prog Rows.scriptTextsRow.laid ((laidWorld os).forCall (fun _ _ => 0) ⟨#[], #[.agg #[.int .i64 0, .string ⟨#[]⟩, .string ⟨#[]⟩, .slice none 0 0, .int .i64 0, .int .i64 0, .string ⟨#[]⟩, .string ⟨#[]⟩, .int .i64 0, .int .i64 0], .int .u8 0], []⟩).memory :=
  laidMet_of_run' 8 (by kernel_rfl) (by kernel_rfl)
theorem reads (os : Os) {H : Type} (enc : TypeId × Value → H) : ∃ places, DataW.whole enc Tryd.prog ((laidWorld os).forCall (fun _ _ => 0) ⟨#[], #[.agg #[.int .i64 0, .string ⟨#[]⟩, .string ⟨#[]⟩, .slice none 0 0, .int .i64 0, .int .i64 0, .string ⟨#[]⟩, .string ⟨#[]⟩, .int .i64 0, .int .i64 0], .int .u8 0], []⟩).memory Tryd.f4.params.toList Rows.scriptTextsSpec.vars false (#[.agg #[.int .i64 0, .string ⟨#[]⟩, .string ⟨#[]⟩, .slice none 0 0, .int .i64 0, .int .i64 0, .string ⟨#[]⟩, .string ⟨#[]⟩, .int .i64 0, .int .i64 0], .int .u8 0] : Array Value).toList 8 = some ([.agg [.lit (.int .i64 0), .lit (.string []), .lit (.string []), .nil, .lit (.int .i64 0), .lit (.int .i64 0), .agg [.lit (.string []), .lit (.string []), .lit (.int .i64 0), .lit (.int .i64 0)]], .lit (.int .u8 0)], [], places) :=
  ⟨[], by kernel_rfl⟩
theorem tabs_of {W : World} (h : laidMetH Tryd.prog Rows.scriptTextsRow.laid W) : Env W := env_of5 h
set_option maxRecDepth 100000 in
theorem lifted (os : Os) (started : os.Started) (H : Type) (enc : TypeId × Value → H) (F : Stop.Interp) :
    ReturnsInHanded {} Tryd.checked os 4 .any ((OpenSpec.ofChange Rows.scriptTextsSpec).preRow enc Tryd.prog Tryd.f4 Rows.scriptTextsRow.domain false Rows.scriptTextsRow.laid) (((OpenSpec.ofChange Rows.scriptTextsSpec).at F).post enc Tryd.prog Tryd.f4 false true false false) := by
  obtain ⟨places, hx⟩ := reads os enc
  refine returnsInHanded_of_row (C := Tryd.checked) (s := OpenSpec.ofChange Rows.scriptTextsSpec) own started (by kernel_rfl) Tryd.func4
    (witness_row_at (enc := enc) (C := Tryd.checked) false (laidWorld os) #[.agg #[.int .i64 0, .string ⟨#[]⟩, .string ⟨#[]⟩, .slice none 0 0, .int .i64 0, .int .i64 0, .string ⟨#[]⟩, .string ⟨#[]⟩, .int .i64 0, .int .i64 0], .int .u8 0] rfl (by kernel_rfl) (by kernel_rfl) (by kernel_rfl)
      (OpenSpec.preRow_of_cond 8 hx (by kernel_rfl) (fun k hk => by cases hk) (by kernel_rfl) (laid_met os))) ?_
  intro W base args ds gs before hval0 hW _ _ _ hL _ _
  have hval : ∀ (j : Nat) t v, Tryd.f4.params[j]? = some t → args[j]? = some v → Value.okWide Tryd.prog W .any base t v := hval0
  have hW' := hW
  obtain ⟨p, q, hA0, hV, rfl, hfz, hnd⟩ := hW
  have hA : DataW.TrodAll enc Tryd.prog W 0 (fun _ => true) true Tryd.f4.params.toList args.toList ds p := hA0
  rw [Tryd.params4] at hA hval
  obtain ⟨v0, vs0, d0, ds0, p0, q0, hargs, rfl, rfl, h0, r0⟩ := trodAll_cons hA
  obtain ⟨v1, vs1, d1, ds1, p1, q1, rfl, rfl, rfl, h1, r1⟩ := trodAll_cons r0
  obtain ⟨rfl, rfl, rfl⟩ := trodAll_nil r1
  obtain rfl : args = #[v0, v1] := by cases args; simp_all
  obtain ⟨rfl, rfl⟩ := trodVars_none hV
  have o0 := hval 0 39 v0 rfl rfl
  obtain ⟨a1, rfl, rfl, rfl, w1⟩ := open_int Tryd.underlying5 (hval 1 5 v1 rfl rfl) h1
  clear hA0 hval0
  simp only [List.append_nil] at hW'
  refine (walk v0 d0 p0 o0 h0 a1 w1 W rfl (tabs_of hL)).mono fun e W' ⟨he, hg⟩ => ?_
  subst he
  exact ⟨_, rfl, law_post (s := Rows.scriptTextsSpec) laidOut (of_decide_eq_true (by kernel_rfl)) Tryd.underlying4 rfl rfl rfl rfl rfl hW' hg⟩

theorem said : Rows.ScriptTextsSaid :=
  OpenClaim.holds_of_cond 4 Tryd.f4 rfl rfl rfl rfl rfl rfl rfl ⟨rfl, rfl, rfl, rfl, rfl⟩ rfl rfl rfl rfl rfl (by kernel_rfl) Tryd.func4 (by kernel_rfl)
    (of_decide_eq_true (by kernel_rfl)) (by unfold Func.isWrapper; first | (rw [if_pos (by decide +kernel)]; kernel_rfl) | (rw [if_neg (by decide +kernel)]; exact ⟨rfl, rfl⟩))
    (fun os started H enc _ F => by rw [OpenClaim.pre_eq_preRow]; exact lifted os started H enc F)
theorem plain (f : FuncId) (fn : Func) (hf : Tryd.pinned.checked.prog.funcNamed "strongbox/strongboxlaw24.ScriptTexts" = some f) (hfn : Tryd.pinned.checked.prog.funcs[f]? = some fn) :
    true = Tryd.pinned.checked.prog.looks [] ∧ ∀ (j : Nat) t, fn.params[j]? = some t → Tryd.pinned.checked.prog.wantsStandIn t = false := by
  obtain rfl : f = 4 := Option.some.inj ((show Tryd.prog.funcNamed "strongbox/strongboxlaw24.ScriptTexts" = some 4 by kernel_rfl).symm.trans hf) |>.symm
  obtain rfl : fn = Tryd.f4 := (Option.some.inj (Tryd.func4.symm.trans hfn)).symm
  refine ⟨by kernel_rfl, fun j t ht => ?_⟩
  rw [Tryd.params4] at ht
  have hm := Array.mem_of_getElem? ht
  simp only [List.mem_toArray, List.mem_cons, List.not_mem_nil, or_false] at hm
  rcases hm with rfl | rfl
  · exact (show Tryd.prog.wantsStandIn 39 = false by kernel_rfl)
  · exact (show Tryd.prog.wantsStandIn 5 = false by kernel_rfl)

/-- ████ THE CARD ████ -/
theorem proved : Rows.ScriptTextsCardSaid :=
  Claim7.holds_tied_plain_at .later [] _ _ _ _ said (fun _ h => by cases h) (by kernel_rfl) (fun _ h => by cases h) scriptTexts_row_tie rfl ⟨rfl, rfl⟩ (by kernel_rfl) rfl plain (by kernel_rfl)
#print axioms proved
end Go.Proofs.YtghllfihmmlcnaaDoor.scriptTexts
