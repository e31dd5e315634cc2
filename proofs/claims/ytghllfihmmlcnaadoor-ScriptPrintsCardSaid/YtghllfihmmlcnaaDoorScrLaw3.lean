/- ScriptPrints: any array, any choices: their text, or that they may not be. -/
import Derived.Test.YtghllfihmmlcnaaDoorScrMF
import Derived.Test.YtghllfihmmlcnaaDoorScrRP
import Derived.Test.YtghllfihmmlcnaaDoorCards
import Derived.Test.YtghllfihmmlcnaaDoorTie
import Derived.Deep.DeepHandedRow
import Derived.Lib.LaidIn
namespace Go.Proofs.YtghllfihmmlcnaaDoor.scriptPrints
open Go.ChangeShapes Go.WideShapes Go.ChangeAt Go.RowKit Nam YtghllfihmmlcnaaDoorW.PrintWords

set_option maxHeartbeats 1000000 in
set_option maxRecDepth 100000 in
theorem walk0 (k m b o : Int) (hh : ∀ n ∈ [k, m, b, o], -9223372036854775808 ≤ n ∧ n ≤ 9223372036854775807) (l : List Ch) (A : Option Addr) (c : Nat) (W : World) (hc : l.length ≤ c) (hC : Kd.C kCh W A l.length l) (hN : ∀ x ∈ l, x.Num) (hE : Env W) :
    Calls Tryd.prog 5 #[.agg #[.int .i64 k, .int .i64 m, .int .i64 b], .int .i64 o, .slice A l.length c] W fun e W' => e = .returned (.bool true) ∧ Below W.heap.size W W' := by
  obtain ⟨w0, hw0⟩ : ∃ w0, W.alloc (.cells #[.int .i64 k, .int .i64 m, .int .i64 b] 26) = w0 := ⟨_, rfl⟩
  have hbw : Below W.heap.size W w0 := by rw [← hw0]; exact (Below.refl _ _).alloc (Nat.le_refl _) _
  have hk0 : w0.heap[W.heap.size]? = some (.cells #[.int .i64 k, .int .i64 m, .int .i64 b] 26 (0, 0)) := by rw [← hw0]; exact blk_new W _
  have HE : Hid (Env w0) := hE.below hbw
  clear hE
  have HH := Lib.hid hh; clear hh
  have HC : Hid (HasC w0 A l) := (HasC.of hC).below hbw
  clear hC
  have HBW := Lib.hid hbw; clear hbw
  have HK0 := Lib.hid hk0; clear hk0
  have HNm := Lib.hid hN; clear hN
  have HAw : Hid (∀ V, Below w0.heap.size w0 V → Calls Tryd.prog 8 #[] V fun e w' => e = .returned (.bool true) ∧ Below w0.heap.size w0 w') := fun V hV =>
    (awake_is V (HE.out.below hV)).mono fun e w' ⟨he, hb⟩ => ⟨he, hV.trans (hb.mono hV.size)⟩
  obtain ⟨R, hR⟩ : ∃ R, roomB l 60 = R := ⟨_, rfl⟩
  have HRm : Hid (∀ V, Below w0.heap.size w0 V → Calls Tryd.prog 9 #[.slice A l.length c, .int .i64 60] V fun e w' => e = .returned (.bool R) ∧ Below w0.heap.size w0 w') := fun V hV => by
    rw [← hR]
    exact (room_is l 60 A c V hc (by decide) (HC.out V hV)).mono fun e w' ⟨he, hb⟩ => ⟨he, hV.trans (hb.mono hV.size)⟩
  have HSf : Hid (∀ V, Below w0.heap.size w0 V → V.cell? ⟨W.heap.size, 0, none⟩ = some (.int .i64 k) ∧ V.cell? ⟨W.heap.size, 1, none⟩ = some (.int .i64 m) ∧ V.cell? ⟨W.heap.size, 2, none⟩ = some (.int .i64 b)) := fun V hV =>
    ⟨(blk_cell (blk_below HK0.out hV) 0).trans rfl, (blk_cell (blk_below HK0.out hV) 1).trans rfl, (blk_cell (blk_below HK0.out hV) 2).trans rfl⟩
  have hb0 : Below w0.heap.size w0 w0 := Below.refl _ _
  obtain ⟨n, hn⟩ : ∃ n, l.length = n := ⟨_, rfl⟩
  rw [hn] at HRm hc ⊢
  cases R with
  | false =>
    go_enter Tryd.func5, Tryd.ntmps5
    go_wp2_with fail
    refine (HAw.out _ hb0).mono ?_
    rintro e w1 ⟨rfl, hbw1⟩
    go_wp2_with (go_at_call 9; refine (HRm.out _ hbw1).mono ?_; rintro e w2 ⟨rfl, hbw2⟩)
    go_ret
    exact ⟨rfl, HBW.out.trans (hbw2.mono HBW.out.size)⟩
  | true =>
    have hShort := ch_short hR
    have hl60 := (roomB_ok hR).1
    rw [hn] at hl60
    have hOk : ∀ x ∈ l, x.Ok 3000 := fun x hx => ch_ok (HNm.out x hx) (hShort x hx)
    clear hR
    have HCh : Hid (∀ V, Below w0.heap.size w0 V → Calls Tryd.prog 19 #[.slice A n c] V fun e w' => (∃ B c', e = .returned (.slice B n c') ∧ Hid (HasC w' B l)) ∧ Below w0.heap.size w0 w') := fun V hV => by
      subst hn
      refine (choices_is l A c V (by omega) (fun x hx => by have := (hOk x hx).dt; omega) (HC.out V hV)).mono ?_
      rintro e w' ⟨⟨v, rfl, hv⟩, hb⟩
      obtain ⟨B, c', rfl, _, hB⟩ := Kd.N_reads hv
      exact ⟨⟨B, c', rfl, HasC.of hB⟩, hV.trans (hb.mono hV.size)⟩
    obtain ⟨ps, hps⟩ : ∃ ps, (printC [k, m, b, o] l).1 = ps := ⟨_, rfl⟩
    obtain ⟨pe, hpe⟩ : ∃ pe, (printC [k, m, b, o] l).2 = pe := ⟨_, rfl⟩
    have HPr : Hid (∀ V B c', Below w0.heap.size w0 V → HasC V B l → Calls Tryd.prog 18 #[.agg #[.int .i64 k, .int .i64 m, .int .i64 b], .int .i64 o, .slice B n c'] V fun e w' => e = .returned (.tuple #[.string (mkS ps), .int .i64 pe]) ∧ Below w0.heap.size w0 w') := fun V B c' hV hB => by
      subst hn; subst hps; subst hpe
      exact (print_is k m b o l B c' V HH.out (by omega) (fun x hx => (hOk x hx).mono (by omega)) hB.now (HE.out.below hV)).mono fun e w' ⟨he, hb⟩ => ⟨he, hV.trans (hb.mono hV.size)⟩
    have HRp : Hid (∀ V, Below w0.heap.size w0 V → Calls Tryd.prog 10 #[.agg #[.int .i64 k, .int .i64 m, .int .i64 b], .int .i64 o, .slice A n c] V fun e w' => e = .returned (.tuple #[.string (mkS ps), .int .i64 pe]) ∧ Below w0.heap.size w0 w') := fun V hV => by
      subst hn; subst hps; subst hpe
      exact (rprint_is k m b o l A c V HH.out (by omega) (fun x hx => (hOk x hx).mono (by omega)) (HC.out V hV)).mono fun e w' ⟨he, hb⟩ => ⟨he, hV.trans (hb.mono hV.size)⟩
    have HC8 : Hid (∀ x ∈ l, ∀ A3 c3 V, Below w0.heap.size w0 V → HasD V (.slice A3 (byN x.dt).length c3) x.dt → Calls Tryd.prog 13 #[.agg (chCells x (.slice A3 (byN x.dt).length c3)).toArray] V fun e w' => (∃ v, e = .returned (.agg (chCells x v).toArray) ∧ Hid (HasD w' v x.dt)) ∧ Below V.heap.size V w') := fun x hx A3 c3 V hV hd => by
      refine (choice8_is x A3 c3 V (by have := (hOk x hx).dt; omega) hd.now).mono ?_
      rintro e w' ⟨⟨v, he, hd⟩, hb⟩
      exact ⟨⟨v, he, HasD.of hd⟩, hb⟩
    have HT8 : Hid (∀ x ∈ l, ∀ v V, Below w0.heap.size w0 V → HasD V v x.dt → Calls Tryd.prog 12 #[.agg (chCells x v).toArray] V fun e w' => e = .returned (.tuple #[.string (mkS ((textC x).getD [])), .bool (textC x).isSome]) ∧ Below V.heap.size V w') := fun x hx v V hV hd =>
      (ptext2_is x v V ((hOk x hx).mono (by omega)) hd.now (HE.out.below hV)).mono fun e w' ⟨he, hb⟩ => ⟨he, hb⟩
    have HR8 : Hid (∀ x ∈ l, ∀ v V, Below w0.heap.size w0 V → HasD V v x.dt → Calls Tryd.prog 14 #[.agg (chCells x v).toArray] V fun e w' => e = .returned (.tuple #[.string (mkS ((textC x).getD [])), .bool (textC x).isSome]) ∧ Below V.heap.size V w') := fun x hx v V hV hd =>
      (rtext_is x v V ((hOk x hx).mono (by omega)) hd.now).mono fun e w' ⟨he, hb⟩ => ⟨he, hb⟩
    have HN2 := Lib.hid hn
    clear hOk hShort hn hps hpe
    go_enter Tryd.func5, Tryd.ntmps5
    go_wp2_with fail
    clear hw0
    refine (HAw.out _ hb0).mono ?_
    rintro e w1 ⟨rfl, hbw1⟩
    go_wp2_with (go_at_call 9; refine (HRm.out _ hbw1).mono ?_; rintro e w2 ⟨rfl, hbw2⟩)
    have hB0 : Below w0.heap.size w0 w2.drew := hbw2.drew
    go_region_held3 (fun V => V.cell? ⟨W.heap.size, 0, none⟩ = some (.int .i64 k) ∧ V.cell? ⟨W.heap.size, 1, none⟩ = some (.int .i64 m) ∧ V.cell? ⟨W.heap.size, 2, none⟩ = some (.int .i64 b))
      (first | (with_reducible exact (HSf.out _ (by with_reducible assumption))) | go_keep)
      (first
        | (go_at_call 19; refine (HCh.out _ (by with_reducible assumption)).mono ?_; rintro e w3 ⟨⟨B1, c1, rfl, HC1⟩, hbw3⟩)
        | (go_at_call 18; refine (HPr.out _ B1 c1 (by with_reducible assumption) HC1.out).mono ?_; rintro e w4 ⟨rfl, hbw4⟩))
    rename_i hHeld
    clear hHeld
    obtain ⟨x0, x1, x2⟩ := HSf.out _ hbw4
    go_wp2_with (go_at_call 10; refine (HRp.out _ hbw4).mono ?_; rintro e w5 ⟨rfl, hbw5⟩)
    have HB5 := Lib.hid hbw5
    clear HCh HPr HRp HAw HRm HC1 hbw1 hbw2 hbw3 hbw4 hbw5 hB0 x0 x1 x2
    go_loopw [11, 12] (fun vk vi wr => ∃ (j : Nat), vk = .bool true ∧ vi = .int .i64 j ∧ j ≤ n ∧ Hid (Below w0.heap.size w0 wr)) (fun _ vi _ => n - (intOf vi).toNat)
    case atStart => exact ⟨0, rfl, rfl, Nat.zero_le _, HB5⟩
    case round =>
      obtain ⟨j, rfl, rfl, hj, HS⟩ := hrel
      by_cases hlt : j < n
      · have hltz : (j : Int) < (n : Int) := by omega
        have hlL : j < l.length := by rw [HN2.out]; exact hlt
        obtain ⟨ad, A3, c3_, hA, hdt, hcell⟩ := at_Ch (HC.out _ HS.out) j hlL
        subst hA
        obtain ⟨x, hx⟩ : ∃ x, l[j] = x := ⟨_, rfl⟩
        rw [hx] at hdt hcell
        have hmem : x ∈ l := by rw [← hx]; exact List.getElem_mem _
        have hSf : ∀ V, Below wr.heap.size wr V → V.cell? (ad.add (j * 10)) = some (.int .i64 x.d) ∧ V.cell? ⟨(ad.add (j * 10)).block, (ad.add (j * 10)).off + 1, none⟩ = some (.string (mkS x.bk)) ∧ V.cell? ⟨(ad.add (j * 10)).block, (ad.add (j * 10)).off + 2, none⟩ = some (.string (mkS x.ky)) ∧ V.cell? ⟨(ad.add (j * 10)).block, (ad.add (j * 10)).off + 3, none⟩ = some (.slice A3 (byN x.dt).length c3_) ∧ V.cell? ⟨(ad.add (j * 10)).block, (ad.add (j * 10)).off + 4, none⟩ = some (.int .i64 x.n) ∧ V.cell? ⟨(ad.add (j * 10)).block, (ad.add (j * 10)).off + 5, none⟩ = some (.int .i64 x.a) ∧ V.cell? ⟨(ad.add (j * 10)).block, (ad.add (j * 10)).off + 6, none⟩ = some (.string (mkS x.pf)) ∧ V.cell? ⟨(ad.add (j * 10)).block, (ad.add (j * 10)).off + 7, none⟩ = some (.string (mkS x.fr)) ∧ V.cell? ⟨(ad.add (j * 10)).block, (ad.add (j * 10)).off + 8, none⟩ = some (.int .i64 x.fi) ∧ V.cell? ⟨(ad.add (j * 10)).block, (ad.add (j * 10)).off + 9, none⟩ = some (.int .i64 x.mo) := fun V hV => by
          have key : ∀ p u, wr.cell? p = some u → V.cell? p = some u := fun p u h => (hV.cell (World.block_lt_of_cell? wr _ h)).trans h
          have cf : ∀ i u, (chCells x (.slice A3 (byN x.dt).length c3_))[i + 1]? = some u → V.cell? ⟨(ad.add (j * 10)).block, (ad.add (j * 10)).off + (i + 1), none⟩ = some u := fun i u hu => by
            rw [← add_field _ _ (i + 1) (by omega)]; exact key _ _ (hcell (i + 1) u hu)
          exact ⟨key _ _ (hcell 0 _ rfl), cf 0 _ rfl, cf 1 _ rfl, cf 2 _ rfl, cf 3 _ rfl, cf 4 _ rfl, cf 5 _ rfl, cf 6 _ rfl, cf 7 _ rfl, cf 8 _ rfl⟩
        have HSF := Lib.hid hSf; clear hSf
        have hb0r : Below wr.heap.size wr wr := Below.refl _ _
        have HD0 : Hid (HasD wr (.slice A3 (byN x.dt).length c3_) x.dt) := HasD.of hdt
        have HC9 := Lib.hid (HC8.out x hmem A3 c3_ wr HS.out HD0.out)
        have HT9 : Hid (∀ v V, Below wr.heap.size wr V → HasD V v x.dt → Calls Tryd.prog 12 #[.agg (chCells x v).toArray] V fun e w' => e = .returned (.tuple #[.string (mkS ((textC x).getD [])), .bool (textC x).isSome]) ∧ Below wr.heap.size wr w') := fun v V hV hd =>
          (HT8.out x hmem v V (HS.out.trans (hV.mono HS.out.size)) hd).mono fun e w' ⟨he, hb⟩ => ⟨he, hV.trans (hb.mono hV.size)⟩
        have HR9 : Hid (∀ V, Below wr.heap.size wr V → Calls Tryd.prog 14 #[.agg (chCells x (.slice A3 (byN x.dt).length c3_)).toArray] V fun e w' => e = .returned (.tuple #[.string (mkS ((textC x).getD [])), .bool (textC x).isSome]) ∧ Below wr.heap.size wr w') := fun V hV =>
          (HR8.out x hmem _ V (HS.out.trans (hV.mono HS.out.size)) (HD0.out.below hV)).mono fun e w' ⟨he, hb⟩ => ⟨he, hV.trans (hb.mono hV.size)⟩
        obtain ⟨tt, htt⟩ : ∃ tt, (textC x).getD [] = tt := ⟨_, rfl⟩
        obtain ⟨tb, htb⟩ : ∃ tb, (textC x).isSome = tb := ⟨_, rfl⟩
        rw [htt, htb] at HT9 HR9
        clear hcell hx hlL hdt htt htb
        obtain ⟨c0, c1, c2, c3, c4, c5, c6, c7, c8, c9⟩ := HSF.out _ hb0r
        have hself : ((mkS tt).toList == (mkS tt).toList) = true := by simp
        cases tb with
        | true =>
          go_wp2_with (first
            | (go_at_call 13; refine (HC9.out).mono ?_; rintro e w13 ⟨⟨v13, rfl, HD13⟩, hbw13⟩)
            | (go_at_call 12; refine (HT9.out _ _ hbw13 HD13.out).mono ?_; rintro e w14 ⟨rfl, hbw14⟩; obtain ⟨d0, d1, d2, d3, d4, d5, d6, d7, d8, d9⟩ := HSF.out _ hbw14)
            | (go_at_call 14; refine (HR9.out _ hbw14).mono ?_; rintro e w15 ⟨rfl, hbw15⟩))
          have HS2 : Hid (Below w0.heap.size w0 w15) := HS.out.trans (hbw15.mono HS.out.size)
          go_roundw
          case rel => exact ⟨j + 1, rfl, by go_num, by omega, HS2⟩
          case measure => simp [intOf]; omega
        | false =>
          go_wp2_with (first
            | (go_at_call 13; refine (HC9.out).mono ?_; rintro e w13 ⟨⟨v13, rfl, HD13⟩, hbw13⟩)
            | (go_at_call 12; refine (HT9.out _ _ hbw13 HD13.out).mono ?_; rintro e w14 ⟨rfl, hbw14⟩; obtain ⟨d0, d1, d2, d3, d4, d5, d6, d7, d8, d9⟩ := HSF.out _ hbw14)
            | (go_at_call 14; refine (HR9.out _ hbw14).mono ?_; rintro e w15 ⟨rfl, hbw15⟩))
          have HS2 : Hid (Below w0.heap.size w0 w15) := HS.out.trans (hbw15.mono HS.out.size)
          go_roundw
          case rel => exact ⟨j + 1, rfl, by go_num, by omega, HS2⟩
          case measure => simp [intOf]; omega
      · obtain rfl : j = n := by omega
        have hself : ((mkS ps).toList == (mkS ps).toList) = true := by simp
        clear hlt hj
        go_wp2_with fail
        go_ret
        exact ⟨rfl, HBW.out.trans (HS.out.mono HBW.out.size)⟩

section
variable {H : Type} {enc : TypeId × Value → H}
set_option maxRecDepth 100000 in
theorem walk (v : Value) (d : DataW H) (ps : List MemPlace) {W : World} {base base' : Nat} (o : Value.okWide Tryd.prog W .any base 26 v) (h : DataW.Trod enc Tryd.prog W 0 (fun _ => true) true 26 v d ps) (a : Int) (wa : (Lit.int .i64 a).wf = true)
    (u : Value) (d' : DataW H) (ps' : List MemPlace) (o' : Value.okWide Tryd.prog W .any base' 22 u) (h' : DataW.Trod enc Tryd.prog W 0 (fun _ => true) true 22 u d' ps') (W0 : World) (hW : W0 = W) (hE : Env W0) :
    Calls Tryd.prog 5 #[v, .int .i64 a, u] W0 fun e W' => e = .returned (.bool true) ∧ Below W0.heap.size W0 W' := by
  subst hW
  obtain ⟨k, m, b, rfl, hr⟩ := open_shape o h
  obtain ⟨l, A, c, rfl, hc, hC, hN⟩ := open_chs o' h'
  refine walk0 k m b a (fun n hn => ?_) l A c W0 hc hC hN hE
  simp only [List.mem_cons, List.not_mem_nil, or_false] at hn hr
  rcases hn with hn | hn | hn | hn
  · exact hr n (.inl hn)
  · exact hr n (.inr (.inl hn))
  · exact hr n (.inr (.inr hn))
  · subst hn; exact wf_i64 wa
end
theorem laid_met (os : Os) : laidMet Tryd.prog Rows.scriptPrintsRow.laid ((laidWorld os).forCall (fun _ _ => 0) ⟨#[], #[.agg #[.int .i64 0, .int .i64 0, .int .i64 0], .int .i64 0, .slice none 0 0], []⟩).memory :=
  laidMet_of_run' 8 (by kernel_rfl) (by kernel_rfl)
theorem reads (os : Os) {H : Type} (enc : TypeId × Value → H) : ∃ places, DataW.whole enc Tryd.prog ((laidWorld os).forCall (fun _ _ => 0) ⟨#[], #[.agg #[.int .i64 0, .int .i64 0, .int .i64 0], .int .i64 0, .slice none 0 0], []⟩).memory Tryd.f5.params.toList Rows.scriptPrintsSpec.vars false (#[.agg #[.int .i64 0, .int .i64 0, .int .i64 0], .int .i64 0, .slice none 0 0] : Array Value).toList 8 = some ([.agg [.lit (.int .i64 0), .lit (.int .i64 0), .lit (.int .i64 0)], .lit (.int .i64 0), .nil], [], places) :=
  ⟨[], by kernel_rfl⟩
theorem tabs_of {W : World} (h : laidMetH Tryd.prog Rows.scriptPrintsRow.laid W) : Env W := env_of5 h
set_option maxRecDepth 100000 in
theorem lifted (os : Os) (started : os.Started) (H : Type) (enc : TypeId × Value → H) (F : Stop.Interp) :
    ReturnsInHanded {} Tryd.checked os 5 .any ((OpenSpec.ofChange Rows.scriptPrintsSpec).preRow enc Tryd.prog Tryd.f5 Rows.scriptPrintsRow.domain false Rows.scriptPrintsRow.laid) (((OpenSpec.ofChange Rows.scriptPrintsSpec).at F).post enc Tryd.prog Tryd.f5 false true false false) := by
  obtain ⟨places, hx⟩ := reads os enc
  refine returnsInHanded_of_row (C := Tryd.checked) (s := OpenSpec.ofChange Rows.scriptPrintsSpec) own started (by kernel_rfl) Tryd.func5
    (witness_row_at (enc := enc) (C := Tryd.checked) false (laidWorld os) #[.agg #[.int .i64 0, .int .i64 0, .int .i64 0], .int .i64 0, .slice none 0 0] rfl (by kernel_rfl) (by kernel_rfl) (by kernel_rfl)
      (OpenSpec.preRow_of_cond 8 hx (by kernel_rfl) (fun k hk => by cases hk) (by kernel_rfl) (laid_met os))) ?_
  intro W base args ds gs before hval0 hW _ _ _ hL _ _
  have hval : ∀ (j : Nat) t v, Tryd.f5.params[j]? = some t → args[j]? = some v → Value.okWide Tryd.prog W .any base t v := hval0
  have hW' := hW
  obtain ⟨p, q, hA0, hV, rfl, hfz, hnd⟩ := hW
  have hA : DataW.TrodAll enc Tryd.prog W 0 (fun _ => true) true Tryd.f5.params.toList args.toList ds p := hA0
  rw [Tryd.params5] at hA hval
  obtain ⟨v0, vs0, d0, ds0, p0, q0, hargs, rfl, rfl, h0, r0⟩ := trodAll_cons hA
  obtain ⟨v1, vs1, d1, ds1, p1, q1, rfl, rfl, rfl, h1, r1⟩ := trodAll_cons r0
  obtain ⟨v2, vs2, d2, ds2, p2, q2, rfl, rfl, rfl, h2, r2⟩ := trodAll_cons r1
  obtain ⟨rfl, rfl, rfl⟩ := trodAll_nil r2
  obtain rfl : args = #[v0, v1, v2] := by cases args; simp_all
  obtain ⟨rfl, rfl⟩ := trodVars_none hV
  have o0 := hval 0 26 v0 rfl rfl
  obtain ⟨a1, rfl, rfl, rfl, w1⟩ := open_int Tryd.underlying3 (hval 1 3 v1 rfl rfl) h1
  have o2 := hval 2 22 v2 rfl rfl
  clear hA0 hval0
  simp only [List.append_nil] at hW'
  refine (walk v0 d0 p0 o0 h0 a1 w1 v2 d2 p2 o2 h2 W rfl (tabs_of hL)).mono fun e W' ⟨he, hg⟩ => ?_
  subst he
  exact ⟨_, rfl, law_post (s := Rows.scriptPrintsSpec) laidOut (of_decide_eq_true (by kernel_rfl)) Tryd.underlying4 rfl rfl rfl rfl rfl hW' hg⟩

theorem said : Rows.ScriptPrintsSaid :=
  OpenClaim.holds_of_cond 5 Tryd.f5 rfl rfl rfl rfl rfl rfl rfl ⟨rfl, rfl, rfl, rfl, rfl⟩ rfl rfl rfl rfl rfl (by kernel_rfl) Tryd.func5 (by kernel_rfl)
    (of_decide_eq_true (by kernel_rfl)) (by unfold Func.isWrapper; first | (rw [if_pos (by decide +kernel)]; kernel_rfl) | (rw [if_neg (by decide +kernel)]; exact ⟨rfl, rfl⟩))
    (fun os started H enc _ F => by rw [OpenClaim.pre_eq_preRow]; exact lifted os started H enc F)
theorem plain (f : FuncId) (fn : Func) (hf : Tryd.pinned.checked.prog.funcNamed "strongbox/strongboxlaw24.ScriptPrints" = some f) (hfn : Tryd.pinned.checked.prog.funcs[f]? = some fn) :
    true = Tryd.pinned.checked.prog.looks [] ∧ ∀ (j : Nat) t, fn.params[j]? = some t → Tryd.pinned.checked.prog.wantsStandIn t = false := by
  obtain rfl : f = 5 := Option.some.inj ((show Tryd.prog.funcNamed "strongbox/strongboxlaw24.ScriptPrints" = some 5 by kernel_rfl).symm.trans hf) |>.symm
  obtain rfl : fn = Tryd.f5 := (Option.some.inj (Tryd.func5.symm.trans hfn)).symm
  refine ⟨by kernel_rfl, fun j t ht => ?_⟩
  rw [Tryd.params5] at ht
  have hm := Array.mem_of_getElem? ht
  simp only [List.mem_toArray, List.mem_cons, List.not_mem_nil, or_false] at hm
  rcases hm with rfl | rfl | rfl
  · exact (show Tryd.prog.wantsStandIn 26 = false by kernel_rfl)
  · exact (show Tryd.prog.wantsStandIn 3 = false by kernel_rfl)
  · exact (show Tryd.prog.wantsStandIn 22 = false by kernel_rfl)

/-- ████ THE CARD ████ -/
theorem proved : Rows.ScriptPrintsCardSaid :=
  Claim7.holds_tied_plain_at .later [] _ _ _ _ said (fun _ h => by cases h) (by kernel_rfl) (fun _ h => by cases h) scriptPrints_row_tie rfl ⟨rfl, rfl⟩ (by kernel_rfl) rfl plain (by kernel_rfl)
#print axioms proved
end Go.Proofs.YtghllfihmmlcnaaDoor.scriptPrints
