/- A choice's line read by the document. -/
import Derived.Test.YtghllfihmmlcnaaDoorScrQA
namespace Go.Proofs.YtghllfihmmlcnaaDoor
open Go.RowKit Nam YtghllfihmmlcnaaDoorW.PrintWords

/-- A choice of the call's own in block g, as the document's package has it. -/
def RBox (w : World) (g : Nat) (P : Nat → Prop) (x : Ch) : Prop := ∃ v, w.heap[g]? = some (.cells (chCells x v).toArray 39 (0, 0)) ∧ Dt w (fun k => P k ∧ k ≠ g) v x.dt
theorem RBox.below {w w' : World} {g : Nat} {P : Nat → Prop} {x : Ch} (h : RBox w g P x) (hb : Below w.heap.size w w') : RBox w' g P x := by
  obtain ⟨v, h1, h2⟩ := h
  exact ⟨v, blk_below h1 hb, Kd.V_below h2 hb⟩
theorem rbox_set {w : World} {g : Nat} {P : Nat → Prop} {x y : Ch} {v : Value} (h1 : w.heap[g]? = some (.cells (chCells x v).toArray 39 (0, 0))) (h2 : Dt w (fun k => P k ∧ k ≠ g) v x.dt) (j : Nat) (u : Value)
    (e : (chCells x v).toArray.setIfInBounds j u = (chCells y v).toArray) (hd : y.dt = x.dt) : RBox (w.setCell ⟨g, j, none⟩ u) g P y :=
  ⟨v, blk_put h1 j u e, by rw [hd]; exact Kd.V_far h2 (p := ⟨g, j, none⟩) (fun _ hk => hk.2) u⟩
structure RChoSt (w : World) (ws : List (List UInt8)) (lv : Value) (wr : World) : Prop where
  b : Below w.heap.size w wr
  r : wr.heap[w.heap.size]? = some (.cells (chCells (bareC 0) (.slice none 0 0)).toArray 39 (0, 0))
  s : Kd.R Kd.string 9 wr w.heap.size (fun k => w.heap.size < k) lv (ws.map mkS)
theorem RChoSt.below {w : World} {ws : List (List UInt8)} {lv : Value} {wr w2 : World} (h : RChoSt w ws lv wr) (hb : Below wr.heap.size wr w2) : RChoSt w ws lv w2 :=
  ⟨h.b.trans (hb.mono h.b.size), blk_below h.r hb, Kd.R_below h.s hb⟩
theorem RChoSt.grown {w : World} {ws : List (List UInt8)} {lv : Value} {wr w2 : World} {g : Nat} (h : RChoSt w ws lv wr) (hg : wr.grownBy w2 (some g)) (hgl : w.heap.size < g) (hlt : ∀ k, lv.ownBlock = some k → k < g) : RChoSt w ws lv w2 :=
  ⟨h.b.grown hg h.b.size (fun k hk => by injection hk with hk; omega), blk_grown h.r hg (by simp; omega), Kd.R_grown1 h.s rfl hg (fun e => by have := hlt g e.symm; omega)⟩
structure RInSt (w : World) (ws : List (List UInt8)) (lv : Value) (g : Nat) (y : Ch) (m : Nat) (wr : World) : Prop where
  c : RChoSt w ws lv wr
  o : RBox wr g (fun k => g < k) y
  k : y.Ok m
theorem RInSt.below {w : World} {ws : List (List UInt8)} {lv : Value} {g : Nat} {y : Ch} {m : Nat} {wr w2 : World} (h : RInSt w ws lv g y m wr) (hb : Below wr.heap.size wr w2) : RInSt w ws lv g y m w2 :=
  ⟨h.c.below hb, h.o.below hb, h.k⟩
theorem RInSt.put {w : World} {ws : List (List UInt8)} {lv : Value} {g : Nat} {y z : Ch} {m : Nat} {wr w2 : World} (h : RInSt w ws lv g y m wr) (hg : wr.grownBy w2 (some g)) (hgl : w.heap.size < g) (hlt : ∀ k, lv.ownBlock = some k → k < g) (ho : RBox w2 g (fun k => g < k) z) (hk : z.Ok m) : RInSt w ws lv g z m w2 :=
  ⟨h.c.grown hg hgl hlt, ho, hk⟩
theorem grown_put (w : World) (g j : Nat) (u : Value) : w.grownBy (w.setCell ⟨g, j, none⟩ u) (some g) := grown_set (Below.refl _ _) g j u
def OkC (ok : Bool) (a R : Option Ch) : Prop := if ok = true then a = R else R = none
theorem okC_end {l : List UInt8} {y : Ch} {R : Option Ch} (ok : Bool) (hR : choiceC l = R) (h : OkC ok (some y) R) {w w' : World} {v : Value} (hb : Below w.heap.size w w') (hd : Dt w' (fun k => w.heap.size ≤ k) v y.dt) (hk : y.Ok l.length) :
    ChoiceIs l w (.returned (.tuple #[.agg (chCells y v).toArray, .bool ok])) w' := by
  subst hR
  cases ok with
  | true =>
    have h : some y = choiceC l := h
    exact choice_some h.symm hb hd hk
  | false =>
    have h : choiceC l = none := h
    exact ⟨⟨y, v, by rw [h]; rfl, (fun z hz => by rw [h] at hz; cases hz), hd, hk⟩, hb⟩
theorem okC_text {y z : Ch} {f : Nat} {x : List UInt8} {fs : List Nat} {ws : List (List UInt8)} {R : Option Ch} (h : (setC y f x).bind (fun y => fillC y fs ws) = R) (b : Bool) (hb : (readB x).2 = b) (hs : setC y f x = if (readB x).2 then some z else none) : OkC b (fillC z fs ws) R := by
  subst hb
  rw [hs] at h
  unfold OkC
  cases hr : (readB x).2
  · rw [if_neg (by simp)]; rw [hr] at h; exact h.symm
  · rw [if_pos rfl]; rw [hr] at h; exact h
theorem okC_num {y : Ch} {f : Nat} {x : List UInt8} {fs : List Nat} {ws : List (List UInt8)} {R : Option Ch} (h : (setC y f x).bind (fun y => fillC y fs ws) = R) (n : Int) (hn : ∀ v, numOf x = some v → n = v) (F : Int → Ch) (hs : setC y f x = (numOf x).map F) : OkC (numOf x).isSome (fillC (F n) fs ws) R := by
  rw [hs] at h
  unfold OkC
  cases hr : numOf x with
  | none =>
    show (if false = true then _ else _)
    rw [if_neg (by simp)]; rw [hr] at h; exact h.symm
  | some v =>
    show (if true = true then _ else _)
    rw [if_pos rfl]; rw [hr] at h; rw [hn v hr]; exact h

set_option maxHeartbeats 3000000 in
set_option maxRecDepth 100000 in
theorem rchoice_is (l : List UInt8) (w : World) (hs : l.length ≤ 20000) : Calls Tryd.prog 38 #[.string (mkS l)] w (ChoiceIs l w) := by
  obtain ⟨o0, ho0⟩ : ∃ o0, Obj.cells (chCells (bareC 0) (.slice none 0 0)).toArray 39 (0, 0) = o0 := ⟨_, rfl⟩
  obtain ⟨ws, hws⟩ : ∃ ws, splitB 32 l = ws := ⟨_, rfl⟩
  obtain ⟨R, hR⟩ : ∃ R, choiceC l = R := ⟨_, rfl⟩
  have hne : 0 < ws.length := by rw [← hws]; exact List.length_pos_iff.2 (splitB_ne 32 l)
  obtain ⟨h0, hh0⟩ : ∃ h0, ws.headD [] = h0 := ⟨_, rfl⟩
  have HH0 := Lib.hid hh0; clear hh0
  have HFR : Hid (fromC ws 19 1 = R) := by show _ = _; rw [← hR, ← hws]; rfl
  have HC := fun W => rwords_is l W (by omega)
  rw [hws] at HC
  have HCU := Lib.hid HC; clear HC
  have HRR := Lib.hid hR; clear hR
  have HWS := Lib.hid hws; clear hws
  have hk0 : (w.alloc o0).heap[w.heap.size]? = some o0 := blk_new w o0
  have hb0 : Below w.heap.size w (w.alloc o0) := (Below.refl _ _).alloc (Nat.le_refl _) _
  rw [← ho0] at hk0 hb0
  clear ho0 o0
  unfold chCells bareC at hk0 hb0
  have HK0 := Lib.hid hk0; clear hk0
  have HB0 := Lib.hid hb0; clear hb0
  go_enter Tryd.func38, Tryd.ntmps38
  go_wp2_with fail
  refine (HCU.out _).mono ?_
  rintro e w1 ⟨⟨lv, rfl, hR1⟩, hb1⟩
  obtain ⟨g0, cap0, rfl, hg0, hg1, -⟩ := Kd.R_form hR1 (by rw [List.length_map]; exact hne)
  rw [List.length_map] at hR1 ⊢
  have hS : Hid (RChoSt w ws (.slice (some ⟨g0, 0, none⟩) ws.length cap0) w1) := ⟨HB0.out.trans (hb1.mono (by simp)), blk_below HK0.out hb1, Kd.R_mono (Kd.R_lower hR1 (by simp)) (fun k hk => by simp at hk; omega)⟩
  have hg2 : g0 < w1.heap.size := hg1
  clear hR1 hb1 hg1
  go_wp2_with fail
  go_loopw [5] (fun vd wr => ∃ d : Nat, vd = .int .i64 d ∧ 1 ≤ d ∧ d ≤ 20 ∧ Hid (fromC ws (20 - d) d = R) ∧ Hid (RChoSt w ws (.slice (some ⟨g0, 0, none⟩) ws.length cap0) wr)) (fun vd _ => 20 - (intOf vd).toNat)
  case atStart => exact ⟨1, rfl, by omega, by omega, HFR, hS⟩
  case round =>
    clear hS HFR
    obtain ⟨wo, rfl⟩ : ∃ wo : World, wo = wr := ⟨_, rfl⟩
    obtain ⟨d, rfl, hd1, hd2, HF, HS⟩ := hrel
    by_cases hd : d ≤ 19
    · have hdz : (d : Int) ≤ 19 := by omega
      obtain ⟨vb, fs, hform⟩ : ∃ vb fs, formC (d : Int) = (vb, fs) := ⟨_, _, rfl⟩
      obtain ⟨sf, hsf⟩ : ∃ sf, mkS (fs.map letC) = sf := ⟨_, rfl⟩
      have hfm := rverb_is (d : Int)
      rw [hform] at hfm
      simp only [] at hfm
      rw [hsf] at hfm
      have HFM := Lib.hid hfm; clear hfm
      have hszf : sf.size = fs.length := by rw [← hsf, mkS_size, List.length_map]
      have hfle := form_le (d : Int)
      rw [hform] at hfle
      have HFL := Lib.hid hfle; clear hfle
      have hlen := (form_len (d : Int)).1
      rw [hform] at hlen
      simp only [] at hlen
      rw [← hszf] at hlen
      have HLt : Hid (∀ (k : Nat) (hk : k < fs.length), ∃ hb : k < sf.size, sf[k]'hb = letC fs[k]) := fun k hk => by
        subst hsf
        exact ⟨by rw [hszf]; exact hk, List.getElem_map (l := fs) letC⟩
      have HSF := Lib.hid hsf; clear hsf
      have hf := HF.out
      rw [show 20 - d = (19 - d) + 1 by omega, fromC, tryC, hform, HH0.out] at hf
      simp only [] at hf
      rw [← hszf] at hf
      have HF2 := Lib.hid hf; clear hf HF
      have HFO := Lib.hid hform; clear hform
      have HZ := Lib.hid hszf; clear hszf
      go_wp2_with fail
      refine (HFM.out _).mono ?_
      rintro e w2 ⟨rfl, hb2⟩
      have HS2 := Lib.hid (HS.out.below hb2)
      have hsl : wo.heap.size ≤ w2.heap.size := hb2.size
      clear hb2
      have hc0 : w2.cell? ⟨g0, 0, none⟩ = some (.string (mkS h0)) := by
        obtain ⟨ad, hA, hcell⟩ := Kd.at_string (Kd.R_reads' HS2.out.s).2.2 0 (by omega) (by rw [List.length_map]; omega)
        injection hA with hA
        subst hA
        rw [show rdOf ByteArray.empty (ws.map mkS) 0 = mkS h0 by rw [← HH0.out]; cases ws with | nil => simp at hne | cons a t => rfl] at hcell
        exact hcell
      have hnez : (0 : Int) < (ws.length : Int) := by omega
      by_cases hm : vb = h0 ∧ ws.length = sf.size + 1
      · obtain ⟨hv, hl2⟩ := hm
        rw [if_pos ⟨hv, hl2⟩] at HF2
        have HF3 : Hid (OkC true (fillC (bareC d) (fs.drop 0) (ws.drop (0 + 1))) R) := by
          show OkC _ _ _
          unfold OkC
          rw [if_pos rfl, List.drop_zero, Nat.zero_add, List.drop_one]
          exact HF2.out
        clear HF2
        subst hv
        obtain ⟨o1, ho1⟩ : ∃ o1, Obj.cells (chCells (bareC d) (.slice none 0 0)).toArray 39 (0, 0) = o1 := ⟨_, rfl⟩
        obtain ⟨g, hg⟩ : ∃ g, w2.heap.size = g := ⟨_, rfl⟩
        have hb12 : Below w2.heap.size w2 (w2.alloc o1) := (Below.refl _ _).alloc (Nat.le_refl _) _
        have hgo : w.heap.size < g := by have := blk_lt HS2.out.r; omega
        have hgl : g0 < g := by have := (Kd.R_bound HS2.out.s).1 g0 rfl; omega
        have ST : Hid (RInSt w ws (.slice (some ⟨g0, 0, none⟩) ws.length cap0) g (bareC d) l.length (w2.alloc o1)) :=
          ⟨HS2.out.below hb12, ⟨_, by rw [← hg, blk_new w2 o1, ← ho1], Kd.V_nil _ _ _ _ _⟩, bare_ok d (by omega) _⟩
        have HG := Lib.hid hg; clear hg
        rw [← ho1] at ST
        unfold chCells bareC at ST
        clear ho1 hb12 HS2
        have e1 : ((ws.length : Int) == (sf.size : Int) + 1) = true := by rw [beq_iff_eq]; omega
        have e2 : ((ws.length : Int) != (sf.size : Int) + 1) = false := by rw [bne, e1]; rfl
        have hl3 : sf.size + 1 ≤ ws.length := by omega
        have HL2 := Lib.hid hl2; clear hl2
        go_wp2_with fail
        rw [show w2.heap.size = g from HG.out]
        clear e1 e2
        go_loopw [9, 10] (fun vo vk wr => ∃ (k : Nat) (y : Ch) (ok : Bool), vk = .int .i64 k ∧ vo = .bool ok ∧ k ≤ sf.size ∧ Hid (OkC ok (fillC y (fs.drop k) (ws.drop (k + 1))) R) ∧ Hid (RInSt w ws (.slice (some ⟨g0, 0, none⟩) ws.length cap0) g y l.length wr)) (fun _ vk _ => sf.size - (intOf vk).toNat)
        case atStart => exact ⟨0, bareC d, true, rfl, rfl, Nat.zero_le _, HF3, ST⟩
        case round =>
          clear ST HF3 hc0
          obtain ⟨k, y, ok, rfl, rfl, hk, HF, HI⟩ := hrel
          by_cases hgo2 : k < sf.size ∧ ok = true
          · obtain ⟨hlt, rfl⟩ := hgo2
            have hltz : (k : Int) < (sf.size : Int) := by omega
            have hlt1 : (k : Int) + 1 < (ws.length : Int) := by omega
            have hltf : k < fs.length := by rw [← HZ.out]; exact hlt
            obtain ⟨f, hf⟩ : ∃ f, fs[k] = f := ⟨_, rfl⟩
            obtain ⟨x, hx⟩ : ∃ x, ws[k + 1]'(by omega) = x := ⟨_, rfl⟩
            have hf8 : f ≤ 8 := HFL.out f (by rw [← hf]; exact List.getElem_mem _)
            obtain ⟨hib, hbe⟩ := HLt.out k hltf
            rw [hf] at hbe
            have hfill : fillC y (fs.drop k) (ws.drop (k + 1)) = R := HF.out
            rw [List.drop_eq_getElem_cons hltf, hf, List.drop_eq_getElem_cons (show k + 1 < ws.length by omega), hx, fillC] at hfill
            have HFI := Lib.hid hfill; clear hfill HF
            have hxl : x.length ≤ l.length := by
              rw [← hx]
              exact split_le 32 l _ (by rw [HWS.out]; exact List.getElem_mem _)
            have HCW : Hid (∀ V, RChoSt w ws (.slice (some ⟨g0, 0, none⟩) ws.length cap0) V → V.cell? ⟨g0, k + 1, none⟩ = some (.string (mkS x))) := fun V hV => by
              obtain ⟨ad, hA, hcell⟩ := Kd.at_string (Kd.R_reads' hV.s).2.2 ((k + 1 : Nat) : Int) (by omega) (by rw [List.length_map]; omega)
              injection hA with hA
              subst hA
              rw [Int.toNat_natCast, add_plain] at hcell
              rw [hcell]
              unfold rdOf
              rw [Int.toNat_natCast, List.getD_eq_getElem?_getD, List.getElem?_map, List.getElem?_eq_getElem (show k + 1 < ws.length by omega), hx]
              rfl
            have hcw := HCW.out wr HI.out.c
            have HBE := Lib.hid hbe
            clear hf hx hbe hltf
            go_wp2_with fail
            refine (rnum_is x _).mono ?_
            rintro e w3 ⟨⟨n, rfl, hn, hn0, hn1⟩, hb3⟩
            have HNN := Lib.hid hn; clear hn
            have HI3 := Lib.hid (HI.out.below hb3)
            clear hcw hb3 HI
            have hcw := HCW.out _ HI3.out.c
            obtain ⟨nb, hnb⟩ : ∃ nb, (numOf x).isSome = nb := ⟨_, rfl⟩
            rw [hnb]
            have HNB := Lib.hid hnb; clear hnb
            go_wp2_with fail
            refine (rreadtext_is x _ (by omega)).mono ?_
            rintro e w4 ⟨rfl, hb4⟩
            have HI4 := Lib.hid (HI3.out.below hb4)
            clear hcw hb4 HI3
            obtain ⟨t, tb, hr⟩ : ∃ t tb, readB x = (t, tb) := ⟨_, _, rfl⟩
            have hle := readB_le x
            rw [hr] at hle
            rw [hr]
            simp only [] at hle ⊢
            have HR := Lib.hid hr; clear hr
            obtain ⟨vy, hyb, hyv⟩ := HI4.out.o
            have HYV := Lib.hid hyv; clear hyv
            have HYB := Lib.hid hyb
            have kb := fun W => print_bytes (P := Tryd.prog) 9 35 5 Tryd.underlying9 Tryd.underlying35 Tryd.underlying5 (mkS t) W
            have hf9 : f = 0 ∨ f = 1 ∨ f = 2 ∨ f = 3 ∨ f = 4 ∨ f = 5 ∨ f = 6 ∨ f = 7 ∨ f = 8 := by omega
            clear hf8
            rcases hf9 with rfl | rfl | rfl | rfl | rfl | rfl | rfl | rfl | rfl
            · have hbe : sf[k]'hib = 98 := HBE.out
              have c1 := (blk_cell hyb 1).trans (rfl : _ = some (Value.string (mkS y.bk)))
              have f1 := blk_frozen hyb 1
              clear hyb kb
              go_wp2_with fail
              go_roundw
              case rel => exact ⟨k + 1, { y with bk := t }, tb, by go_num, rfl, by omega, okC_text HFI.out tb (by rw [HR.out]) (by simp only [setC, HR.out]), HI4.out.put (z := { y with bk := t }) (grown_put _ g 1 _) hgo (fun k hk => by simp [Value.ownBlock] at hk; omega) (rbox_set HYB.out HYV.out 1 _ rfl rfl) { HI4.out.k with bk := by show t.length ≤ l.length; omega }⟩
              case measure => simp [intOf]; omega
            · have hbe : sf[k]'hib = 107 := HBE.out
              have c2 := (blk_cell hyb 2).trans (rfl : _ = some (Value.string (mkS y.ky)))
              have f2 := blk_frozen hyb 2
              clear hyb kb
              go_wp2_with fail
              go_roundw
              case rel => exact ⟨k + 1, { y with ky := t }, tb, by go_num, rfl, by omega, okC_text HFI.out tb (by rw [HR.out]) (by simp only [setC, HR.out]), HI4.out.put (z := { y with ky := t }) (grown_put _ g 2 _) hgo (fun k hk => by simp [Value.ownBlock] at hk; omega) (rbox_set HYB.out HYV.out 2 _ rfl rfl) { HI4.out.k with ky := by show t.length ≤ l.length; omega }⟩
              case measure => simp [intOf]; omega
            · have hbe : sf[k]'hib = 100 := HBE.out
              have hbw : Below w4.heap.size w4 (Lib.bytesWorld w4 5 (mkS t)) := bytes_below (Below.refl _ _) (Nat.le_refl _) _ _
              have hbk := blk_below hyb hbw
              have c3 := (blk_cell hbk 3).trans (rfl : _ = some vy)
              have f3 := blk_frozen hbk 3
              have HBK := Lib.hid hbk; clear hbk
              have hge := grownCap_ge w4 (mkS t).size 0 5
              have HGE := Lib.hid hge; clear hge
              have HBW := Lib.hid hbw; clear hbw hyb
              have hgw4 := blk_lt HYB.out
              go_wp2_with fail
              go_roundw
              case rel =>
                refine ⟨k + 1, { y with dt := t }, tb, by go_num, rfl, by omega, okC_text HFI.out tb (by rw [HR.out]) (by simp only [setC, HR.out]), ?_⟩
                refine (HI4.out.put (z := { y with dt := t }) (grown_set HBW.out g 3 _) hgo (fun k hk => by simp [Value.ownBlock] at hk; omega) ⟨.slice (some ⟨w4.heap.size, 0, none⟩) (mkS t).size (grownCap w4 (mkS t).size 0 5), ?_, ?_⟩ { HI4.out.k with dt := by show t.length ≤ l.length; omega })
                · exact blk_put HBK.out 3 _ rfl
                · refine Kd.V_far (p := ⟨g, 3, none⟩) ?_ (fun _ hk => hk.2) _
                  have hge := HGE.out
                  rw [mkS_size] at hge ⊢
                  exact bytes_V w4 t _ (by omega) _ hge ⟨by omega, by omega⟩
              case measure => simp [intOf]; omega
            · have hbe : sf[k]'hib = 110 := HBE.out
              have c4 := (blk_cell hyb 4).trans (rfl : _ = some (Value.int .i64 y.n))
              have f4 := blk_frozen hyb 4
              clear hyb kb
              go_wp2_with fail
              go_roundw
              case rel => exact ⟨k + 1, { y with n := n }, nb, by go_num, rfl, by omega, by have := okC_num HFI.out n HNN.out (fun v => { y with n := v }) rfl; rw [HNB.out] at this; exact this, HI4.out.put (z := { y with n := n }) (grown_put _ g 4 _) hgo (fun k hk => by simp [Value.ownBlock] at hk; omega) (rbox_set HYB.out HYV.out 4 _ rfl rfl) { HI4.out.k with n := ⟨hn0, hn1⟩ }⟩
              case measure => simp [intOf]; omega
            · have hbe : sf[k]'hib = 97 := HBE.out
              have c5 := (blk_cell hyb 5).trans (rfl : _ = some (Value.int .i64 y.a))
              have f5 := blk_frozen hyb 5
              clear hyb kb
              go_wp2_with fail
              go_roundw
              case rel => exact ⟨k + 1, { y with a := n }, nb, by go_num, rfl, by omega, by have := okC_num HFI.out n HNN.out (fun v => { y with a := v }) rfl; rw [HNB.out] at this; exact this, HI4.out.put (z := { y with a := n }) (grown_put _ g 5 _) hgo (fun k hk => by simp [Value.ownBlock] at hk; omega) (rbox_set HYB.out HYV.out 5 _ rfl rfl) { HI4.out.k with a := ⟨hn0, hn1⟩ }⟩
              case measure => simp [intOf]; omega
            · have hbe : sf[k]'hib = 112 := HBE.out
              have c6 := (blk_cell hyb 6).trans (rfl : _ = some (Value.string (mkS y.pf)))
              have f6 := blk_frozen hyb 6
              clear hyb kb
              go_wp2_with fail
              go_roundw
              case rel => exact ⟨k + 1, { y with pf := t }, tb, by go_num, rfl, by omega, okC_text HFI.out tb (by rw [HR.out]) (by simp only [setC, HR.out]), HI4.out.put (z := { y with pf := t }) (grown_put _ g 6 _) hgo (fun k hk => by simp [Value.ownBlock] at hk; omega) (rbox_set HYB.out HYV.out 6 _ rfl rfl) { HI4.out.k with pf := by show t.length ≤ l.length; omega }⟩
              case measure => simp [intOf]; omega
            · have hbe : sf[k]'hib = 102 := HBE.out
              have c7 := (blk_cell hyb 7).trans (rfl : _ = some (Value.string (mkS y.fr)))
              have f7 := blk_frozen hyb 7
              clear hyb kb
              go_wp2_with fail
              go_roundw
              case rel => exact ⟨k + 1, { y with fr := t }, tb, by go_num, rfl, by omega, okC_text HFI.out tb (by rw [HR.out]) (by simp only [setC, HR.out]), HI4.out.put (z := { y with fr := t }) (grown_put _ g 7 _) hgo (fun k hk => by simp [Value.ownBlock] at hk; omega) (rbox_set HYB.out HYV.out 7 _ rfl rfl) { HI4.out.k with fr := by show t.length ≤ l.length; omega }⟩
              case measure => simp [intOf]; omega
            · have hbe : sf[k]'hib = 105 := HBE.out
              have c8 := (blk_cell hyb 8).trans (rfl : _ = some (Value.int .i64 y.fi))
              have f8 := blk_frozen hyb 8
              clear hyb kb
              go_wp2_with fail
              go_roundw
              case rel => exact ⟨k + 1, { y with fi := n }, nb, by go_num, rfl, by omega, by have := okC_num HFI.out n HNN.out (fun v => { y with fi := v }) rfl; rw [HNB.out] at this; exact this, HI4.out.put (z := { y with fi := n }) (grown_put _ g 8 _) hgo (fun k hk => by simp [Value.ownBlock] at hk; omega) (rbox_set HYB.out HYV.out 8 _ rfl rfl) { HI4.out.k with fi := ⟨hn0, hn1⟩ }⟩
              case measure => simp [intOf]; omega
            · have hbe : sf[k]'hib = 109 := HBE.out
              have c9 := (blk_cell hyb 9).trans (rfl : _ = some (Value.int .i64 y.mo))
              have f9 := blk_frozen hyb 9
              clear hyb kb
              go_wp2_with fail
              go_roundw
              case rel => exact ⟨k + 1, { y with mo := n }, nb, by go_num, rfl, by omega, by have := okC_num HFI.out n HNN.out (fun v => { y with mo := v }) rfl; rw [HNB.out] at this; exact this, HI4.out.put (z := { y with mo := n }) (grown_put _ g 9 _) hgo (fun k hk => by simp [Value.ownBlock] at hk; omega) (rbox_set HYB.out HYV.out 9 _ rfl rfl) { HI4.out.k with mo := ⟨hn0, hn1⟩ }⟩
              case measure => simp [intOf]; omega
          · have HE2 : Hid (OkC ok (some y) R) := by
              show OkC _ _ _
              by_cases hlt : k < sf.size
              · have hokf : ok = false := by
                  cases ok
                  · rfl
                  · exact absurd ⟨hlt, rfl⟩ hgo2
                subst hokf
                exact HF.out
              · have hkk : k = sf.size := by omega
                have h := HF.out
                rw [List.drop_eq_nil_of_le (by rw [← HZ.out]; omega)] at h
                exact h
            have hcs : (k < sf.size ∧ ok = false) ∨ k = sf.size := by
              by_cases hlt : k < sf.size
              · left
                refine ⟨hlt, ?_⟩
                cases ok
                · rfl
                · exact absurd ⟨hlt, rfl⟩ hgo2
              · right; omega
            clear hgo2 HF
            have HB3 := Lib.hid HI.out.c.b
            obtain ⟨vy, hyb, hyv⟩ := HI.out.o
            have HYV := Lib.hid hyv; clear hyv
            have HYB := Lib.hid hyb
            unfold chCells at hyb
            have d0 := (blk_cell hyb 0).trans (rfl : _ = some (Value.int .i64 y.d))
            have d1 := (blk_cell hyb 1).trans (rfl : _ = some (Value.string (mkS y.bk)))
            have d2 := (blk_cell hyb 2).trans (rfl : _ = some (Value.string (mkS y.ky)))
            have d3 := (blk_cell hyb 3).trans (rfl : _ = some vy)
            have d4 := (blk_cell hyb 4).trans (rfl : _ = some (Value.int .i64 y.n))
            have d5 := (blk_cell hyb 5).trans (rfl : _ = some (Value.int .i64 y.a))
            have d6 := (blk_cell hyb 6).trans (rfl : _ = some (Value.string (mkS y.pf)))
            have d7 := (blk_cell hyb 7).trans (rfl : _ = some (Value.string (mkS y.fr)))
            have d8 := (blk_cell hyb 8).trans (rfl : _ = some (Value.int .i64 y.fi))
            have d9 := (blk_cell hyb 9).trans (rfl : _ = some (Value.int .i64 y.mo))
            obtain ⟨Ay, cy, rfl, hly, hfy⟩ := HYV.out
            clear hyb
            rcases hcs with ⟨hlt, rfl⟩ | rfl
            · have hltz : (k : Int) < (sf.size : Int) := by omega
              go_wp2_with (refine wpList_store_row rfl 39 (.tmp 2) (.tmp 115) rfl w.heap.size (chCells y (.slice Ay (byN y.dt).length cy)).toArray rfl rfl 39 _ HI.out.c.r (by kernel_rfl) rfl (chCells_all _ _ _ _) ?_)
              refine bodyPost_ret (results_ct rfl _ _ w.heap.size 39 (chCells y (.slice Ay (byN y.dt).length cy)).toArray (0, 0) _ rfl (setRow_heap _ _ _ _ _ _ HI.out.c.r) Tryd.underlying39 rfl (by kernel_rfl)) rfl ?_
              refine okC_end false HRR.out HE2.out (below_setRow HB3.out (Nat.le_refl _) _) ⟨Ay, cy, rfl, hly, ?_⟩ HI.out.k
              exact Kd.F_mono (Kd.F_step hfy (fun k hk _ => setRow_other _ _ _ _ (by omega))) (fun k hk => by omega)
            · go_wp2_with (refine wpList_store_row rfl 39 (.tmp 2) (.tmp 115) rfl w.heap.size (chCells y (.slice Ay (byN y.dt).length cy)).toArray rfl rfl 39 _ HI.out.c.r (by kernel_rfl) rfl (chCells_all _ _ _ _) ?_)
              refine bodyPost_ret (results_ct rfl _ _ w.heap.size 39 (chCells y (.slice Ay (byN y.dt).length cy)).toArray (0, 0) _ rfl (setRow_heap _ _ _ _ _ _ HI.out.c.r) Tryd.underlying39 rfl (by kernel_rfl)) rfl ?_
              refine okC_end ok HRR.out HE2.out (below_setRow HB3.out (Nat.le_refl _) _) ⟨Ay, cy, rfl, hly, ?_⟩ HI.out.k
              exact Kd.F_mono (Kd.F_step hfy (fun k hk _ => setRow_other _ _ _ _ (by omega))) (fun k hk => by omega)
      · rw [if_neg hm] at HF2
        have HF3 : Hid (fromC ws (20 - (d + 1)) ((d + 1 : Nat) : Int) = R) := by
          show _ = _
          rw [← HF2.out, show 20 - (d + 1) = 19 - d by omega]
          rfl
        by_cases hv : vb = h0
        · have hl2 : ¬ ws.length = sf.size + 1 := fun e => hm ⟨hv, e⟩
          have e1 : ((ws.length : Int) == (sf.size : Int) + 1) = false := by rw [beq_eq_false_iff_ne]; omega
          have e2 : ((ws.length : Int) != (sf.size : Int) + 1) = true := by rw [bne, e1]; rfl
          subst hv
          clear hm hl2
          go_wp2_with fail
          go_roundw
          case rel => exact ⟨d + 1, by go_num, by omega, by omega, HF3, HS2⟩
          case measure => simp [intOf]; omega
        · obtain ⟨e1, e2⟩ := bne_mkS hv
          clear hm hv
          go_wp2_with fail
          go_roundw
          case rel => exact ⟨d + 1, by go_num, by omega, by omega, HF3, HS2⟩
          case measure => simp [intOf]; omega
    · obtain rfl : d = 20 := by omega
      have hR0 : Hid (choiceC l = none) := by
        show _ = _
        rw [HRR.out, ← HF.out]
        rfl
      clear HF
      have HB3 := Lib.hid HS.out.b
      go_wp2_with (refine wpList_store_row rfl 39 (.tmp 2) (.tmp 117) rfl w.heap.size (chCells (bareC 0) (.slice none 0 0)).toArray rfl rfl 39 _ HS.out.r (by kernel_rfl) rfl (chCells_all _ _ _ _) ?_)
      refine bodyPost_ret (results_ct rfl _ _ w.heap.size 39 (chCells (bareC 0) (.slice none 0 0)).toArray (0, 0) _ rfl (setRow_heap _ _ _ _ _ _ HS.out.r) Tryd.underlying39 rfl (by kernel_rfl)) rfl ?_
      exact choice_none hR0.out (below_setRow HB3.out (Nat.le_refl _) _)
end Go.Proofs.YtghllfihmmlcnaaDoor
