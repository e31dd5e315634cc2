/- choice of package script: a line read. -/
import Derived.Test.YtghllfihmmlcnaaDoorScrI
import Derived.Test.YtghllfihmmlcnaaDoorScrJ
import Derived.Laws.CopyOwn
import Derived.Outline
namespace Go.Proofs.YtghllfihmmlcnaaDoor
open Go.RowKit Nam YtghllfihmmlcnaaDoorW.PrintWords

/-- The fields, as they were written. -/
def fillC (y : Ch) : List Nat → List (List UInt8) → Option Ch
  | [], _ => some y
  | _ :: _, [] => none
  | f :: fs, w :: ws => (setC y f w).bind fun y => fillC y fs ws
def tryC (l : List (List UInt8)) (d : Int) : Option (Option Ch) :=
  if (formC d).1 = l.headD [] ∧ l.length = (formC d).2.length + 1 then some (fillC (bareC d) (formC d).2 l.tail) else none
def fromC (l : List (List UInt8)) : Nat → Int → Option Ch
  | 0, _ => none
  | k + 1, d => match tryC l d with
    | some r => r
    | none => fromC l k (d + 1)
/-- The choice of a line; none: it has none. -/
def choiceC (s : List UInt8) : Option Ch := fromC (splitB 32 s) 19 1

structure ChoSt (w : World) (ws : List (List UInt8)) (lv : Value) (wr : World) : Prop where
  b : Below w.heap.size w wr
  r : wr.heap[w.heap.size]? = some (.cells (chCells (bareC 0) (.slice none 0 0)).toArray 44 (0, 0))
  s : Kd.R Kd.string 9 wr w.heap.size (fun k => w.heap.size < k) lv (ws.map mkS)
theorem ChoSt.below {w : World} {ws : List (List UInt8)} {lv : Value} {wr w2 : World} (h : ChoSt w ws lv wr) (hb : Below wr.heap.size wr w2) : ChoSt w ws lv w2 :=
  ⟨h.b.trans (hb.mono h.b.size), blk_below h.r hb, Kd.R_below h.s hb⟩
theorem ChoSt.grown {w : World} {ws : List (List UInt8)} {lv : Value} {wr w2 : World} {g : Nat} (h : ChoSt w ws lv wr) (hg : wr.grownBy w2 (some g)) (hgl : w.heap.size < g) (hlt : ∀ k, lv.ownBlock = some k → k < g) : ChoSt w ws lv w2 :=
  ⟨h.b.grown hg h.b.size (fun k hk => by injection hk with hk; omega), blk_grown h.r hg (by simp; omega), Kd.R_grown1 h.s rfl hg (fun e => by have := hlt g e.symm; omega)⟩

/-- .. with the choice that is being read. -/
structure InSt (w : World) (ws : List (List UInt8)) (lv : Value) (g : Nat) (fv : Value) (fs : List Nat) (y : Ch) (m : Nat) (wr : World) : Prop where
  c : ChoSt w ws lv wr
  o : Box wr g (fun k => g < k) y
  f : Kd.R (Kd.int .i64) 3 wr 0 (fun k => k < g) fv (fs.map fun f : Nat => (f : Int))
  k : y.Ok m
theorem bare_ok (d : Int) (h : -9223372036854775808 ≤ d ∧ d ≤ 9223372036854775807) (m : Nat) : (bareC d).Ok m :=
  ⟨h, (show (-9223372036854775808 : Int) ≤ 0 ∧ (0 : Int) ≤ 9223372036854775807 by decide), (show (-9223372036854775808 : Int) ≤ 0 ∧ (0 : Int) ≤ 9223372036854775807 by decide), (show (-9223372036854775808 : Int) ≤ 0 ∧ (0 : Int) ≤ 9223372036854775807 by decide), (show (-9223372036854775808 : Int) ≤ 0 ∧ (0 : Int) ≤ 9223372036854775807 by decide), Nat.zero_le _, Nat.zero_le _, Nat.zero_le _, Nat.zero_le _, Nat.zero_le _⟩

theorem split_le (c : UInt8) : ∀ (l x : List UInt8), x ∈ splitB c l → x.length ≤ l.length
  | [], x, h => by simp [splitB] at h; subst h; exact Nat.le_refl _
  | y :: t, x, h => by
    rw [splitB_cons] at h
    split at h
    · rcases List.mem_cons.1 h with rfl | h
      · exact Nat.zero_le _
      · have := split_le c t x h
        simp; omega
    · cases hs : splitB c t with
      | nil => exact absurd hs (splitB_ne c t)
      | cons a r =>
        have ih := split_le c t
        rw [hs] at h ih
        simp only [List.modifyHead_cons] at h
        rcases List.mem_cons.1 h with rfl | h
        · have := ih a (by simp)
          simp; omega
        · have := ih x (by simp [h])
          simp; omega

def ChoiceIs (l : List UInt8) (w : World) (e : Ending) (w' : World) : Prop :=
  (∃ (y : Ch) (v : Value), e = .returned (.tuple #[.agg (chCells y v).toArray, .bool (choiceC l).isSome]) ∧ (∀ z, choiceC l = some z → y = z) ∧ Dt w' (fun k => w.heap.size ≤ k) v y.dt ∧ y.Ok l.length) ∧ Below w.heap.size w w'

theorem chCells_all (x : Ch) (A : Option Addr) (n c : Nat) : ((chCells x (.slice A n c)).toArray.all fun x => x.oneCell') = true := by simp [chCells, Value.oneCell']
theorem choice_none {l : List UInt8} {w w' : World} (h : choiceC l = none) (hb : Below w.heap.size w w') : ChoiceIs l w (.returned (.tuple #[.agg (chCells (bareC 0) (.slice none 0 0)).toArray, .bool false])) w' :=
  ⟨⟨bareC 0, _, by rw [h]; rfl, (fun z hz => by rw [h] at hz; cases hz), Kd.V_nil _ _ _ _ _, bare_ok 0 (by decide) _⟩, hb⟩
theorem choice_some {l : List UInt8} {w w' : World} {y : Ch} {v : Value} (h : choiceC l = some y) (hb : Below w.heap.size w w') (hd : Dt w' (fun k => w.heap.size ≤ k) v y.dt) (hk : y.Ok l.length) : ChoiceIs l w (.returned (.tuple #[.agg (chCells y v).toArray, .bool true])) w' :=
  ⟨⟨y, v, by rw [h]; rfl, (fun z hz => by rw [h] at hz; injection hz), hd, hk⟩, hb⟩

set_option maxHeartbeats 2000000 in
set_option maxRecDepth 100000 in
theorem choice_is (l : List UInt8) (w : World) (hs : l.length ≤ 20000) (hE : Env w) : Calls Tryd.prog 26 #[.string (mkS l)] w (ChoiceIs l w) := by
  obtain ⟨o0, ho0⟩ : ∃ o0, Obj.cells (chCells (bareC 0) (.slice none 0 0)).toArray 44 (0, 0) = o0 := ⟨_, rfl⟩
  have HE := Lib.hid hE; clear hE
  obtain ⟨ws, hws⟩ : ∃ ws, splitB 32 l = ws := ⟨_, rfl⟩
  obtain ⟨R, hR⟩ : ∃ R, choiceC l = R := ⟨_, rfl⟩
  have hne : 0 < ws.length := by rw [← hws]; exact List.length_pos_iff.2 (splitB_ne 32 l)
  obtain ⟨h0, hh0⟩ : ∃ h0, ws.headD [] = h0 := ⟨_, rfl⟩
  have HH0 := Lib.hid hh0; clear hh0
  have HFR : Hid (fromC ws 19 1 = R) := by show _ = _; rw [← hR, ← hws]; rfl
  have HC := fun W => cut_is l 32 (by decide) W (by omega)
  rw [hws] at HC
  have HCU := Lib.hid HC; clear HC
  have HRR := Lib.hid hR; clear hR
  have HWS := Lib.hid hws; clear hws
  have hk0 : (w.alloc o0).heap[w.heap.size]? = some o0 := blk_new w o0
  have hb0 : Below w.heap.size w (w.alloc o0) := (Below.refl _ _).alloc (Nat.le_refl _) _
  rw [← ho0] at hk0 hb0
  clear ho0 o0
  unfold chCells bareC at hk0 hb0
  have HK0 := Lib.hid hk0; clear hk0
  have HB0 := Lib.hid hb0; clear hb0
  go_enter Tryd.func26, Tryd.ntmps26
  go_wp2_with fail
  refine (HCU.out _).mono ?_
  rintro e w1 ⟨⟨lv, rfl, hR1⟩, hb1⟩
  obtain ⟨g0, cap0, rfl, hg0, hg1, -⟩ := Kd.R_form hR1 (by rw [List.length_map]; exact hne)
  rw [List.length_map] at hR1 ⊢
  have hS : Hid (ChoSt w ws (.slice (some ⟨g0, 0, none⟩) ws.length cap0) w1) := ⟨HB0.out.trans (hb1.mono (by simp)), blk_below HK0.out hb1, Kd.R_mono (Kd.R_lower hR1 (by simp)) (fun k hk => by simp at hk; omega)⟩
  have hg2 : g0 < w1.heap.size := hg1
  clear hR1 hb1 hg1
  go_wp2_with fail
  go_loopw [5] (fun vd wr => ∃ d : Nat, vd = .int .i64 d ∧ 1 ≤ d ∧ d ≤ 20 ∧ Hid (fromC ws (20 - d) d = R) ∧ Hid (ChoSt w ws (.slice (some ⟨g0, 0, none⟩) ws.length cap0) wr)) (fun vd _ => 20 - (intOf vd).toNat)
  case atStart => exact ⟨1, rfl, by omega, by omega, HFR, hS⟩
  case round =>
    clear hS HFR
    obtain ⟨wo, rfl⟩ : ∃ wo : World, wo = wr := ⟨_, rfl⟩
    obtain ⟨d, rfl, hd1, hd2, HF, HS⟩ := hrel
    by_cases hd : d ≤ 19
    · have hdz : (d : Int) ≤ 19 := by omega
      obtain ⟨vb, fs, hform⟩ : ∃ vb fs, formC (d : Int) = (vb, fs) := ⟨_, _, rfl⟩
      have hfm := form_is (d : Int)
      rw [hform] at hfm
      have HFM := Lib.hid hfm; clear hfm
      have hfle := form_le (d : Int)
      rw [hform] at hfle
      have HFL := Lib.hid hfle; clear hfle
      have hlen := (form_len (d : Int)).1
      rw [hform] at hlen
      simp only [] at hlen
      have hf := HF.out
      rw [show 20 - d = (19 - d) + 1 by omega, fromC, tryC, hform, HH0.out] at hf
      simp only [] at hf
      have HF2 := Lib.hid hf; clear hf HF
      have HFO := Lib.hid hform; clear hform
      go_wp2_with fail
      refine (HFM.out _).mono ?_
      rintro e w2 ⟨vf, rfl, hRf, hb2⟩
      have HS2 := Lib.hid (HS.out.below hb2)
      obtain ⟨A, cp, rfl⟩ := Kd.R_slice hRf
      have hlf : (fs.map fun f : Nat => (f : Int)).length = fs.length := List.length_map _
      rw [hlf] at hRf ⊢
      clear hlf
      have HRF : Hid (Kd.R (Kd.int .i64) 3 w2 wo.heap.size (fun _ => True) (.slice A fs.length cp) (fs.map fun f : Nat => (f : Int))) := hRf
      have hsl : wo.heap.size ≤ w2.heap.size := hb2.size
      clear hRf hb2
      simp only []
      have hc0 : w2.cell? ⟨g0, 0, none⟩ = some (.string (mkS h0)) := by
        obtain ⟨ad, hA, hcell⟩ := Kd.at_string (Kd.R_reads' HS2.out.s).2.2 0 (by omega) (by rw [List.length_map]; omega)
        injection hA with hA
        subst hA
        rw [show rdOf ByteArray.empty (ws.map mkS) 0 = mkS h0 by rw [← HH0.out]; cases ws with | nil => simp at hne | cons a t => rfl] at hcell
        exact hcell
      have hnez : (0 : Int) < (ws.length : Int) := by omega
      by_cases hm : vb = h0 ∧ ws.length = fs.length + 1
      · obtain ⟨hv, hl2⟩ := hm
        rw [if_pos ⟨hv, hl2⟩] at HF2
        have HF3 : Hid (fillC (bareC d) (fs.drop 0) (ws.drop (0 + 1)) = R) := by
          show _ = _
          rw [List.drop_zero, Nat.zero_add, List.drop_one]
          exact HF2.out
        clear HF2
        subst hv
        obtain ⟨o1, ho1⟩ : ∃ o1, Obj.cells (chCells (bareC d) (.slice none 0 0)).toArray 44 (0, 0) = o1 := ⟨_, rfl⟩
        obtain ⟨g, hg⟩ : ∃ g, w2.heap.size = g := ⟨_, rfl⟩
        have hb12 : Below w2.heap.size w2 (w2.alloc o1) := (Below.refl _ _).alloc (Nat.le_refl _) _
        have hgo : w.heap.size < g := by have := blk_lt HS2.out.r; omega
        have hgl : g0 < g := by have := (Kd.R_bound HS2.out.s).1 g0 rfl; omega
        have ST : Hid (InSt w ws (.slice (some ⟨g0, 0, none⟩) ws.length cap0) g (.slice A fs.length cp) fs (bareC d) l.length (w2.alloc o1)) :=
          ⟨HS2.out.below hb12, ⟨_, by rw [← hg, blk_new w2 o1, ← ho1], Kd.V_nil _ _ _ _ _⟩, Kd.R_mono (Kd.R_below (Kd.R_bound (Kd.R_lower HRF.out (Nat.zero_le _))) hb12) (fun k hk => by have := hk.2.2.1; omega), bare_ok d (by omega) _⟩
        have HG := Lib.hid hg; clear hg
        rw [← ho1] at ST
        unfold chCells bareC at ST
        clear ho1 hb12 HRF HS2
        have e1 : ((ws.length : Int) == (fs.length : Int) + 1) = true := by rw [beq_iff_eq]; omega
        have e2 : ((ws.length : Int) != (fs.length : Int) + 1) = false := by rw [bne, e1]; rfl
        have hl3 : fs.length + 1 ≤ ws.length := by omega
        have HL2 := Lib.hid hl2; clear hl2
        go_wp2_with fail
        rw [show w2.heap.size = g from HG.out]
        clear e1 e2
        go_loopw [39] (fun vk wr => ∃ (k : Nat) (y : Ch), vk = .int .i64 k ∧ k ≤ fs.length ∧ Hid (fillC y (fs.drop k) (ws.drop (k + 1)) = R) ∧ Hid (InSt w ws (.slice (some ⟨g0, 0, none⟩) ws.length cap0) g (.slice A fs.length cp) fs y l.length wr)) (fun vk _ => fs.length - (intOf vk).toNat)
        case atStart => exact ⟨0, bareC d, rfl, Nat.zero_le _, HF3, ST⟩
        case round =>
          clear ST HF3 hc0
          obtain ⟨k, y, rfl, hk, HF, HI⟩ := hrel
          by_cases hlt : k < fs.length
          · have hltz : (k : Int) < (fs.length : Int) := by omega
            have hlt1 : (k : Int) + 1 < (ws.length : Int) := by omega
            obtain ⟨f, hf⟩ : ∃ f, fs[k] = f := ⟨_, rfl⟩
            obtain ⟨x, hx⟩ : ∃ x, ws[k + 1]'(by omega) = x := ⟨_, rfl⟩
            have hf8 : f ≤ 8 := HFL.out f (by rw [← hf]; exact List.getElem_mem _)
            have hfill := HF.out
            rw [List.drop_eq_getElem_cons hlt, hf, List.drop_eq_getElem_cons (show k + 1 < ws.length by omega), hx, fillC] at hfill
            have HFI := Lib.hid hfill; clear hfill HF
            have hxl : x.length ≤ l.length := by
              rw [← hx]
              exact split_le 32 l _ (by rw [HWS.out]; exact List.getElem_mem _)
            have hcw : wr.cell? ⟨g0, k + 1, none⟩ = some (.string (mkS x)) := by
              obtain ⟨ad, hA, hcell⟩ := Kd.at_string (Kd.R_reads' HI.out.c.s).2.2 ((k + 1 : Nat) : Int) (by omega) (by rw [List.length_map]; omega)
              injection hA with hA
              subst hA
              rw [Int.toNat_natCast, add_plain] at hcell
              rw [hcell]
              unfold rdOf
              rw [Int.toNat_natCast, List.getD_eq_getElem?_getD, List.getElem?_map, List.getElem?_eq_getElem (show k + 1 < ws.length by omega), hx]
              rfl
            obtain ⟨ad, hA, hcell⟩ := Kd.at_int (Kd.R_reads' HI.out.f).2.2 (k : Int) (by omega) (by simp; omega)
            subst hA
            have hrd : rd (fs.map fun f : Nat => (f : Int)) (k : Int) = (f : Int) := by
              unfold rd
              rw [Int.toNat_natCast, List.getD_eq_getElem?_getD, List.getElem?_map, List.getElem?_eq_getElem hlt, hf]
              rfl
            rw [hrd, Int.toNat_natCast] at hcell
            clear hrd hf hx
            go_wp2_with fail
            refine (set_is y f hf8 x g (fun k => g < k) wr HI.out.o (by omega) (fun k hk => by have := blk_lt HI.out.o.choose_spec.1; omega) (HE.out.below HI.out.c.b)).mono ?_
            rintro e w3 ⟨z, rfl, hz, hbox, hgr, hok⟩
            have HI3 : Hid (InSt w ws (.slice (some ⟨g0, 0, none⟩) ws.length cap0) g (.slice (some ad) fs.length cp) fs z l.length w3) :=
              ⟨HI.out.c.grown hgr hgo (fun k hk => by simp [Value.ownBlock] at hk; omega), hbox, Kd.R_grown HI.out.f hgr (fun k hk e => by injection e with e; omega), hok _ HI.out.k hxl⟩
            clear hbox hgr hok hcell hcw
            cases hset : setC y f x with
            | none =>
              have hR0 : Hid (choiceC l = none) := by
                show _ = _
                rw [HRR.out, ← HFI.out, hset]
                rfl
              clear hset HFI hz
              have HB3 := Lib.hid HI3.out.c.b
              go_wp2_with (refine wpList_store_row rfl 44 (.tmp 2) (.tmp 52) rfl w.heap.size (chCells (bareC 0) (.slice none 0 0)).toArray rfl rfl 44 _ HI3.out.c.r (by kernel_rfl) rfl (chCells_all _ _ _ _) ?_)
              refine bodyPost_ret (results_ct rfl _ _ w.heap.size 44 (chCells (bareC 0) (.slice none 0 0)).toArray (0, 0) _ rfl (setRow_heap _ _ _ _ _ _ HI3.out.c.r) Tryd.underlying44 rfl (by kernel_rfl)) rfl ?_
              exact choice_none hR0.out (below_setRow HB3.out (Nat.le_refl _) _)
            | some z2 =>
              obtain rfl := hz _ hset
              have hfin := HFI.out
              rw [hset] at hfin
              have HF4 : Hid (fillC z (fs.drop (k + 1)) (ws.drop (k + 1 + 1)) = R) := hfin
              clear hz hset hfin HFI
              go_wp2_with fail
              go_roundw
              case rel => exact ⟨k + 1, z, by go_num, by omega, HF4, HI3⟩
              case measure => simp [intOf]; omega
          · obtain rfl : k = fs.length := by omega
            have hR0 : Hid (choiceC l = some y) := by
              show _ = _
              rw [HRR.out, ← HF.out, List.drop_eq_nil_of_le (Nat.le_refl _)]
              rfl
            clear HF hlt
            have HB3 := Lib.hid HI.out.c.b
            obtain ⟨vy, hyb, hyv⟩ := HI.out.o
            have HYV := Lib.hid hyv; clear hyv
            have HYB := Lib.hid hyb
            unfold chCells at hyb
            have d0 := (blk_cell hyb 0).trans (rfl : _ = some (Value.int .i64 y.d))
            have d1 := (blk_cell hyb 1).trans (rfl : _ = some (Value.string (mkS y.bk)))
            have d2 := (blk_cell hyb 2).trans (rfl : _ = some (Value.string (mkS y.ky)))
            have d3 := (blk_cell hyb 3).trans (rfl : _ = some vy)
            have d4 := (blk_cell hyb 4).trans (rfl : _ = some (Value.int .i64 y.n))
            have d5 := (blk_cell hyb 5).trans (rfl : _ = some (Value.int .i64 y.a))
            have d6 := (blk_cell hyb 6).trans (rfl : _ = some (Value.string (mkS y.pf)))
            have d7 := (blk_cell hyb 7).trans (rfl : _ = some (Value.string (mkS y.fr)))
            have d8 := (blk_cell hyb 8).trans (rfl : _ = some (Value.int .i64 y.fi))
            have d9 := (blk_cell hyb 9).trans (rfl : _ = some (Value.int .i64 y.mo))
            obtain ⟨Ay, cy, rfl, hly, hfy⟩ := HYV.out
            clear hyb
            go_wp2_with (refine wpList_store_row rfl 44 (.tmp 2) (.tmp 54) rfl w.heap.size (chCells y (.slice Ay (byN y.dt).length cy)).toArray rfl rfl 44 _ HI.out.c.r (by kernel_rfl) rfl (chCells_all _ _ _ _) ?_)
            refine bodyPost_ret (results_ct rfl _ _ w.heap.size 44 (chCells y (.slice Ay (byN y.dt).length cy)).toArray (0, 0) _ rfl (setRow_heap _ _ _ _ _ _ HI.out.c.r) Tryd.underlying44 rfl (by kernel_rfl)) rfl ?_
            refine choice_some hR0.out (below_setRow HB3.out (Nat.le_refl _) _) ⟨Ay, cy, rfl, hly, ?_⟩ HI.out.k
            exact Kd.F_mono (Kd.F_step hfy (fun k hk _ => setRow_other _ _ _ _ (by omega))) (fun k hk => by omega)
      · rw [if_neg hm] at HF2
        have HF3 : Hid (fromC ws (20 - (d + 1)) ((d + 1 : Nat) : Int) = R) := by
          show _ = _
          rw [← HF2.out, show 20 - (d + 1) = 19 - d by omega]
          rfl
        by_cases hv : vb = h0
        · have hl2 : ¬ ws.length = fs.length + 1 := fun e => hm ⟨hv, e⟩
          have e1 : ((ws.length : Int) == (fs.length : Int) + 1) = false := by rw [beq_eq_false_iff_ne]; omega
          have e2 : ((ws.length : Int) != (fs.length : Int) + 1) = true := by rw [bne, e1]; rfl
          subst hv
          clear hm hl2
          go_wp2_with fail
          go_roundw
          case rel => exact ⟨d + 1, by go_num, by omega, by omega, HF3, HS2⟩
          case measure => simp [intOf]; omega
        · obtain ⟨e1, e2⟩ := bne_mkS hv
          clear hm hv
          go_wp2_with fail
          go_roundw
          case rel => exact ⟨d + 1, by go_num, by omega, by omega, HF3, HS2⟩
          case measure => simp [intOf]; omega
    · obtain rfl : d = 20 := by omega
      have hR0 : Hid (choiceC l = none) := by
        show _ = _
        rw [HRR.out, ← HF.out]
        rfl
      clear HF
      have HB3 := Lib.hid HS.out.b
      go_wp2_with (refine wpList_store_row rfl 44 (.tmp 2) (.tmp 55) rfl w.heap.size (chCells (bareC 0) (.slice none 0 0)).toArray rfl rfl 44 _ HS.out.r (by kernel_rfl) rfl (chCells_all _ _ _ _) ?_)
      refine bodyPost_ret (results_ct rfl _ _ w.heap.size 44 (chCells (bareC 0) (.slice none 0 0)).toArray (0, 0) _ rfl (setRow_heap _ _ _ _ _ _ HS.out.r) Tryd.underlying44 rfl (by kernel_rfl)) rfl ?_
      exact choice_none hR0.out (below_setRow HB3.out (Nat.le_refl _) _)
end Go.Proofs.YtghllfihmmlcnaaDoor
