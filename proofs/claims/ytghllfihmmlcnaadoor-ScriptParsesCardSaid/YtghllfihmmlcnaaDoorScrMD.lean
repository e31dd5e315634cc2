/- Text of package script: a choice's line. -/
import Derived.Test.YtghllfihmmlcnaaDoorScrMC
import Derived.Test.YtghllfihmmlcnaaDoorWEqStruct
import Derived.Laws.CopyOwn
import Derived.Outline
import Derived.RegionTactic
import Derived.BigRegion
import Derived.ChangeAlike

namespace Go.Proofs.YtghllfihmmlcnaaDoor
open Go.RowKit Nam YtghllfihmmlcnaaDoorW.PrintWords

theorem eqA42 (d : Nat) (w : World) (x0 y0 : ByteArray) (x1 y1 : ByteArray) (x2 y2 : Int) (x3 y3 : Int) :
    (Op.equalIn (d + 2) 42 (.agg #[.string x0, .string x1, .int .i64 x2, .int .i64 x3]) (.agg #[.string y0, .string y1, .int .i64 y2, .int .i64 y3])).run Tryd.prog w = .ok (x0.toList == y0.toList && (x1.toList == y1.toList && (x2 == y2 && (x3 == y3)))) w := by
  refine eqA_of Tryd.underlying42 (by kernel_rfl) ?_
  refine eqf_cons (by rfl) (by go_simp; rfl) (by go_simp; rfl) (by go_simp) ?_
  refine eqf_cons (by rfl) (by go_simp; rfl) (by go_simp; rfl) (by go_simp) ?_
  refine eqf_cons (by rfl) (by go_simp; rfl) (by go_simp; rfl) (by go_simp) ?_
  exact eqf_last (by rfl) (by go_simp; rfl) (by go_simp; rfl) (by go_simp)
attribute [local go_sem high] eqA42

/-- Two that are not one part at some first place. -/
theorem first_diff (x y : Ch) (h : y ≠ x) (hd : y.d = x.d) : y.bk ≠ x.bk ∨ (y.bk = x.bk ∧ y.ky ≠ x.ky) ∨ (y.bk = x.bk ∧ y.ky = x.ky ∧ y.dt ≠ x.dt) ∨ (y.bk = x.bk ∧ y.ky = x.ky ∧ y.dt = x.dt ∧ y.n ≠ x.n) ∨ (y.bk = x.bk ∧ y.ky = x.ky ∧ y.dt = x.dt ∧ y.n = x.n ∧ y.a ≠ x.a) ∨
    (y.bk = x.bk ∧ y.ky = x.ky ∧ y.dt = x.dt ∧ y.n = x.n ∧ y.a = x.a ∧ ¬ (y.pf = x.pf ∧ y.fr = x.fr ∧ y.fi = x.fi ∧ y.mo = x.mo)) := by
  by_cases h1 : y.bk = x.bk
  · by_cases h2 : y.ky = x.ky
    · by_cases h3 : y.dt = x.dt
      · by_cases h4 : y.n = x.n
        · by_cases h5 : y.a = x.a
          · refine .inr (.inr (.inr (.inr (.inr ⟨h1, h2, h3, h4, h5, fun ⟨h6, h7, h8, h9⟩ => h ?_⟩))))
            cases x
            cases y
            simp_all
          · exact .inr (.inr (.inr (.inr (.inl ⟨h1, h2, h3, h4, h5⟩))))
        · exact .inr (.inr (.inr (.inl ⟨h1, h2, h3, h4⟩)))
      · exact .inr (.inr (.inl ⟨h1, h2, h3⟩))
    · exact .inr (.inl ⟨h1, h2⟩)
  · exact .inl h1
theorem bne_mkS {a b : List UInt8} (h : a ≠ b) : ((mkS a).toList == (mkS b).toList) = false ∧ ((mkS a).toList != (mkS b).toList) = true := by
  have e : ((mkS a).toList == (mkS b).toList) = false := by rw [beq_mkS]; exact decide_eq_false h
  exact ⟨e, by rw [bne, e]; rfl⟩
theorem bne_int {a b : Int} (h : a ≠ b) : (a == b) = false ∧ (a != b) = true := by
  have e : (a == b) = false := beq_eq_false_iff_ne.2 h
  exact ⟨e, by rw [bne, e]; rfl⟩

theorem zeroCh (w : World) : (zeroValue 44).run Tryd.prog w = .ok (.agg (chCells (bareC 0) (.slice none 0 0)).toArray) w := by kernel_rfl

theorem Ch.Ok.mono {x : Ch} {m m' : Nat} (h : x.Ok m) (hm : m ≤ m') : x.Ok m' :=
  { h with bk := Nat.le_trans h.bk hm, ky := Nat.le_trans h.ky hm, dt := Nat.le_trans h.dt hm, pf := Nat.le_trans h.pf hm, fr := Nat.le_trans h.fr hm }
theorem Box.below {w w' : World} {g : Nat} {P : Nat → Prop} {x : Ch} (h : Box w g P x) (hb : Below w.heap.size w w') : Box w' g P x :=
  let ⟨v, h1, h2⟩ := h; ⟨v, blk_below h1 hb, Kd.V_below h2 hb⟩
theorem grown_trans {w w1 w2 : World} {r : Option Nat} (h : w.grownBy w1 r) (h2 : w1.grownBy w2 r) : w.grownBy w2 r :=
  ⟨h2.os.trans h.os, h2.tape.trans h.tape, h2.output.trans h.output, Nat.le_trans h.size h2.size, fun k hk hne => (h2.block k (Nat.lt_of_lt_of_le hk h.size) hne).trans (h.block k hk hne)⟩
theorem grown_below {w w1 : World} (hb : Below w.heap.size w w1) (r : Option Nat) : w.grownBy w1 r := ⟨hb.os, hb.tape, hb.output, hb.size, fun k hk _ => hb.block k hk⟩

/-- What stands between two fields. -/
structure TextSt (w : World) (x : Ch) (v : Value) (g : Nat) (fv : Value) (fs : List Nat) (y : Ch) (wr : World) : Prop where
  b : Below w.heap.size w wr
  c : wr.heap[w.heap.size]? = some (.cells (chCells x v).toArray 44 (0, 0))
  d : Dt wr (fun k => k < w.heap.size) v x.dt
  o : Box wr g (fun k => g < k) y
  f : Kd.R (Kd.int .i64) 3 wr w.heap.size (fun k => k < g) fv (fs.map fun f : Nat => (f : Int))
theorem TextSt.step {w : World} {x : Ch} {v : Value} {g : Nat} {fv : Value} {fs : List Nat} {y z : Ch} {wr w2 : World} (h : TextSt w x v g fv fs y wr) (hg : wr.grownBy w2 (some g)) (hgl : w.heap.size < g) (ho : Box w2 g (fun k => g < k) z) : TextSt w x v g fv fs z w2 :=
  ⟨h.b.grown hg h.b.size (fun k hk => by injection hk with hk; omega), blk_grown h.c hg (by simp; omega), Kd.V_grown h.d hg (fun k hk e => by injection e with e; omega), ho, Kd.R_grown h.f hg (fun k hk e => by injection e with e; omega)⟩

set_option maxHeartbeats 1000000 in
set_option maxRecDepth 100000 in
theorem ptext2_is (x : Ch) (v : Value) (w : World) (hx : x.Ok 20000) (hv : Dt w (fun _ => True) v x.dt) (hE : Env w) :
    Calls Tryd.prog 12 #[.agg (chCells x v).toArray] w fun e w' => e = .returned (.tuple #[.string (mkS ((textC x).getD [])), .bool (textC x).isSome]) ∧ Below w.heap.size w w' := by
  obtain ⟨o0, ho0⟩ : ∃ o0, Obj.cells (chCells x v).toArray 44 (0, 0) = o0 := ⟨_, rfl⟩
  have HX := Lib.hid hx; clear hx
  have HV := Lib.hid hv; clear hv
  have HE := Lib.hid hE; clear hE
  obtain ⟨vb, fs, hform⟩ : ∃ vb fs, formC x.d = (vb, fs) := ⟨_, _, rfl⟩
  have hlen := form_len x.d
  have hfle := form_le x.d
  rw [hform] at hlen hfle
  have HF := Lib.hid (form_is x.d)
  rw [hform] at HF
  simp only [] at hlen hfle HF
  have HFL := Lib.hid hfle; clear hfle
  obtain ⟨hlen1, hlen2⟩ := hlen
  by_cases hvb : vb = []
  · subst hvb
    have HT : Hid (textC x = none) := by
      show _ = _
      unfold textC
      rw [hform, if_pos rfl]
    clear hform
    have hnv : (mkS []).toList.isEmpty = true := by rw [isEmpty_mkS]; rfl
    have hb0 : Below w.heap.size w (w.alloc o0) := (Below.refl _ _).alloc (Nat.le_refl _) _
    have hk0 : (w.alloc o0).heap[w.heap.size]? = some o0 := blk_new w o0
    rw [← ho0] at hk0 hb0
    have c0 := (blk_cell hk0 0).trans (rfl : _ = some (Value.int .i64 x.d))
    have HB0 := Lib.hid hb0; clear hb0
    clear ho0 o0 hk0
    unfold chCells at *
    go_enter Tryd.func12, Tryd.ntmps12
    go_wp2_with fail
    refine (HF.out _).mono ?_
    rintro e w1 ⟨vf, rfl, hR, hb1⟩
    have HB1 := Lib.hid (HB0.out.trans (hb1.mono (by simp)))
    clear hb1 hR c0
    go_wp2_with fail
    go_ret2
    exact ⟨by rw [HT.out]; rfl, HB1.out⟩
  · have hnv : (mkS vb).toList.isEmpty = false := by rw [isEmpty_mkS]; exact decide_eq_false hvb
    have HNV := Lib.hid hvb; clear hvb
    have hb0 : Below w.heap.size w (w.alloc o0) := (Below.refl _ _).alloc (Nat.le_refl _) _
    have hk0 : (w.alloc o0).heap[w.heap.size]? = some o0 := blk_new w o0
    rw [← ho0] at hk0 hb0
    have c0 := (blk_cell hk0 0).trans (rfl : _ = some (Value.int .i64 x.d))
    have HB0 := Lib.hid hb0; clear hb0
    have HK0 := Lib.hid hk0; clear hk0
    clear ho0 o0
    unfold chCells at *
    go_enter Tryd.func12, Tryd.ntmps12
    go_wp2_with fail
    refine (HF.out _).mono ?_
    rintro e w1 ⟨vf, rfl, hR, hb1⟩
    obtain ⟨A, cp, rfl⟩ := Kd.R_slice hR
    have hlf : (fs.map fun f : Nat => (f : Int)).length = fs.length := List.length_map _
    rw [hlf] at hR ⊢
    clear hlf
    have HR := Lib.hid hR; clear hR
    have hk1 := blk_below HK0.out hb1
    have d0 := (blk_cell hk1 0).trans (rfl : _ = some (Value.int .i64 x.d))
    have HK1 := Lib.hid hk1; clear hk1
    have hs1 : w.heap.size + 1 ≤ w1.heap.size := by have := hb1.size; simpa using this
    have HB1 := Lib.hid (HB0.out.trans (hb1.mono (by simp)))
    clear hb1 c0
    go_wp2_with fail
    obtain ⟨g, hg⟩ : ∃ g, w1.heap.size = g := ⟨_, rfl⟩
    obtain ⟨o1, ho1⟩ : ∃ o1, Obj.cells (chCells (bareC x.d) (.slice none 0 0)).toArray 44 (0, 0) = o1 := ⟨_, rfl⟩
    have hb2 : Below w.heap.size w (w1.alloc o1) := HB1.out.alloc HB1.out.size _
    have hb12 : Below w1.heap.size w1 (w1.alloc o1) := (Below.refl _ _).alloc (Nat.le_refl _) _
    have ST : Hid (TextSt w x v g (.slice A fs.length cp) fs (onlyC x (fs.take 0)) (w1.alloc o1)) :=
      ⟨hb2, blk_below HK1.out hb12, Kd.V_mono (Kd.V_below (Kd.V_bound HV.out) hb2) (fun _ hk => hk.2), ⟨_, by rw [← hg, blk_new w1 o1, ← ho1]; rfl, Kd.V_nil _ _ _ _ _⟩, Kd.R_mono (Kd.R_below (Kd.R_bound (Kd.R_lower HR.out (by simp))) hb12) (fun k hk => by have := hk.2.2.1; omega)⟩
    have hgl : w.heap.size < g := by omega
    have HG := Lib.hid hg; clear hg
    rw [← ho1] at ST
    unfold chCells bareC at ST
    clear ho1 hb2 hb12 d0
    rw [show w1.heap.size = g from HG.out]
    go_loopw [4, 23] (fun vl vi wr => ∃ k : Nat, vi = .int .i64 k ∧ k ≤ fs.length ∧ vl = .string (mkS (vb ++ lineC x (fs.take k))) ∧ Hid (TextSt w x v g (.slice A fs.length cp) fs (onlyC x (fs.take k)) wr)) (fun _ vi _ => fs.length - (intOf vi).toNat)
    case atStart => exact ⟨0, rfl, Nat.zero_le _, by simp [lineC], ST⟩
    case round =>
      clear ST HK1 HB1 HR
      obtain ⟨k, rfl, hk, rfl, HS⟩ := hrel
      by_cases hlt : k < fs.length
      · have hltz : (k : Int) < (fs.length : Int) := by omega
        obtain ⟨f, hf⟩ : ∃ f, fs[k] = f := ⟨_, rfl⟩
        have hf8 : f ≤ 8 := HFL.out f (by rw [← hf]; exact List.getElem_mem _)
        obtain ⟨ad, hA, hcell⟩ := Kd.at_int (Kd.R_reads' HS.out.f).2.2 (k : Int) (by omega) (by simp; omega)
        subst hA
        have hrd : rd (fs.map fun f : Nat => (f : Int)) (k : Int) = (f : Int) := by
          unfold rd
          rw [Int.toNat_natCast, List.getD_eq_getElem?_getD, List.getElem?_map, List.getElem?_eq_getElem hlt, hf]
          rfl
        rw [hrd, Int.toNat_natCast] at hcell
        clear hrd
        have htk : fs.take (k + 1) = fs.take k ++ [f] := by rw [List.take_succ_eq_append_getElem hlt, hf]
        have HTK := Lib.hid htk; clear htk hf
        have hC := HS.out.c
        unfold chCells at hC
        have c0 := (blk_cell hC 0).trans (rfl : _ = some (Value.int .i64 x.d))
        have c1 := (blk_cell hC 1).trans (rfl : _ = some (Value.string (mkS x.bk)))
        have c2 := (blk_cell hC 2).trans (rfl : _ = some (Value.string (mkS x.ky)))
        have c3 := (blk_cell hC 3).trans (rfl : _ = some v)
        have c4 := (blk_cell hC 4).trans (rfl : _ = some (Value.int .i64 x.n))
        have c5 := (blk_cell hC 5).trans (rfl : _ = some (Value.int .i64 x.a))
        have c6 := (blk_cell hC 6).trans (rfl : _ = some (Value.string (mkS x.pf)))
        have c7 := (blk_cell hC 7).trans (rfl : _ = some (Value.string (mkS x.fr)))
        have c8 := (blk_cell hC 8).trans (rfl : _ = some (Value.int .i64 x.fi))
        have c9 := (blk_cell hC 9).trans (rfl : _ = some (Value.int .i64 x.mo))
        clear hC
        go_wp2_with fail
        refine (word_is x f hf8 v _ wr (HX.out.mono (by omega)) HS.out.d (HE.out.below HS.out.b)).mono ?_
        rintro e w2 ⟨rfl, hb2⟩
        have HS2 : Hid (TextSt w x v g (.slice (some ad) fs.length cp) fs (onlyC x (fs.take k)) w2) := HS.out.step (grown_below hb2 _) hgl (HS.out.o.below hb2)
        clear hb2 hcell c0 c1 c2 c3 c4 c5 c6 c7 c8 c9
        have hwl : (wordC x f).length ≤ 65536 := by have := wordC_le x 20000 HX.out f; omega
        go_wp2_with fail
        refine (set_is (onlyC x (fs.take k)) f hf8 (wordC x f) g (fun k => g < k) w2 HS2.out.o hwl (fun k hk => by have := blk_lt HS2.out.o.choose_spec.1; omega) (HE.out.below HS2.out.b)).mono ?_
        rintro e w3 ⟨y, rfl, hy, hbox, hgr, -⟩
        have hset := setC_word x (onlyC x (fs.take k)) (HX.out.mono (by omega)) f
        obtain rfl := hy _ hset
        rw [← onlyC_snoc, ← HTK.out] at hbox
        have HS3 : Hid (TextSt w x v g (.slice (some ad) fs.length cp) fs (onlyC x (fs.take (k + 1))) w3) := HS2.out.step hgr hgl hbox
        clear hbox hgr hy
        rw [hset]
        clear hset
        have hz1 : (mkS (wordC x f)).size ≤ 65536 := by rw [mkS_size]; exact hwl
        have hz2 : (mkS (vb ++ lineC x (fs.take k))).size ≤ 400000 := by
          rw [mkS_size, List.length_append]
          have h1 := lineC_le x 20000 HX.out (fs.take k)
          have h2 : (fs.take k).length ≤ 5 := by rw [List.length_take]; omega
          have h3 := Nat.mul_le_mul_right (2 * 20000 + 22) h2
          omega
        have hfin : Hid (mkS (vb ++ lineC x (fs.take k)) ++ (⟨#[32]⟩ ++ mkS (wordC x f)) = mkS (vb ++ lineC x (fs.take (k + 1)))) := by
          show _ = _
          rw [HTK.out, lineC_snoc]
          apply ByteArray.ext
          apply Array.toList_inj.1
          simp [mkS]
        go_wp2_with fail
        go_roundw
        case rel => exact ⟨k + 1, by go_num, by omega, by rw [hfin.out], HS3⟩
        case measure => simp [intOf]; omega
      · obtain rfl : k = fs.length := by omega
        clear hk hlt
        rw [List.take_length] at HS ⊢
        obtain ⟨y, hy⟩ : ∃ y, onlyC x fs = y := ⟨_, rfl⟩
        have hyd : y.d = x.d := by rw [← hy]; exact onlyC_d x fs
        have HT : Hid (textC x = if y = x then some (vb ++ lineC x fs) else none) := by
          show _ = _
          unfold textC
          rw [hform, if_neg HNV.out, hy]
        rw [hy] at HS
        obtain ⟨vy, hyb, hyv⟩ := HS.out.o
        have hC := HS.out.c
        have hcx := Dt_string HS.out.d
        have hcy := Dt_string hyv
        have HB := Lib.hid HS.out.b
        clear HS hyv hy hform
        unfold chCells at hC hyb
        have c1 := (blk_cell hC 1).trans (rfl : _ = some (Value.string (mkS x.bk)))
        have c2 := (blk_cell hC 2).trans (rfl : _ = some (Value.string (mkS x.ky)))
        have c3 := (blk_cell hC 3).trans (rfl : _ = some v)
        have c4 := (blk_cell hC 4).trans (rfl : _ = some (Value.int .i64 x.n))
        have c5 := (blk_cell hC 5).trans (rfl : _ = some (Value.int .i64 x.a))
        have c6 := (blk_cell hC 6).trans (rfl : _ = some (Value.string (mkS x.pf)))
        have c7 := (blk_cell hC 7).trans (rfl : _ = some (Value.string (mkS x.fr)))
        have c8 := (blk_cell hC 8).trans (rfl : _ = some (Value.int .i64 x.fi))
        have c9 := (blk_cell hC 9).trans (rfl : _ = some (Value.int .i64 x.mo))
        have d1 := (blk_cell hyb 1).trans (rfl : _ = some (Value.string (mkS y.bk)))
        have d2 := (blk_cell hyb 2).trans (rfl : _ = some (Value.string (mkS y.ky)))
        have d3 := (blk_cell hyb 3).trans (rfl : _ = some vy)
        have d4 := (blk_cell hyb 4).trans (rfl : _ = some (Value.int .i64 y.n))
        have d5 := (blk_cell hyb 5).trans (rfl : _ = some (Value.int .i64 y.a))
        have d6 := (blk_cell hyb 6).trans (rfl : _ = some (Value.string (mkS y.pf)))
        have d7 := (blk_cell hyb 7).trans (rfl : _ = some (Value.string (mkS y.fr)))
        have d8 := (blk_cell hyb 8).trans (rfl : _ = some (Value.int .i64 y.fi))
        have d9 := (blk_cell hyb 9).trans (rfl : _ = some (Value.int .i64 y.mo))
        clear hC hyb
        by_cases hxy : y = x
        · rw [if_pos hxy] at HT
          subst hxy
          clear hyd
          go_wp2
          go_ret2
          exact ⟨by rw [HT.out]; rfl, HB.out⟩
        · rw [if_neg hxy] at HT
          have hfd := first_diff x y hxy hyd
          have HXY := Lib.hid hxy; clear hxy
          obtain ⟨yd, ybk, yky, ydt, yn, ya, ypf, yfr, yfi, ymo⟩ := y
          simp only [] at hyd hfd d1 d2 d3 d4 d5 d6 d7 d8 d9 hcy
          clear hyd HXY
          rcases hfd with h | ⟨rfl, h⟩ | ⟨rfl, rfl, h⟩ | ⟨rfl, rfl, rfl, h⟩ | ⟨rfl, rfl, rfl, rfl, h⟩ | ⟨rfl, rfl, rfl, rfl, rfl, h⟩
          · obtain ⟨e1, e2⟩ := bne_mkS h
            clear h
            go_wp2
            go_ret2
            exact ⟨by rw [HT.out]; rfl, HB.out⟩
          · obtain ⟨e1, e2⟩ := bne_mkS h
            clear h
            go_wp2
            go_ret2
            exact ⟨by rw [HT.out]; rfl, HB.out⟩
          · obtain ⟨e1, e2⟩ := bne_mkS h
            clear h
            go_wp2
            go_ret2
            exact ⟨by rw [HT.out]; rfl, HB.out⟩
          · obtain ⟨e1, e2⟩ := bne_int h
            clear h
            go_wp2
            go_ret2
            exact ⟨by rw [HT.out]; rfl, HB.out⟩
          · obtain ⟨e1, e2⟩ := bne_int h
            clear h
            go_wp2
            go_ret2
            exact ⟨by rw [HT.out]; rfl, HB.out⟩
          · have e1 : ((mkS ypf).toList == (mkS x.pf).toList && ((mkS yfr).toList == (mkS x.fr).toList && (yfi == x.fi && (ymo == x.mo)))) = false := by
              rw [Bool.eq_false_iff]
              intro e
              simp only [Bool.and_eq_true, beq_mkS, decide_eq_true_eq, beq_iff_eq] at e
              exact h ⟨e.1, e.2.1, e.2.2.1, e.2.2.2⟩
            clear h
            go_wp2
            go_ret2
            exact ⟨by rw [HT.out]; rfl, HB.out⟩
end Go.Proofs.YtghllfihmmlcnaaDoor

/- cut of package script: a text cut at each of one byte. -/
namespace Go.Proofs.YtghllfihmmlcnaaDoor
open Go.RowKit Nam YtghllfihmmlcnaaDoorW.PrintWords

/-- The bytes of a rune that is none of ASCII's are none of ASCII's. -/
theorem rune_bytes (s : ByteArray) (k : Nat) (hp : k < s.size) (ha : 128 ≤ (s[k]).toNat) : ∀ c ∈ (s.data.toList.drop k).take (Utf8.decode s k).2, 128 ≤ c.toNat := by
  have hd := drop_at s k hp
  have hne : s.data.toList.drop k ≠ [] := by rw [hd]; simp
  have h0 : 128 ≤ (((s.data.toList.drop k).getD 0 0)).toNat := by rw [hd]; simpa using ha
  have hdl := Lib.decodeL_drop s k
  by_cases hok : (Lib.decodeL (s.data.toList.drop k)).1 = 65533 ∧ (Lib.decodeL (s.data.toList.drop k)).2 = 1
  · rw [← hdl, hok.2, hd]
    intro c hc
    simp at hc
    subst hc
    exact ha
  · rw [← hdl]
    exact high_step _ hne h0 hok
theorem rune_le (s : ByteArray) (k : Nat) (hp : k < s.size) : k + (Utf8.decode s k).2 ≤ s.size := by
  have hne : s.data.toList.drop k ≠ [] := by rw [drop_at s k hp]; simp
  have h := Lib.decodeL_le (s.data.toList.drop k) hne
  rw [Lib.decodeL_drop, List.length_drop] at h
  have : s.data.toList.length = s.size := by simp
  omega

theorem info9 : (Tryd.prog.info? 9).map (fun i => (i.zero, i.size, i.bytes)) = some (some (.string ⟨#[]⟩), 1, 16) := by kernel_rfl

/-- What has been cut off so far, and what is to come. -/
def CutSt (s : ByteArray) (c : UInt8) (acc : List (List UInt8)) (a k : Nat) : Prop :=
  acc ++ (splitB c (s.data.toList.drop k)).modifyHead ((s.data.toList.drop a).take (k - a) ++ ·) = splitB c s.data.toList
theorem take_more (s : ByteArray) (a k p : Nat) (h : a ≤ k) : (s.data.toList.drop a).take (k + p - a) = (s.data.toList.drop a).take (k - a) ++ (s.data.toList.drop k).take p := by
  rw [show k + p - a = (k - a) + p by omega, List.take_add, List.drop_drop, show a + (k - a) = k by omega]
theorem CutSt.skip {s : ByteArray} {c : UInt8} {acc : List (List UInt8)} {a k p : Nat} (h : CutSt s c acc a k) (hak : a ≤ k) (hx : c ∉ (s.data.toList.drop k).take p) : CutSt s c acc a (k + p) := by
  unfold CutSt at h ⊢
  rw [take_more s a k p hak, ← splitB_skip c _ _ _ hx, ← List.drop_drop, List.take_append_drop]
  exact h
theorem CutSt.cut {s : ByteArray} {c : UInt8} {acc : List (List UInt8)} {a k : Nat} (h : CutSt s c acc a k) (hk : k < s.size) (hc : s[k] = c) : CutSt s c (acc ++ [(s.data.toList.drop a).take (k - a)]) (k + 1) (k + 1) := by
  unfold CutSt at h ⊢
  rw [drop_at s k hk, splitB_step, if_pos hc] at h
  rw [Nat.sub_self, List.take_zero, modifyHead_nil, List.append_assoc]
  exact h
theorem CutSt.last {s : ByteArray} {c : UInt8} {acc : List (List UInt8)} {a : Nat} (h : CutSt s c acc a s.size) : acc ++ [(s.data.toList.drop a).take (s.size - a)] = splitB c s.data.toList := by
  unfold CutSt at h
  rw [List.drop_eq_nil_of_le (by simp : s.data.toList.length ≤ s.size)] at h
  simpa [splitB] using h

set_option maxHeartbeats 2000000 in
set_option maxRecDepth 100000 in
theorem cut_is (l : List UInt8) (c : UInt8) (hc : c.toNat < 128) (w : World) (hs : l.length ≤ 100000) :
    Calls Tryd.prog 24 #[.string (mkS l), .int .i32 (c.toNat : Int)] w fun e w' => (∃ v, e = .returned v ∧ Kd.R Kd.string 9 w' w.heap.size (fun k => w.heap.size ≤ k) v ((splitB c l).map mkS)) ∧ Below w.heap.size w w' := by
  obtain ⟨s, hsl⟩ : ∃ s, mkS l = s := ⟨_, rfl⟩
  have hl : s.data.toList = l := by rw [← hsl]; rfl
  rw [hsl, ← hl]
  have hz : s.size ≤ 100000 := by rw [← hsl, mkS_size]; exact hs
  clear hsl hl hs l
  go_enter Tryd.func24, Tryd.ntmps24
  go_wp2_with fail
  go_loopw [5, 6] (fun vo va wr => ∃ (k a : Nat) (acc : List (List UInt8)) (sv : Value), sv = vo ∧ va = .int .i64 a ∧ a ≤ k ∧ k ≤ s.size ∧ acc.length ≤ k ∧ Hid (wr.heap[w.heap.size]? = some (.stringIter s k)) ∧ Hid (CutSt s c acc a k) ∧ Hid (Kd.R Kd.string 9 wr w.heap.size (fun k => w.heap.size < k) sv (acc.map mkS)) ∧ Hid (Below w.heap.size w wr)) (fun _ _ wr => s.size - wr.iterPos w.heap.size)
  case atStart =>
    refine ⟨0, 0, [], _, rfl, rfl, Nat.le_refl _, Nat.zero_le _, Nat.zero_le _, ?_, ?_, Kd.R_nil _ _ _ _ _, (Below.refl _ w).alloc (Nat.le_refl _) _⟩
    · exact World.iter_heap w s 0
    · show _ = _
      simp only [List.nil_append, List.drop_zero, Nat.sub_zero, List.take_zero]
      exact modifyHead_nil _
  case round =>
    obtain ⟨k, a, acc, sv, hsv, rfl, hak, hk, hacc, HIT, HC, HR, HB⟩ := hrel
    subst hsv
    have hsz : w.heap.size < wr.heap.size := (Array.getElem?_eq_some_iff.1 HIT.out).1
    by_cases hp : k < s.size
    · have hnx : ∀ ty, (Instr.next (.pointer (some ⟨w.heap.size, 0, none⟩)) true ty).run Tryd.prog wr = _ := fun ty => Lib.run_next_any_at wr w.heap.size s k ty HIT.out hp
      have hw1 := width_pos s k hp
      have hle := decode_le s k
      have hrb := rune_bytes s k hp
      have hrl := rune_le s k hp
      obtain ⟨n, p2, hnp⟩ : ∃ n p2, Utf8.decode s k = (n, p2) := ⟨_, _, rfl⟩
      have hlow : (n < 128 → n = (s[k]).toNat ∧ p2 = 1) ∧ (128 ≤ n → 128 ≤ (s[k]).toNat) := by
        by_cases ha : (s[k]).toNat < 128
        · have h1 := decode_ascii s k hp ha
          rw [hnp] at h1
          obtain ⟨e1, e2⟩ := Prod.mk.inj h1
          exact ⟨fun _ => ⟨e1, e2⟩, fun h => by omega⟩
        · have h1 := decode_high s k hp (by omega)
          rw [hnp] at h1
          exact ⟨fun h => by have := h1.1; simp at this; omega, fun _ => by omega⟩
      rw [hnp] at hle hnx hw1 hrb hrl
      simp only [] at hle hnx hw1 hrb hrl
      clear hnp
      have h32 : IntKind.i32.wrap (n : Int) = (n : Int) := IntWalk.i32_in _ (by omega)
      have HRB := Lib.hid hrb; clear hrb
      have HL := Lib.hid hlow; clear hlow
      obtain ⟨W, hW⟩ : ∃ W, wr.iterAt w.heap.size s (k + p2) = W := ⟨_, rfl⟩
      have HIT2 : Hid (W.heap[w.heap.size]? = some (.stringIter s (k + p2))) := by show _ = _; rw [← hW]; exact Lib.iterAt_heap wr w.heap.size s k (k + p2) HIT.out
      have HB2 : Hid (Below w.heap.size w W) := by show Below _ _ _; rw [← hW]; exact Lib.below_iterAt HB.out (Nat.le_refl _) s (k + p2)
      have HR2 : Hid (Kd.R Kd.string 9 W w.heap.size (fun k => w.heap.size < k) sv (acc.map mkS)) := by
        show Kd.R _ _ _ _ _ _ _
        rw [← hW]
        exact Kd.R_step HR.out (fun j hj _ => Lib.iterAt_other _ _ _ _ _ (by omega))
      have hWs : w.heap.size < W.heap.size := (Array.getElem?_eq_some_iff.1 HIT2.out).1
      rw [hW] at hnx
      clear hW HB HR
      by_cases hn : n = c.toNat
      · have hp1 := HL.out.1 (by omega)
        obtain ⟨e1, rfl⟩ := hp1
        have hsc : s[k] = c := UInt8.toNat_inj.1 (by omega)
        have HC2 := Lib.hid (HC.out.cut hp hsc)
        have hq : ((n : Int) == (c.toNat : Int)) = true := by rw [hn]; exact beq_self_eq_true _
        have E1 := Lib.hid e1; clear e1
        have HN := Lib.hid hn; clear hn
        have HSC := Lib.hid hsc; clear hsc
        have haz : (a : Int) ≤ (k : Int) := by omega
        have hkz : (k : Int) ≤ (s.size : Int) := by omega
        go_wp2_with (at_builtin; refine Kd.R_append Kd.string (w0 := w) w.heap.size rfl (.tmp 18) (.tmp 23) 29 9 (.string ⟨#[]⟩) 16 rfl Tryd.underlying29 info9 rfl (by decide) (by omega) sv (acc.map mkS) (s.extract a k) [.string (s.extract a k)] (fun k => w.heap.size < k) (fun _ => False) rfl rfl rfl (fun _ hk => hk.elim) (fun j hj => by omega) HR2.out HB2.out HB2.out.size (by rw [List.length_map]; omega) ?_; intro v1 w3 hR3 hb3 hg3 hat3)
        have hacc2 : acc.map mkS ++ [s.extract a k] = (acc ++ [(s.data.toList.drop a).take (k - a)]).map mkS := by rw [List.map_append, extract_mkS]; rfl
        rw [hacc2] at hR3
        have HIT3 : Hid (w3.heap[w.heap.size]? = some (.stringIter s (k + 1))) := by
          refine blk_grown HIT2.out hg3 (fun e => ?_)
          have := HR2.out.1 _ e.symm
          omega
        have HR3 := Lib.hid hR3; clear hR3
        have HB3 := Lib.hid hb3; clear hb3 hacc2 hg3 hat3
        go_wp2_with fail
        go_roundw
        case rel => exact ⟨k + 1, k + 1, _, v1, rfl, by go_num, Nat.le_refl _, by omega, by simp; omega, HIT3, HC2, HR3, HB3⟩
        case measure =>
          have e := HIT3.out
          have e0 := HIT.out
          simp [World.iterPos, e, e0]
          omega
      · have hq : ((n : Int) == (c.toNat : Int)) = false := by rw [beq_eq_false_iff_ne]; omega
        have HC2 : Hid (CutSt s c acc a (k + p2)) := by
          refine HC.out.skip hak ?_
          intro hm
          by_cases h128 : 128 ≤ n
          · have := HRB.out (HL.out.2 h128) c hm
            omega
          · obtain ⟨e1, rfl⟩ := HL.out.1 (by omega)
            rw [drop_at s k hp] at hm
            simp at hm
            rw [hm] at hn
            exact hn e1
        have HN := Lib.hid hn; clear hn
        go_wp2_with fail
        go_roundw
        case rel => exact ⟨k + p2, a, acc, sv, rfl, rfl, by omega, by omega, by omega, HIT2, HC2, HR2, HB2⟩
        case measure =>
          have e := HIT2.out
          have e0 := HIT.out
          simp [World.iterPos, e, e0]
          omega
    · have hnx : ∀ ty, (Instr.next (.pointer (some ⟨w.heap.size, 0, none⟩)) true ty).run Tryd.prog wr = _ := fun ty => Lib.run_next_end_at wr w.heap.size s k ty HIT.out hp
      obtain rfl : k = s.size := by omega
      have hfin := HC.out.last
      have HF := Lib.hid hfin; clear hfin
      have haz : (a : Int) ≤ (s.size : Int) := by omega
      go_wp2_with (at_builtin; refine Kd.R_append Kd.string (w0 := w) w.heap.size rfl (.tmp 27) (.tmp 31) 29 9 (.string ⟨#[]⟩) 16 rfl Tryd.underlying29 info9 rfl (by decide) (by omega) sv (acc.map mkS) (s.extract a s.size) [.string (s.extract a s.size)] (fun k => w.heap.size < k) (fun _ => False) rfl rfl rfl (fun _ hk => hk.elim) (fun j hj => by omega) HR.out HB.out HB.out.size (by rw [List.length_map]; omega) ?_; intro v1 w3 hR3 hb3 hg3 hat3)
      have hacc2 : acc.map mkS ++ [s.extract a s.size] = (acc ++ [(s.data.toList.drop a).take (s.size - a)]).map mkS := by rw [List.map_append, extract_mkS]; rfl
      rw [hacc2, HF.out] at hR3
      have HR3 := Lib.hid hR3; clear hR3 hacc2 hg3 hat3
      go_ret
      exact ⟨⟨v1, rfl, Kd.R_mono HR3.out (fun _ hk => Nat.le_of_lt hk)⟩, hb3⟩
end Go.Proofs.YtghllfihmmlcnaaDoor

/- choice of package script: a line read. -/
namespace Go.Proofs.YtghllfihmmlcnaaDoor
open Go.RowKit Nam YtghllfihmmlcnaaDoorW.PrintWords

/-- The fields, as they were written. -/
def fillC (y : Ch) : List Nat → List (List UInt8) → Option Ch
  | [], _ => some y
  | _ :: _, [] => none
  | f :: fs, w :: ws => (setC y f w).bind fun y => fillC y fs ws
def tryC (l : List (List UInt8)) (d : Int) : Option (Option Ch) :=
  if (formC d).1 = l.headD [] ∧ l.length = (formC d).2.length + 1 then some (fillC (bareC d) (formC d).2 l.tail) else none
def fromC (l : List (List UInt8)) : Nat → Int → Option Ch
  | 0, _ => none
  | k + 1, d => match tryC l d with
    | some r => r
    | none => fromC l k (d + 1)
/-- The choice of a line; none: it has none. -/
def choiceC (s : List UInt8) : Option Ch := fromC (splitB 32 s) 19 1

structure ChoSt (w : World) (ws : List (List UInt8)) (lv : Value) (wr : World) : Prop where
  b : Below w.heap.size w wr
  r : wr.heap[w.heap.size]? = some (.cells (chCells (bareC 0) (.slice none 0 0)).toArray 44 (0, 0))
  s : Kd.R Kd.string 9 wr w.heap.size (fun k => w.heap.size < k) lv (ws.map mkS)
theorem ChoSt.below {w : World} {ws : List (List UInt8)} {lv : Value} {wr w2 : World} (h : ChoSt w ws lv wr) (hb : Below wr.heap.size wr w2) : ChoSt w ws lv w2 :=
  ⟨h.b.trans (hb.mono h.b.size), blk_below h.r hb, Kd.R_below h.s hb⟩
theorem ChoSt.grown {w : World} {ws : List (List UInt8)} {lv : Value} {wr w2 : World} {g : Nat} (h : ChoSt w ws lv wr) (hg : wr.grownBy w2 (some g)) (hgl : w.heap.size < g) (hlt : ∀ k, lv.ownBlock = some k → k < g) : ChoSt w ws lv w2 :=
  ⟨h.b.grown hg h.b.size (fun k hk => by injection hk with hk; omega), blk_grown h.r hg (by simp; omega), Kd.R_grown1 h.s rfl hg (fun e => by have := hlt g e.symm; omega)⟩

/-- .. with the choice that is being read. -/
structure InSt (w : World) (ws : List (List UInt8)) (lv : Value) (g : Nat) (fv : Value) (fs : List Nat) (y : Ch) (m : Nat) (wr : World) : Prop where
  c : ChoSt w ws lv wr
  o : Box wr g (fun k => g < k) y
  f : Kd.R (Kd.int .i64) 3 wr 0 (fun k => k < g) fv (fs.map fun f : Nat => (f : Int))
  k : y.Ok m
theorem bare_ok (d : Int) (h : -9223372036854775808 ≤ d ∧ d ≤ 9223372036854775807) (m : Nat) : (bareC d).Ok m :=
  ⟨h, (show (-9223372036854775808 : Int) ≤ 0 ∧ (0 : Int) ≤ 9223372036854775807 by decide), (show (-9223372036854775808 : Int) ≤ 0 ∧ (0 : Int) ≤ 9223372036854775807 by decide), (show (-9223372036854775808 : Int) ≤ 0 ∧ (0 : Int) ≤ 9223372036854775807 by decide), (show (-9223372036854775808 : Int) ≤ 0 ∧ (0 : Int) ≤ 9223372036854775807 by decide), Nat.zero_le _, Nat.zero_le _, Nat.zero_le _, Nat.zero_le _, Nat.zero_le _⟩

theorem split_le (c : UInt8) : ∀ (l x : List UInt8), x ∈ splitB c l → x.length ≤ l.length
  | [], x, h => by simp [splitB] at h; subst h; exact Nat.le_refl _
  | y :: t, x, h => by
    rw [splitB_cons] at h
    split at h
    · rcases List.mem_cons.1 h with rfl | h
      · exact Nat.zero_le _
      · have := split_le c t x h
        simp; omega
    · cases hs : splitB c t with
      | nil => exact absurd hs (splitB_ne c t)
      | cons a r =>
        have ih := split_le c t
        rw [hs] at h ih
        simp only [List.modifyHead_cons] at h
        rcases List.mem_cons.1 h with rfl | h
        · have := ih a (by simp)
          simp; omega
        · have := ih x (by simp [h])
          simp; omega

def ChoiceIs (l : List UInt8) (w : World) (e : Ending) (w' : World) : Prop :=
  (∃ (y : Ch) (v : Value), e = .returned (.tuple #[.agg (chCells y v).toArray, .bool (choiceC l).isSome]) ∧ (∀ z, choiceC l = some z → y = z) ∧ Dt w' (fun k => w.heap.size ≤ k) v y.dt ∧ y.Ok l.length) ∧ Below w.heap.size w w'

theorem chCells_all (x : Ch) (A : Option Addr) (n c : Nat) : ((chCells x (.slice A n c)).toArray.all fun x => x.oneCell') = true := by simp [chCells, Value.oneCell']
theorem choice_none {l : List UInt8} {w w' : World} (h : choiceC l = none) (hb : Below w.heap.size w w') : ChoiceIs l w (.returned (.tuple #[.agg (chCells (bareC 0) (.slice none 0 0)).toArray, .bool false])) w' :=
  ⟨⟨bareC 0, _, by rw [h]; rfl, (fun z hz => by rw [h] at hz; cases hz), Kd.V_nil _ _ _ _ _, bare_ok 0 (by decide) _⟩, hb⟩
theorem choice_some {l : List UInt8} {w w' : World} {y : Ch} {v : Value} (h : choiceC l = some y) (hb : Below w.heap.size w w') (hd : Dt w' (fun k => w.heap.size ≤ k) v y.dt) (hk : y.Ok l.length) : ChoiceIs l w (.returned (.tuple #[.agg (chCells y v).toArray, .bool true])) w' :=
  ⟨⟨y, v, by rw [h]; rfl, (fun z hz => by rw [h] at hz; injection hz), hd, hk⟩, hb⟩

set_option maxHeartbeats 2000000 in
set_option maxRecDepth 100000 in
theorem choice_is (l : List UInt8) (w : World) (hs : l.length ≤ 20000) (hE : Env w) : Calls Tryd.prog 26 #[.string (mkS l)] w (ChoiceIs l w) := by
  obtain ⟨o0, ho0⟩ : ∃ o0, Obj.cells (chCells (bareC 0) (.slice none 0 0)).toArray 44 (0, 0) = o0 := ⟨_, rfl⟩
  have HE := Lib.hid hE; clear hE
  obtain ⟨ws, hws⟩ : ∃ ws, splitB 32 l = ws := ⟨_, rfl⟩
  obtain ⟨R, hR⟩ : ∃ R, choiceC l = R := ⟨_, rfl⟩
  have hne : 0 < ws.length := by rw [← hws]; exact List.length_pos_iff.2 (splitB_ne 32 l)
  obtain ⟨h0, hh0⟩ : ∃ h0, ws.headD [] = h0 := ⟨_, rfl⟩
  have HH0 := Lib.hid hh0; clear hh0
  have HFR : Hid (fromC ws 19 1 = R) := by show _ = _; rw [← hR, ← hws]; rfl
  have HC := fun W => cut_is l 32 (by decide) W (by omega)
  rw [hws] at HC
  have HCU := Lib.hid HC; clear HC
  have HRR := Lib.hid hR; clear hR
  have HWS := Lib.hid hws; clear hws
  have hk0 : (w.alloc o0).heap[w.heap.size]? = some o0 := blk_new w o0
  have hb0 : Below w.heap.size w (w.alloc o0) := (Below.refl _ _).alloc (Nat.le_refl _) _
  rw [← ho0] at hk0 hb0
  clear ho0 o0
  unfold chCells bareC at hk0 hb0
  have HK0 := Lib.hid hk0; clear hk0
  have HB0 := Lib.hid hb0; clear hb0
  go_enter Tryd.func26, Tryd.ntmps26
  go_wp2_with fail
  refine (HCU.out _).mono ?_
  rintro e w1 ⟨⟨lv, rfl, hR1⟩, hb1⟩
  obtain ⟨g0, cap0, rfl, hg0, hg1, -⟩ := Kd.R_form hR1 (by rw [List.length_map]; exact hne)
  rw [List.length_map] at hR1 ⊢
  have hS : Hid (ChoSt w ws (.slice (some ⟨g0, 0, none⟩) ws.length cap0) w1) := ⟨HB0.out.trans (hb1.mono (by simp)), blk_below HK0.out hb1, Kd.R_mono (Kd.R_lower hR1 (by simp)) (fun k hk => by simp at hk; omega)⟩
  have hg2 : g0 < w1.heap.size := hg1
  clear hR1 hb1 hg1
  go_wp2_with fail
  go_loopw [5] (fun vd wr => ∃ d : Nat, vd = .int .i64 d ∧ 1 ≤ d ∧ d ≤ 20 ∧ Hid (fromC ws (20 - d) d = R) ∧ Hid (ChoSt w ws (.slice (some ⟨g0, 0, none⟩) ws.length cap0) wr)) (fun vd _ => 20 - (intOf vd).toNat)
  case atStart => exact ⟨1, rfl, by omega, by omega, HFR, hS⟩
  case round =>
    clear hS HFR
    obtain ⟨wo, rfl⟩ : ∃ wo : World, wo = wr := ⟨_, rfl⟩
    obtain ⟨d, rfl, hd1, hd2, HF, HS⟩ := hrel
    by_cases hd : d ≤ 19
    · have hdz : (d : Int) ≤ 19 := by omega
      obtain ⟨vb, fs, hform⟩ : ∃ vb fs, formC (d : Int) = (vb, fs) := ⟨_, _, rfl⟩
      have hfm := form_is (d : Int)
      rw [hform] at hfm
      have HFM := Lib.hid hfm; clear hfm
      have hfle := form_le (d : Int)
      rw [hform] at hfle
      have HFL := Lib.hid hfle; clear hfle
      have hlen := (form_len (d : Int)).1
      rw [hform] at hlen
      simp only [] at hlen
      have hf := HF.out
      rw [show 20 - d = (19 - d) + 1 by omega, fromC, tryC, hform, HH0.out] at hf
      simp only [] at hf
      have HF2 := Lib.hid hf; clear hf HF
      have HFO := Lib.hid hform; clear hform
      go_wp2_with fail
      refine (HFM.out _).mono ?_
      rintro e w2 ⟨vf, rfl, hRf, hb2⟩
      have HS2 := Lib.hid (HS.out.below hb2)
      obtain ⟨A, cp, rfl⟩ := Kd.R_slice hRf
      have hlf : (fs.map fun f : Nat => (f : Int)).length = fs.length := List.length_map _
      rw [hlf] at hRf ⊢
      clear hlf
      have HRF : Hid (Kd.R (Kd.int .i64) 3 w2 wo.heap.size (fun _ => True) (.slice A fs.length cp) (fs.map fun f : Nat => (f : Int))) := hRf
      have hsl : wo.heap.size ≤ w2.heap.size := hb2.size
      clear hRf hb2
      simp only []
      have hc0 : w2.cell? ⟨g0, 0, none⟩ = some (.string (mkS h0)) := by
        obtain ⟨ad, hA, hcell⟩ := Kd.at_string (Kd.R_reads' HS2.out.s).2.2 0 (by omega) (by rw [List.length_map]; omega)
        injection hA with hA
        subst hA
        rw [show rdOf ByteArray.empty (ws.map mkS) 0 = mkS h0 by rw [← HH0.out]; cases ws with | nil => simp at hne | cons a t => rfl] at hcell
        exact hcell
      have hnez : (0 : Int) < (ws.length : Int) := by omega
      by_cases hm : vb = h0 ∧ ws.length = fs.length + 1
      · obtain ⟨hv, hl2⟩ := hm
        rw [if_pos ⟨hv, hl2⟩] at HF2
        have HF3 : Hid (fillC (bareC d) (fs.drop 0) (ws.drop (0 + 1)) = R) := by
          show _ = _
          rw [List.drop_zero, Nat.zero_add, List.drop_one]
          exact HF2.out
        clear HF2
        subst hv
        obtain ⟨o1, ho1⟩ : ∃ o1, Obj.cells (chCells (bareC d) (.slice none 0 0)).toArray 44 (0, 0) = o1 := ⟨_, rfl⟩
        obtain ⟨g, hg⟩ : ∃ g, w2.heap.size = g := ⟨_, rfl⟩
        have hb12 : Below w2.heap.size w2 (w2.alloc o1) := (Below.refl _ _).alloc (Nat.le_refl _) _
        have hgo : w.heap.size < g := by have := blk_lt HS2.out.r; omega
        have hgl : g0 < g := by have := (Kd.R_bound HS2.out.s).1 g0 rfl; omega
        have ST : Hid (InSt w ws (.slice (some ⟨g0, 0, none⟩) ws.length cap0) g (.slice A fs.length cp) fs (bareC d) l.length (w2.alloc o1)) :=
          ⟨HS2.out.below hb12, ⟨_, by rw [← hg, blk_new w2 o1, ← ho1], Kd.V_nil _ _ _ _ _⟩, Kd.R_mono (Kd.R_below (Kd.R_bound (Kd.R_lower HRF.out (Nat.zero_le _))) hb12) (fun k hk => by have := hk.2.2.1; omega), bare_ok d (by omega) _⟩
        have HG := Lib.hid hg; clear hg
        rw [← ho1] at ST
        unfold chCells bareC at ST
        clear ho1 hb12 HRF HS2
        have e1 : ((ws.length : Int) == (fs.length : Int) + 1) = true := by rw [beq_iff_eq]; omega
        have e2 : ((ws.length : Int) != (fs.length : Int) + 1) = false := by rw [bne, e1]; rfl
        have hl3 : fs.length + 1 ≤ ws.length := by omega
        have HL2 := Lib.hid hl2; clear hl2
        go_wp2_with fail
        rw [show w2.heap.size = g from HG.out]
        clear e1 e2
        go_loopw [39] (fun vk wr => ∃ (k : Nat) (y : Ch), vk = .int .i64 k ∧ k ≤ fs.length ∧ Hid (fillC y (fs.drop k) (ws.drop (k + 1)) = R) ∧ Hid (InSt w ws (.slice (some ⟨g0, 0, none⟩) ws.length cap0) g (.slice A fs.length cp) fs y l.length wr)) (fun vk _ => fs.length - (intOf vk).toNat)
        case atStart => exact ⟨0, bareC d, rfl, Nat.zero_le _, HF3, ST⟩
        case round =>
          clear ST HF3 hc0
          obtain ⟨k, y, rfl, hk, HF, HI⟩ := hrel
          by_cases hlt : k < fs.length
          · have hltz : (k : Int) < (fs.length : Int) := by omega
            have hlt1 : (k : Int) + 1 < (ws.length : Int) := by omega
            obtain ⟨f, hf⟩ : ∃ f, fs[k] = f := ⟨_, rfl⟩
            obtain ⟨x, hx⟩ : ∃ x, ws[k + 1]'(by omega) = x := ⟨_, rfl⟩
            have hf8 : f ≤ 8 := HFL.out f (by rw [← hf]; exact List.getElem_mem _)
            have hfill := HF.out
            rw [List.drop_eq_getElem_cons hlt, hf, List.drop_eq_getElem_cons (show k + 1 < ws.length by omega), hx, fillC] at hfill
            have HFI := Lib.hid hfill; clear hfill HF
            have hxl : x.length ≤ l.length := by
              rw [← hx]
              exact split_le 32 l _ (by rw [HWS.out]; exact List.getElem_mem _)
            have hcw : wr.cell? ⟨g0, k + 1, none⟩ = some (.string (mkS x)) := by
              obtain ⟨ad, hA, hcell⟩ := Kd.at_string (Kd.R_reads' HI.out.c.s).2.2 ((k + 1 : Nat) : Int) (by omega) (by rw [List.length_map]; omega)
              injection hA with hA
              subst hA
              rw [Int.toNat_natCast, add_plain] at hcell
              rw [hcell]
              unfold rdOf
              rw [Int.toNat_natCast, List.getD_eq_getElem?_getD, List.getElem?_map, List.getElem?_eq_getElem (show k + 1 < ws.length by omega), hx]
              rfl
            obtain ⟨ad, hA, hcell⟩ := Kd.at_int (Kd.R_reads' HI.out.f).2.2 (k : Int) (by omega) (by simp; omega)
            subst hA
            have hrd : rd (fs.map fun f : Nat => (f : Int)) (k : Int) = (f : Int) := by
              unfold rd
              rw [Int.toNat_natCast, List.getD_eq_getElem?_getD, List.getElem?_map, List.getElem?_eq_getElem hlt, hf]
              rfl
            rw [hrd, Int.toNat_natCast] at hcell
            clear hrd hf hx
            go_wp2_with fail
            refine (set_is y f hf8 x g (fun k => g < k) wr HI.out.o (by omega) (fun k hk => by have := blk_lt HI.out.o.choose_spec.1; omega) (HE.out.below HI.out.c.b)).mono ?_
            rintro e w3 ⟨z, rfl, hz, hbox, hgr, hok⟩
            have HI3 : Hid (InSt w ws (.slice (some ⟨g0, 0, none⟩) ws.length cap0) g (.slice (some ad) fs.length cp) fs z l.length w3) :=
              ⟨HI.out.c.grown hgr hgo (fun k hk => by simp [Value.ownBlock] at hk; omega), hbox, Kd.R_grown HI.out.f hgr (fun k hk e => by injection e with e; omega), hok _ HI.out.k hxl⟩
            clear hbox hgr hok hcell hcw
            cases hset : setC y f x with
            | none =>
              have hR0 : Hid (choiceC l = none) := by
                show _ = _
                rw [HRR.out, ← HFI.out, hset]
                rfl
              clear hset HFI hz
              have HB3 := Lib.hid HI3.out.c.b
              go_wp2_with (refine wpList_store_row rfl 44 (.tmp 2) (.tmp 52) rfl w.heap.size (chCells (bareC 0) (.slice none 0 0)).toArray rfl rfl 44 _ HI3.out.c.r (by kernel_rfl) rfl (chCells_all _ _ _ _) ?_)
              refine bodyPost_ret (results_ct rfl _ _ w.heap.size 44 (chCells (bareC 0) (.slice none 0 0)).toArray (0, 0) _ rfl (setRow_heap _ _ _ _ _ _ HI3.out.c.r) Tryd.underlying44 rfl (by kernel_rfl)) rfl ?_
              exact choice_none hR0.out (below_setRow HB3.out (Nat.le_refl _) _)
            | some z2 =>
              obtain rfl := hz _ hset
              have hfin := HFI.out
              rw [hset] at hfin
              have HF4 : Hid (fillC z (fs.drop (k + 1)) (ws.drop (k + 1 + 1)) = R) := hfin
              clear hz hset hfin HFI
              go_wp2_with fail
              go_roundw
              case rel => exact ⟨k + 1, z, by go_num, by omega, HF4, HI3⟩
              case measure => simp [intOf]; omega
          · obtain rfl : k = fs.length := by omega
            have hR0 : Hid (choiceC l = some y) := by
              show _ = _
              rw [HRR.out, ← HF.out, List.drop_eq_nil_of_le (Nat.le_refl _)]
              rfl
            clear HF hlt
            have HB3 := Lib.hid HI.out.c.b
            obtain ⟨vy, hyb, hyv⟩ := HI.out.o
            have HYV := Lib.hid hyv; clear hyv
            have HYB := Lib.hid hyb
            unfold chCells at hyb
            have d0 := (blk_cell hyb 0).trans (rfl : _ = some (Value.int .i64 y.d))
            have d1 := (blk_cell hyb 1).trans (rfl : _ = some (Value.string (mkS y.bk)))
            have d2 := (blk_cell hyb 2).trans (rfl : _ = some (Value.string (mkS y.ky)))
            have d3 := (blk_cell hyb 3).trans (rfl : _ = some vy)
            have d4 := (blk_cell hyb 4).trans (rfl : _ = some (Value.int .i64 y.n))
            have d5 := (blk_cell hyb 5).trans (rfl : _ = some (Value.int .i64 y.a))
            have d6 := (blk_cell hyb 6).trans (rfl : _ = some (Value.string (mkS y.pf)))
            have d7 := (blk_cell hyb 7).trans (rfl : _ = some (Value.string (mkS y.fr)))
            have d8 := (blk_cell hyb 8).trans (rfl : _ = some (Value.int .i64 y.fi))
            have d9 := (blk_cell hyb 9).trans (rfl : _ = some (Value.int .i64 y.mo))
            obtain ⟨Ay, cy, rfl, hly, hfy⟩ := HYV.out
            clear hyb
            go_wp2_with (refine wpList_store_row rfl 44 (.tmp 2) (.tmp 54) rfl w.heap.size (chCells y (.slice Ay (byN y.dt).length cy)).toArray rfl rfl 44 _ HI.out.c.r (by kernel_rfl) rfl (chCells_all _ _ _ _) ?_)
            refine bodyPost_ret (results_ct rfl _ _ w.heap.size 44 (chCells y (.slice Ay (byN y.dt).length cy)).toArray (0, 0) _ rfl (setRow_heap _ _ _ _ _ _ HI.out.c.r) Tryd.underlying44 rfl (by kernel_rfl)) rfl ?_
            refine choice_some hR0.out (below_setRow HB3.out (Nat.le_refl _) _) ⟨Ay, cy, rfl, hly, ?_⟩ HI.out.k
            exact Kd.F_mono (Kd.F_step hfy (fun k hk _ => setRow_other _ _ _ _ (by omega))) (fun k hk => by omega)
      · rw [if_neg hm] at HF2
        have HF3 : Hid (fromC ws (20 - (d + 1)) ((d + 1 : Nat) : Int) = R) := by
          show _ = _
          rw [← HF2.out, show 20 - (d + 1) = 19 - d by omega]
          rfl
        by_cases hv : vb = h0
        · have hl2 : ¬ ws.length = fs.length + 1 := fun e => hm ⟨hv, e⟩
          have e1 : ((ws.length : Int) == (fs.length : Int) + 1) = false := by rw [beq_eq_false_iff_ne]; omega
          have e2 : ((ws.length : Int) != (fs.length : Int) + 1) = true := by rw [bne, e1]; rfl
          subst hv
          clear hm hl2
          go_wp2_with fail
          go_roundw
          case rel => exact ⟨d + 1, by go_num, by omega, by omega, HF3, HS2⟩
          case measure => simp [intOf]; omega
        · obtain ⟨e1, e2⟩ := bne_mkS hv
          clear hm hv
          go_wp2_with fail
          go_roundw
          case rel => exact ⟨d + 1, by go_num, by omega, by omega, HF3, HS2⟩
          case measure => simp [intOf]; omega
    · obtain rfl : d = 20 := by omega
      have hR0 : Hid (choiceC l = none) := by
        show _ = _
        rw [HRR.out, ← HF.out]
        rfl
      clear HF
      have HB3 := Lib.hid HS.out.b
      go_wp2_with (refine wpList_store_row rfl 44 (.tmp 2) (.tmp 55) rfl w.heap.size (chCells (bareC 0) (.slice none 0 0)).toArray rfl rfl 44 _ HS.out.r (by kernel_rfl) rfl (chCells_all _ _ _ _) ?_)
      refine bodyPost_ret (results_ct rfl _ _ w.heap.size 44 (chCells (bareC 0) (.slice none 0 0)).toArray (0, 0) _ rfl (setRow_heap _ _ _ _ _ _ HS.out.r) Tryd.underlying44 rfl (by kernel_rfl)) rfl ?_
      exact choice_none hR0.out (below_setRow HB3.out (Nat.le_refl _) _)
end Go.Proofs.YtghllfihmmlcnaaDoor

/- shape of package script: the first line read. -/
namespace Go.Proofs.YtghllfihmmlcnaaDoor
open Go.RowKit Nam YtghllfihmmlcnaaDoorW.PrintWords

def mapN : List (List UInt8) → Option (List Int)
  | [] => some []
  | a :: r => (numOf a).bind fun n => (mapN r).map (n :: ·)
/-- The array of a line: K, M, Block, the room of a disk. -/
def shapeC (s : List UInt8) : Option (List Int) :=
  if (splitB 32 s).length = 5 ∧ (splitB 32 s).headD [] = [97, 114, 114, 97, 121] then mapN (splitB 32 s).tail else none
def ShapeIs (l : List UInt8) (w : World) (e : Ending) (w' : World) : Prop :=
  (∃ k m b o : Int, e = .returned (.tuple #[.agg #[.int .i64 k, .int .i64 m, .int .i64 b], .int .i64 o, .bool (shapeC l).isSome]) ∧ (∀ z, shapeC l = some z → [k, m, b, o] = z)) ∧ Below w.heap.size w w'
theorem shape_none {l : List UInt8} {w w' : World} (h : shapeC l = none) (hb : Below w.heap.size w w') : ShapeIs l w (.returned (.tuple #[.agg #[.int .i64 0, .int .i64 0, .int .i64 0], .int .i64 0, .bool false])) w' :=
  ⟨⟨0, 0, 0, 0, by rw [h]; rfl, (fun z hz => by rw [h] at hz; cases hz)⟩, hb⟩
theorem shape_some {l : List UInt8} {w w' : World} {k m b o : Int} (h : shapeC l = some [k, m, b, o]) (hb : Below w.heap.size w w') : ShapeIs l w (.returned (.tuple #[.agg #[.int .i64 k, .int .i64 m, .int .i64 b], .int .i64 o, .bool true])) w' :=
  ⟨⟨k, m, b, o, by rw [h]; rfl, (fun z hz => by rw [h] at hz; injection hz)⟩, hb⟩
theorem mapN_some : ∀ (ws : List (List UInt8)) (ns : List Int), mapN ws = some ns → ns.length = ws.length
  | [], ns, h => by simp only [mapN, Option.some.injEq] at h; subst h; rfl
  | a :: r, ns, h => by
    simp only [mapN] at h
    cases ha : numOf a with
    | none => rw [ha] at h; cases h
    | some n =>
      rw [ha] at h
      simp only [Option.bind_some] at h
      cases hr : mapN r with
      | none => rw [hr] at h; cases h
      | some m =>
        rw [hr] at h
        simp only [Option.map_some, Option.some.injEq] at h
        subst h
        simp [mapN_some r m hr]

theorem three_all (a b c : Int) : ((#[.int .i64 a, .int .i64 b, .int .i64 c] : Array Value).all fun x => x.oneCell') = true := by simp [Value.oneCell']
structure ShSt (w : World) (ws : List (List UInt8)) (lv : Value) (acc : List Int) (nv : Value) (wr : World) : Prop where
  b : Below w.heap.size w wr
  r : wr.heap[w.heap.size]? = some (.cells #[.int .i64 0, .int .i64 0, .int .i64 0] 26 (0, 0))
  s : Kd.R Kd.string 9 wr w.heap.size (fun k => w.heap.size < k) lv (ws.map mkS)
  n : Kd.R (Kd.int .i64) 3 wr w.heap.size (fun k => w.heap.size < k ∧ some k ≠ lv.ownBlock) nv acc
theorem ShSt.below {w : World} {ws : List (List UInt8)} {lv : Value} {acc : List Int} {nv : Value} {wr w2 : World} (h : ShSt w ws lv acc nv wr) (hb : Below wr.heap.size wr w2) : ShSt w ws lv acc nv w2 :=
  ⟨h.b.trans (hb.mono h.b.size), blk_below h.r hb, Kd.R_below h.s hb, Kd.R_below h.n hb⟩

theorem info3 : (Tryd.prog.info? 3).map (fun i => (i.zero, i.size, i.bytes)) = some (some (.int .i64 0), 1, 8) := by kernel_rfl
theorem fresh_ok {w w2 : World} {o : Obj} {v : Value} {ok : Nat → Prop} {base : Nat} {E : List Nat} (h : w2.heap[w.heap.size]? = some o) (hv : ∀ k, v.ownBlock = some k → ok k ∧ base ≤ k ∧ k < w2.heap.size ∧ ∃ q, q ∈ E ∧ ∃ cells, w2.heap[k]? = some (.cells cells q (0, 0))) :
    ∀ k, w2.heap.size ≤ k → w.heap.size < k ∧ some k ≠ v.ownBlock := by
  intro k hk
  have := blk_lt h
  exact ⟨by omega, fun e => by have := (hv k e.symm).2.2.1; omega⟩

set_option maxHeartbeats 2000000 in
set_option maxRecDepth 100000 in
theorem shape_is (l : List UInt8) (w : World) (hs : l.length ≤ 20000) (hE : Env w) : Calls Tryd.prog 25 #[.string (mkS l)] w (ShapeIs l w) := by
  have HE := Lib.hid hE; clear hE
  obtain ⟨ws, hws⟩ : ∃ ws, splitB 32 l = ws := ⟨_, rfl⟩
  obtain ⟨h0, hh0⟩ : ∃ h0, ws.headD [] = h0 := ⟨_, rfl⟩
  have hSC : Hid (shapeC l = if ws.length = 5 ∧ h0 = [97, 114, 114, 97, 121] then mapN ws.tail else none) := by
    show _ = _
    unfold shapeC
    rw [hws, hh0]
  have hne : 0 < ws.length := by rw [← hws]; exact List.length_pos_iff.2 (splitB_ne 32 l)
  have HWL : Hid (∀ x ∈ ws, x.length ≤ l.length) := by
    intro x hx
    exact split_le 32 l x (by rw [hws]; exact hx)
  have HC := fun W => cut_is l 32 (by decide) W (by omega)
  rw [hws] at HC
  have HCU := Lib.hid HC; clear HC
  have HWS := Lib.hid hws; clear hws
  have HH0 := Lib.hid hh0; clear hh0
  obtain ⟨o0, ho0⟩ : ∃ o0, Obj.cells #[.int .i64 0, .int .i64 0, .int .i64 0] 26 (0, 0) = o0 := ⟨_, rfl⟩
  have hk0 : (w.alloc o0).heap[w.heap.size]? = some o0 := blk_new w o0
  have hb0 : Below w.heap.size w (w.alloc o0) := (Below.refl _ _).alloc (Nat.le_refl _) _
  rw [← ho0] at hk0 hb0
  clear ho0 o0
  have HK0 := Lib.hid hk0; clear hk0
  have HB0 := Lib.hid hb0; clear hb0
  go_enter Tryd.func25, Tryd.ntmps25
  go_wp2_with fail
  refine (HCU.out _).mono ?_
  rintro e w1 ⟨⟨lv, rfl, hR1⟩, hb1⟩
  obtain ⟨g0, cap0, rfl, hg0, hg1, -⟩ := Kd.R_form hR1 (by rw [List.length_map]; exact hne)
  rw [List.length_map] at hR1 ⊢
  have hcap : ws.length ≤ cap0 := by have := (Kd.R_reads' hR1).2.1; exact this
  have hS : Hid (ShSt w ws (.slice (some ⟨g0, 0, none⟩) ws.length cap0) [] (.slice none 0 0) w1) := ⟨HB0.out.trans (hb1.mono (by simp)), blk_below HK0.out hb1, Kd.R_mono (Kd.R_lower hR1 (by simp)) (fun k hk => by simp at hk; omega), Kd.R_nil _ _ _ _ _⟩
  have hc0 : w1.cell? ⟨g0, 0, none⟩ = some (.string (mkS h0)) := by
    obtain ⟨ad, hA, hcell⟩ := Kd.at_string (Kd.R_reads' hS.out.s).2.2 0 (by omega) (by rw [List.length_map]; omega)
    injection hA with hA
    subst hA
    rw [show rdOf ByteArray.empty (ws.map mkS) 0 = mkS h0 by rw [← HH0.out]; cases ws with | nil => simp at hne | cons a t => rfl] at hcell
    exact hcell
  have hnez : (0 : Int) < (ws.length : Int) := by omega
  clear hR1 hb1
  by_cases hm : ws.length = 5 ∧ h0 = [97, 114, 114, 97, 121]
  · rw [if_pos hm] at hSC
    obtain ⟨h5, hh⟩ := hm
    have e3 : ((mkS h0).toList == [97, 114, 114, 97, 121]) = true := by
      rw [ByteArray.toList_eq, mkS_list]; simpa using hh
    have e4 : ((mkS h0).toList != [97, 114, 114, 97, 121]) = false := by rw [bne, e3]; rfl
    have e5 : (mkS h0).toList = [97, 114, 114, 97, 121] := by rw [ByteArray.toList_eq, mkS_list]; exact hh
    rw [h5] at hS hcap ⊢
    have H5 := Lib.hid h5; clear h5 hh hnez
    have HMN : Hid ((mapN (ws.drop (0 + 1))).map ([] ++ ·) = shapeC l) := by
      show _ = _
      rw [hSC.out, Nat.zero_add, List.drop_one]
      cases mapN ws.tail <;> rfl
    have hcap1 : ¬ cap0 = 1 := by omega
    go_wp2_with fail
    clear e3 e4 e5 hc0
    go_loopw [6, 26] (fun vn vi wr => ∃ (k : Nat) (acc : List Int) (nv : Value), nv = vn ∧ vi = .int .i64 k ∧ k ≤ 4 ∧ acc.length = k ∧ Hid ((mapN (ws.drop (k + 1))).map (acc ++ ·) = shapeC l) ∧ Hid (ShSt w ws (.slice (some ⟨g0, 0, none⟩) 5 cap0) acc nv wr)) (fun _ vi _ => 4 - (intOf vi).toNat)
    case atStart => exact ⟨0, [], _, rfl, rfl, by omega, rfl, HMN, hS⟩
    case round =>
      clear HMN hS
      obtain ⟨k, acc, nv, hnv, rfl, hk, hal, HM, HS⟩ := hrel
      subst hnv
      by_cases hlt : k < 4
      · have hltz : (k : Int) < 4 := by omega
        have h5 := H5.out
        obtain ⟨x, hx⟩ : ∃ x, ws[k + 1]'(by omega) = x := ⟨_, rfl⟩
        have hcw : wr.cell? ⟨g0, 1 + k, none⟩ = some (.string (mkS x)) := by
          obtain ⟨ad, hA, hcell⟩ := Kd.at_string (Kd.R_reads' HS.out.s).2.2 ((1 + k : Nat) : Int) (by omega) (by rw [List.length_map]; omega)
          injection hA with hA
          subst hA
          rw [Int.toNat_natCast, add_plain] at hcell
          rw [hcell]
          unfold rdOf
          rw [Int.toNat_natCast, List.getD_eq_getElem?_getD, List.getElem?_map, Nat.add_comm 1 k, List.getElem?_eq_getElem (show k + 1 < ws.length by omega), hx]
          rfl
        have hxl : x.length ≤ l.length := by rw [← hx]; exact HWL.out _ (List.getElem_mem _)
        have hm := HM.out
        rw [List.drop_eq_getElem_cons (show k + 1 < ws.length by omega), hx, mapN] at hm
        have HM2 := Lib.hid hm; clear hm hx HM h5
        go_wp2_with fail
        refine (preadnumber_is x wr (by omega) (HE.out.below HS.out.b)).mono ?_
        rintro e w2 ⟨⟨n, rfl, hn, -, -⟩, hb2⟩
        have HS2 := Lib.hid (HS.out.below hb2)
        clear hb2 HS hcw
        cases hnum : numOf x with
        | none =>
          have hR0 : Hid (shapeC l = none) := by
            show _ = _
            rw [← HM2.out, hnum]
            rfl
          clear hn hnum HM2
          go_wp2_with (refine wpList_store_row rfl 26 (.tmp 2) (.tmp 37) rfl w.heap.size #[.int .i64 0, .int .i64 0, .int .i64 0] rfl rfl 26 _ HS2.out.r (by kernel_rfl) rfl (three_all _ _ _) ?_)
          refine bodyPost_ret (results_ctt rfl _ _ w.heap.size 26 #[.int .i64 0, .int .i64 0, .int .i64 0] (0, 0) _ rfl (setRow_heap _ _ _ _ _ _ HS2.out.r) Tryd.underlying26 rfl (by kernel_rfl)) rfl ?_
          exact shape_none hR0.out (below_setRow HS2.out.b (Nat.le_refl _) _)
        | some n2 =>
          obtain rfl := hn _ hnum
          have HM3 : Hid ((mapN (ws.drop (k + 1 + 1))).map ((acc ++ [n]) ++ ·) = shapeC l) := by
            show _ = _
            rw [← HM2.out, hnum]
            cases mapN (ws.drop (k + 1 + 1)) with
            | none => rfl
            | some m => simp
          clear hn hnum HM2
          go_wp2_with (at_builtin; refine Kd.R_append (Kd.int .i64) (w0 := w) w.heap.size rfl (.tmp 38) (.tmp 40) 67 3 (.int .i64 0) 8 rfl Tryd.underlying67 info3 rfl (by decide) (by omega) nv acc n [.int .i64 n] (fun k => w.heap.size < k ∧ some k ≠ (Value.slice (some ⟨g0, 0, none⟩) 5 cap0).ownBlock) (fun _ => False) rfl rfl rfl (fun _ hk => hk.elim) (fresh_ok HS2.out.r (Kd.R_bound HS2.out.s).1) HS2.out.n HS2.out.b HS2.out.b.size (by omega) ?_; intro v1 w3 hR3 hb3 hg3 hat3)
          have HS3 : Hid (ShSt w ws (.slice (some ⟨g0, 0, none⟩) 5 cap0) (acc ++ [n]) v1 w3) :=
            ⟨hb3, blk_grown HS2.out.r hg3 (fun e => by have := (HS2.out.n.1 _ e.symm).1; omega), Kd.R_grown2 HS2.out.s rfl hg3 (fun j hj e => (HS2.out.n.1 j hj).2 e), hR3⟩
          clear hR3 hb3 hg3 hat3 HS2
          go_wp2_with fail
          go_roundw
          case rel => exact ⟨k + 1, acc ++ [n], v1, rfl, by go_num, by omega, by simp [hal], HM3, HS3⟩
          case measure => simp [intOf]; omega
      · obtain rfl : k = 4 := by omega
        have hR0 : Hid (shapeC l = some acc) := by
          have h5 := H5.out
          show _ = _
          rw [← HM.out, List.drop_eq_nil_of_le (by omega)]
          simp [mapN]
        match acc, hal with
        | [i0, i1, i2, i3], _ =>
        obtain ⟨gn, capn, rfl, hgn, hgn2, -⟩ := Kd.R_form HS.out.n (by simp)
        have hcell : ∀ (j : Nat) (z : Int), [i0, i1, i2, i3][j]? = some z → wr.cell? ⟨gn, j, none⟩ = some (.int .i64 z) := by
          intro j z hz
          have hj : j < 4 := (List.getElem?_eq_some_iff.1 hz).1
          obtain ⟨ad, hA, hcell⟩ := Kd.at_int (Kd.R_reads' HS.out.n).2.2 (j : Int) (by omega) (by simp; omega)
          injection hA with hA
          subst hA
          rw [Int.toNat_natCast, add_plain] at hcell
          rw [hcell]
          unfold rd
          rw [Int.toNat_natCast, List.getD_eq_getElem?_getD, hz]
          rfl
        have n0 := hcell 0 i0 rfl
        have n1 := hcell 1 i1 rfl
        have n2 := hcell 2 i2 rfl
        have n3 := hcell 3 i3 rfl
        have z0 := (blk_cell HS.out.r 0).trans (rfl : _ = some (Value.int .i64 0))
        have z1 := (blk_cell HS.out.r 1).trans (rfl : _ = some (Value.int .i64 0))
        have z2 := (blk_cell HS.out.r 2).trans (rfl : _ = some (Value.int .i64 0))
        have q0 := blk_frozen HS.out.r 0
        have q1 := blk_frozen HS.out.r 1
        have q2 := blk_frozen HS.out.r 2
        have hgne : gn ≠ w.heap.size := by have := (HS.out.n.1 gn rfl).1; omega
        clear hcell HM
        go_wp2_with fail
        go_region
        go_wp2
        refine bodyPost_ret (results_ctt rfl _ _ w.heap.size 26 #[.int .i64 i0, .int .i64 i1, .int .i64 i2] (0, 0) _ rfl (blk_drew (blk_put (blk_put (blk_put HS.out.r 0 _ rfl) 1 _ rfl) 2 _ rfl)) Tryd.underlying26 rfl (by kernel_rfl)) rfl ?_
        exact shape_some hR0.out ((((HS.out.b.setCell (p := ⟨w.heap.size, 0, none⟩) (Nat.le_refl _) _).setCell (p := ⟨w.heap.size, 1, none⟩) (Nat.le_refl _) _).setCell (p := ⟨w.heap.size, 2, none⟩) (Nat.le_refl _) _).drew)
  · rw [if_neg hm] at hSC
    by_cases h5 : ws.length = 5
    · have e1 : ((ws.length : Int) == 5) = true := by rw [beq_iff_eq]; omega
      have e2 : ((ws.length : Int) != 5) = false := by rw [bne, e1]; rfl
      have hh : h0 ≠ [97, 114, 114, 97, 121] := fun e => hm ⟨h5, e⟩
      have e3 : ((mkS h0).toList == [97, 114, 114, 97, 121]) = false := by
        rw [ByteArray.toList_eq, mkS_list]; simpa using hh
      have e4 : ((mkS h0).toList != [97, 114, 114, 97, 121]) = true := by rw [bne, e3]; rfl
      have e5 : (mkS h0).toList ≠ [97, 114, 114, 97, 121] := by rw [ByteArray.toList_eq, mkS_list]; exact hh
      clear hh hm h5
      go_wp2_with (refine wpList_store_row rfl 26 (.tmp 2) (.tmp 22) rfl w.heap.size #[.int .i64 0, .int .i64 0, .int .i64 0] rfl rfl 26 _ hS.out.r (by kernel_rfl) rfl (three_all _ _ _) ?_)
      refine bodyPost_ret (results_ctt rfl _ _ w.heap.size 26 #[.int .i64 0, .int .i64 0, .int .i64 0] (0, 0) _ rfl (setRow_heap _ _ _ _ _ _ hS.out.r) Tryd.underlying26 rfl (by kernel_rfl)) rfl ?_
      exact shape_none hSC.out (below_setRow hS.out.b (Nat.le_refl _) _)
    · have e1 : ((ws.length : Int) == 5) = false := by rw [beq_eq_false_iff_ne]; omega
      have e2 : ((ws.length : Int) != 5) = true := by rw [bne, e1]; rfl
      clear hm h5
      go_wp2_with (refine wpList_store_row rfl 26 (.tmp 2) (.tmp 22) rfl w.heap.size #[.int .i64 0, .int .i64 0, .int .i64 0] rfl rfl 26 _ hS.out.r (by kernel_rfl) rfl (three_all _ _ _) ?_)
      refine bodyPost_ret (results_ctt rfl _ _ w.heap.size 26 #[.int .i64 0, .int .i64 0, .int .i64 0] (0, 0) _ rfl (setRow_heap _ _ _ _ _ _ hS.out.r) Tryd.underlying26 rfl (by kernel_rfl)) rfl ?_
      exact shape_none hSC.out (below_setRow hS.out.b (Nat.le_refl _) _)
end Go.Proofs.YtghllfihmmlcnaaDoor

/- Parse of package script: what a text says. -/
namespace Go.Proofs.YtghllfihmmlcnaaDoor
open Go.RowKit Nam YtghllfihmmlcnaaDoorW.PrintWords

/-- What a text says: the array and the room of a disk; the choices; the line that is none; the error. -/
structure PR where
  h : List Int
  l : List Ch
  at_ : Nat
  e : Int
deriving DecidableEq
def PR.no (n : Nat) (e : Int) : PR := ⟨[0, 0, 0, 0], [], n, e⟩
/-- Lines read one behind the other; the first that is none. -/
def readL (i : Nat) (h : List Int) (acc : List Ch) : List (List UInt8) → Nat ⊕ (List Int × List Ch)
  | [] => .inr (h, acc)
  | a :: r => if i = 0 then (match shapeC a with
      | none => .inl i
      | some h => readL (i + 1) h acc r)
    else (match choiceC a with
      | none => .inl i
      | some c => readL (i + 1) h (acc ++ [c]) r)
def parseL (L : List (List UInt8)) (last : List UInt8) : PR :=
  match readL 0 [0, 0, 0, 0] [] L with
  | .inl i => .no (i + 1) 19
  | .inr (h, l) => if L = [] ∨ last ≠ [] then .no (L.length + 1) 19 else ⟨h, l, 0, 0⟩
def parseC (s : List UInt8) : PR :=
  if 65536 < s.length ∨ 2000 < (splitB 10 s).length - 1 + (if (splitB 10 s).getLastD [] = [] then 0 else 1) then .no 0 3
  else parseL (splitB 10 s).dropLast ((splitB 10 s).getLastD [])

def ParseIs (s : List UInt8) (w : World) (e : Ending) (w' : World) : Prop :=
  (∃ (k m b o : Int) (v : Value), e = .returned (.tuple #[.agg #[.int .i64 k, .int .i64 m, .int .i64 b], .int .i64 o, v, .int .i64 ((parseC s).at_ : Int), .int .i64 (parseC s).e]) ∧ (parseC s).h = [k, m, b, o] ∧ Kd.N kCh 44 w' w.heap.size (fun k => w.heap.size ≤ k) v (parseC s).l ∧ (∀ c ∈ (parseC s).l, c.Ok 20000)) ∧ Below w.heap.size w w'
theorem parse_none {s : List UInt8} {w w' : World} {n : Nat} {e : Int} (h : parseC s = .no n e) (hb : Below w.heap.size w w') :
    ParseIs s w (.returned (.tuple #[.agg #[.int .i64 0, .int .i64 0, .int .i64 0], .int .i64 0, .slice none 0 0, .int .i64 (n : Int), .int .i64 e])) w' :=
  ⟨⟨0, 0, 0, 0, .slice none 0 0, by rw [h]; rfl, by rw [h]; rfl, by rw [h]; exact Kd.N_nil _ _ _ _ _, by rw [h]; exact fun c hc => by cases hc⟩, hb⟩

theorem splitB_length (c : UInt8) : ∀ l : List UInt8, (splitB c l).length ≤ l.length + 1
  | [] => Nat.le_refl _
  | y :: t => by
    have ih := splitB_length c t
    rw [splitB_cons]
    split
    · simp only [List.length_cons]; omega
    · rw [List.length_modifyHead, List.length_cons]; omega

theorem results_c5 {P : Program} {fn : Func} {p u v x y : Tmp} {ty : TypeId} (h : fn.results = #[.cell p ty, .tmp u, .tmp v, .tmp x, .tmp y]) (tmps : Array Value) (w : World) (g : Nat) (t : TypeId) (cs : Array Value) (fr : Nat × Nat) (d : TypeDesc)
    (hp : tmps.getD p undef = .pointer (some ⟨g, 0, none⟩)) (hg : w.heap[g]? = some (.cells cs t fr))
    (hu : P.underlying ty = some d) (hd : (match d with | .struct _ | .array _ _ => true | _ => false) = true) (hi : (P.info? ty).map (·.size) = some cs.size) :
    (results fn tmps).run P w = .ok (.tuple #[.agg cs, tmps.getD u undef, tmps.getD v undef, tmps.getD x undef, tmps.getD y undef]) w := by
  have hp' : tmps[p]?.getD undef = .pointer (some ⟨g, 0, none⟩) := by simpa using hp
  simp [results, h, hp', asAddr, run_loadVar_row w g t ty cs fr d hg hu hd hi]

structure PaSt (w : World) (L : List (List UInt8)) (lv : Value) (gh : Nat) (i0 i1 i2 : Int) (acc : List Ch) (sv : Value) (wr : World) : Prop where
  b : Below w.heap.size w wr
  r : wr.heap[w.heap.size]? = some (.cells #[.int .i64 0, .int .i64 0, .int .i64 0] 26 (0, 0))
  s : Kd.R Kd.string 9 wr w.heap.size (fun j => w.heap.size < j ∧ j < gh) lv (L.map mkS)
  p : wr.heap[gh]? = some (.cells #[.int .i64 i0, .int .i64 i1, .int .i64 i2] 26 (0, 0))
  o : Kd.N kCh 44 wr w.heap.size (fun j => gh < j) sv acc
  k : ∀ c ∈ acc, c.Ok 20000
theorem PaSt.below {w : World} {L : List (List UInt8)} {lv : Value} {gh : Nat} {k m b : Int} {acc : List Ch} {sv : Value} {wr w2 : World} (h : PaSt w L lv gh k m b acc sv wr) (hb : Below wr.heap.size wr w2) : PaSt w L lv gh k m b acc sv w2 :=
  ⟨h.b.trans (hb.mono h.b.size), blk_below h.r hb, Kd.R_below h.s hb, blk_below h.p hb, Kd.N_below h.o hb, h.k⟩

theorem PaSt.shape {w : World} {L : List (List UInt8)} {lv : Value} {gh : Nat} {i0 i1 i2 : Int} {acc : List Ch} {sv : Value} {wr : World} (h : PaSt w L lv gh i0 i1 i2 acc sv wr) (hgo : w.heap.size < gh) (j0 j1 j2 : Int) : PaSt w L lv gh j0 j1 j2 acc sv (wr.setRow gh #[.int .i64 j0, .int .i64 j1, .int .i64 j2]) :=
  ⟨below_setRow h.b (by omega) _, (setRow_other _ _ _ _ (by omega)).trans h.r, Kd.R_step h.s (fun j hj _ => setRow_other _ _ _ _ (by omega)), setRow_heap _ _ _ _ _ _ h.p, Kd.N_step h.o (fun j hj _ => setRow_other _ _ _ _ (by omega)), h.k⟩

theorem info44 : (Tryd.prog.info? 44).map (fun i => (i.zero, i.size, i.bytes)) = some (some (.agg (chCells (bareC 0) (.slice none 0 0)).toArray), 10, 128) := by kernel_rfl

set_option maxHeartbeats 4000000 in
set_option maxRecDepth 100000 in
theorem parse_is (s : List UInt8) (w : World) (hs : s.length ≤ 100000) (hll : ∀ x ∈ splitB 10 s, x.length ≤ 20000) (hE : Env w) : Calls Tryd.prog 11 #[.string (mkS s)] w (ParseIs s w) := by
  have HE := Lib.hid hE; clear hE
  obtain ⟨L, hL⟩ : ∃ L, splitB 10 s = L := ⟨_, rfl⟩
  obtain ⟨la, hla⟩ : ∃ la, L.getLastD [] = la := ⟨_, rfl⟩
  obtain ⟨n, hn⟩ : ∃ n, L.length = n + 1 := ⟨L.length - 1, by have := List.length_pos_iff.2 (splitB_ne 10 s); rw [hL] at this; omega⟩
  obtain ⟨F, hF⟩ : ∃ F, L.dropLast = F := ⟨_, rfl⟩
  have hFl : F.length = n := by rw [← hF, List.length_dropLast]; omega
  have hP : Hid (parseC s = if 65536 < s.length ∨ 2000 < n + (if la = [] then 0 else 1) then .no 0 3 else parseL F la) := by
    show _ = _
    unfold parseC
    rw [hL, hla, hF, hn, Nat.add_sub_cancel]
  rw [hL] at hll
  have HLL := Lib.hid hll; clear hll
  have hLF : L = F ++ [la] := by
    rw [← hF, ← hla]
    have hne : L ≠ [] := by rw [← hL]; exact splitB_ne 10 s
    rw [List.getLastD_eq_getLast?, List.getLast?_eq_some_getLast hne]
    simp [List.dropLast_concat_getLast]
  have HLF := Lib.hid hLF; clear hLF
  have HC := fun W => cut_is s 10 (by decide) W hs
  rw [hL] at HC
  have HCU := Lib.hid HC; clear HC
  have hnb : n ≤ 100000 := by have := splitB_length 10 s; rw [hL] at this; omega
  clear hL hla hF
  obtain ⟨o0, ho0⟩ : ∃ o0, Obj.cells #[.int .i64 0, .int .i64 0, .int .i64 0] 26 (0, 0) = o0 := ⟨_, rfl⟩
  have hk0 : (w.alloc o0).heap[w.heap.size]? = some o0 := blk_new w o0
  have hb0 : Below w.heap.size w (w.alloc o0) := (Below.refl _ _).alloc (Nat.le_refl _) _
  rw [← ho0] at hk0 hb0
  clear ho0 o0
  have HK0 := Lib.hid hk0; clear hk0
  have HB0 := Lib.hid hb0; clear hb0
  have hsz : (mkS s).size ≤ 100000 := by rw [mkS_size]; exact hs
  go_enter Tryd.func11, Tryd.ntmps11
  go_wp2_with fail
  refine (HCU.out _).mono ?_
  rintro e w1 ⟨⟨lv, rfl, hR1⟩, hb1⟩
  obtain ⟨g0, cap0, rfl, hg0, hg1, -⟩ := Kd.R_form hR1 (by rw [List.length_map]; omega)
  rw [List.length_map, hn] at hR1 ⊢
  have hcap : n + 1 ≤ cap0 := by have := (Kd.R_reads' hR1).2.1; exact this
  have hlc : w1.cell? ⟨g0, n, none⟩ = some (.string (mkS la)) := by
    obtain ⟨ad, hA, hcell⟩ := Kd.at_string (Kd.R_reads' hR1).2.2 (n : Int) (by omega) (by rw [List.length_map]; omega)
    injection hA with hA
    subst hA
    rw [Int.toNat_natCast, add_plain] at hcell
    rw [hcell]
    unfold rdOf
    rw [Int.toNat_natCast, List.getD_eq_getElem?_getD, List.getElem?_map, HLF.out, List.getElem?_append_right (by omega), hFl, Nat.sub_self]
    rfl
  have hr0 := blk_below HK0.out hb1
  have HR0 := Lib.hid hr0; clear hr0
  have HR1 := Lib.hid hR1; clear hR1
  have hw1 : w.heap.size < w1.heap.size := by have := hb1.size; simp at this; omega
  have HB1 := Lib.hid (HB0.out.trans (hb1.mono (by simp)))
  have HN := Lib.hid hn; clear hn
  have HFL := Lib.hid hFl; clear hFl
  clear hb1
  obtain ⟨B, hB⟩ : ∃ B, (mkS la).toList.isEmpty = B := ⟨_, rfl⟩
  have HBL : Hid (B = decide (la = [])) := by show _ = _; rw [← hB, isEmpty_mkS]
  go_upto_if 27 with (fail)
  go_cut [9] (fun v9 wx => ∃ q : Nat, v9 = .int .i64 q ∧ q ≤ 100001 ∧ Hid (q = n + (if la = [] then 0 else 1)) ∧ wx = w1)
  case first =>
    cases B
    · have hla : la ≠ [] := of_decide_eq_false HBL.out.symm
      have HLA := Lib.hid hla; clear hla
      go_wp2_with fail
      go_meet
      case rel => exact ⟨n + 1, by go_num, by omega, by show _ = _; rw [if_neg HLA.out], rfl⟩
    · have hla : la = [] := of_decide_eq_true HBL.out.symm
      have HLA := Lib.hid hla; clear hla
      go_wp2_with fail
      go_meet
      case rel => exact ⟨n, rfl, by omega, by show _ = _; rw [if_pos HLA.out]; rfl, rfl⟩
  case rest =>
  obtain ⟨q, rfl, hq, HQ, rfl⟩ := hcut
  by_cases hlong : 65536 < s.length ∨ 2000 < q
  · rw [← HQ.out, if_pos hlong] at hP
    have hlz : (65536 : Int) < ((mkS s).size : Int) ∨ (((mkS s).size : Int) ≤ 65536 ∧ (2000 : Int) < (q : Int)) := by rw [mkS_size]; omega
    clear hlong
    rcases hlz with h1 | ⟨h1, h2⟩
    all_goals
      go_wp2_with (refine wpList_store_row rfl 26 (.tmp 2) (.tmp 37) rfl w.heap.size #[.int .i64 0, .int .i64 0, .int .i64 0] rfl rfl 26 _ HR0.out (by kernel_rfl) rfl (three_all _ _ _) ?_)
      refine bodyPost_ret (results_c5 rfl _ _ w.heap.size 26 #[.int .i64 0, .int .i64 0, .int .i64 0] (0, 0) _ rfl (setRow_heap _ _ _ _ _ _ HR0.out) Tryd.underlying26 rfl (by kernel_rfl)) rfl ?_
      exact parse_none (n := 0) hP.out (below_setRow HB1.out (Nat.le_refl _) _)
  · rw [← HQ.out, if_neg hlong] at hP
    have h1 : ((mkS s).size : Int) ≤ 65536 := by rw [mkS_size]; omega
    have h2 : (q : Int) ≤ 2000 := by omega
    have h2b : decide ((2000 : Int) < (q : Int)) = false := decide_eq_false (by omega)
    clear hlong HQ
    obtain ⟨o1, ho1⟩ : ∃ o1, Obj.cells #[.int .i64 0, .int .i64 0, .int .i64 0] 26 (0, 0) = o1 := ⟨_, rfl⟩
    obtain ⟨gh, hgh⟩ : ∃ gh, wc.heap.size = gh := ⟨_, rfl⟩
    have hb12 : Below wc.heap.size wc (wc.alloc o1) := (Below.refl _ _).alloc (Nat.le_refl _) _
    have hgo : w.heap.size < gh := by have := blk_lt HR0.out; omega
    have ST : Hid (PaSt w L (.slice (some ⟨g0, 0, none⟩) (n + 1) cap0) gh 0 0 0 [] (.slice none 0 0) (wc.alloc o1)) :=
      ⟨HB1.out.trans (hb12.mono HB1.out.size), blk_below HR0.out hb12, Kd.R_mono (Kd.R_below (Kd.R_bound (Kd.R_lower HR1.out (by simp))) hb12) (fun k hk => ⟨by have := hk.1; simp at this; omega, by have := hk.2.2.1; omega⟩), by rw [← hgh, blk_new wc o1, ← ho1], Kd.N_nil _ _ _ _ _, (fun c hc => by cases hc)⟩
    have HGH := Lib.hid hgh; clear hgh
    rw [← ho1] at ST
    clear ho1 hb12 HR1 HR0 HB1
    have HRE : Hid (readL 0 [0, 0, 0, 0] [] (F.drop 0) = readL 0 [0, 0, 0, 0] [] F) := by show _ = _; rw [List.drop_zero]
    obtain ⟨R, hR⟩ : ∃ R, readL 0 [0, 0, 0, 0] [] F = R := ⟨_, rfl⟩
    rw [hR] at HRE
    have HRR := Lib.hid hR; clear hR
    go_wp2_with fail
    rw [show wc.heap.size = gh from HGH.out]
    clear h2b hlc
    go_loopw [11, 12, 42] (fun vo vr vi wr => ∃ (k : Nat) (i0 i1 i2 i3 : Int) (acc : List Ch) (sv : Value), sv = vo ∧ vr = .int .i64 i3 ∧ vi = .int .i64 k ∧ k ≤ n ∧ acc.length ≤ k ∧ Hid (readL k [i0, i1, i2, i3] acc (F.drop k) = R) ∧ Hid (PaSt w L (.slice (some ⟨g0, 0, none⟩) (n + 1) cap0) gh i0 i1 i2 acc sv wr)) (fun _ _ vi _ => n - (intOf vi).toNat)
    case atStart => exact ⟨0, 0, 0, 0, 0, [], _, rfl, rfl, rfl, Nat.zero_le _, Nat.le_refl _, HRE, ST⟩
    case round =>
      clear ST HRE
      obtain ⟨k, i0, i1, i2, i3, acc, sv, hsv, rfl, rfl, hk, hal, HRE, HS⟩ := hrel
      subst hsv
      by_cases hlt : k < n
      · have hltz : (k : Int) < (n : Int) := by omega
        obtain ⟨x, hx⟩ : ∃ x, F[k]'(by rw [HFL.out]; omega) = x := ⟨_, rfl⟩
        have hLk : L[k]? = some x := by
          rw [HLF.out, List.getElem?_append_left (by rw [HFL.out]; omega), List.getElem?_eq_getElem (by rw [HFL.out]; omega), hx]
        have hcw : wr.cell? ⟨g0, k, none⟩ = some (.string (mkS x)) := by
          obtain ⟨ad, hA, hcell⟩ := Kd.at_string (Kd.R_reads' HS.out.s).2.2 (k : Int) (by omega) (by rw [List.length_map, HN.out]; omega)
          injection hA with hA
          subst hA
          rw [Int.toNat_natCast, add_plain] at hcell
          rw [hcell]
          unfold rdOf
          rw [Int.toNat_natCast, List.getD_eq_getElem?_getD, List.getElem?_map, hLk]
          rfl
        have hxl : x.length ≤ 20000 := HLL.out x (List.mem_of_getElem? hLk)
        have hre := HRE.out
        rw [List.drop_eq_getElem_cons (by rw [HFL.out]; omega), hx, readL] at hre
        have HR2 := Lib.hid hre; clear hre HRE hx hLk
        by_cases hk0 : k = 0
        · subst hk0
          have hacc : acc = [] := List.length_eq_zero_iff.1 (by omega)
          subst hacc
          go_wp2_with fail
          refine (shape_is x _ hxl (HE.out.below (HS.out.below ((Below.refl _ _).alloc (Nat.le_refl _) _)).b)).mono ?_
          rintro e w3 ⟨⟨j0, j1, j2, j3, rfl, hy⟩, hb3⟩
          have hb4 : Below wr.heap.size wr w3 := ((Below.refl _ _).alloc (Nat.le_refl _) _).trans (hb3.mono (by simp))
          have HS3 := Lib.hid (HS.out.below hb4)
          obtain ⟨W4, hW4⟩ : ∃ W4, w3.setRow gh #[.int .i64 j0, .int .i64 j1, .int .i64 j2] = W4 := ⟨_, rfl⟩
          have HS4 : Hid (PaSt w L (.slice (some ⟨g0, 0, none⟩) (n + 1) cap0) gh j0 j1 j2 [] sv W4) := by
            show PaSt _ _ _ _ _ _ _ _ _ _
            rw [← hW4]
            exact HS3.out.shape hgo _ _ _
          have HW4 := Lib.hid hW4; clear hW4
          clear hb3 hb4 hcw HS
          cases hch : shapeC x with
          | none =>
            have hR0 : Hid (parseC s = .no (0 + 1) 19) := by
              show _ = _
              have h2 := HR2.out
              rw [hch] at h2
              simp only [if_true] at h2
              rw [hP.out, parseL, HRR.out, ← h2]
            clear hch hy HR2
            go_wp2_with (first | (refine wpList_store_row rfl 26 (.tmp 10) (.tmp 52) rfl gh #[.int .i64 j0, .int .i64 j1, .int .i64 j2] rfl rfl 26 _ HS3.out.p (by kernel_rfl) rfl (three_all _ _ _) ?_; rw [HW4.out]) | (refine wpList_store_row rfl 26 (.tmp 2) (.tmp 67) rfl w.heap.size #[.int .i64 0, .int .i64 0, .int .i64 0] rfl rfl 26 _ HS4.out.r (by kernel_rfl) rfl (three_all _ _ _) ?_))
            refine bodyPost_ret (results_c5 rfl _ _ w.heap.size 26 #[.int .i64 0, .int .i64 0, .int .i64 0] (0, 0) _ rfl (setRow_heap _ _ _ _ _ _ HS4.out.r) Tryd.underlying26 rfl (by kernel_rfl)) rfl ?_
            exact parse_none hR0.out (below_setRow HS4.out.b (Nat.le_refl _) _)
          | some z =>
            have hz := hy _ hch
            have HR3 : Hid (readL (0 + 1) [j0, j1, j2, j3] [] (F.drop (0 + 1)) = R) := by
              show _ = _
              have h2 := HR2.out
              rw [hch] at h2
              simp only [if_true] at h2
              rw [hz]
              exact h2
            clear hch hy HR2 hz
            go_wp2_with (refine wpList_store_row rfl 26 (.tmp 10) (.tmp 52) rfl gh #[.int .i64 j0, .int .i64 j1, .int .i64 j2] rfl rfl 26 _ HS3.out.p (by kernel_rfl) rfl (three_all _ _ _) ?_; rw [HW4.out])
            go_roundw
            case rel => exact ⟨0 + 1, j0, j1, j2, j3, [], sv, rfl, rfl, by go_num, by omega, by simp, HR3, HS4⟩
            case measure => simp [intOf]; omega
        · have hkz : ((k : Int) == 0) = false := by rw [beq_eq_false_iff_ne]; omega
          rw [if_neg hk0] at HR2
          have hk1 : 1 ≤ k := by omega
          clear hk0
          go_wp2_with fail
          refine (choice_is x _ hxl (HE.out.below (HS.out.below ((Below.refl _ _).alloc (Nat.le_refl _) _)).b)).mono ?_
          rintro e w3 ⟨⟨y, v, rfl, hy, hdt, hok⟩, hb3⟩
          obtain ⟨Ay, cy, rfl, hly, hfy⟩ := hdt
          have hb4 : Below wr.heap.size wr w3 := ((Below.refl _ _).alloc (Nat.le_refl _) _).trans (hb3.mono (by simp))
          have hgc := blk_below (blk_new wr _) hb3
          obtain ⟨W4, hW4⟩ : ∃ W4, w3.setRow wr.heap.size (chCells y (.slice Ay (byN y.dt).length cy)).toArray = W4 := ⟨_, rfl⟩
          have hb14 : Below wr.heap.size wr W4 := by rw [← hW4]; exact below_setRow hb4 (Nat.le_refl _) _
          have hrow : W4.heap[wr.heap.size]? = some (.cells (chCells y (.slice Ay (byN y.dt).length cy)).toArray 44 (0, 0)) := by rw [← hW4]; exact setRow_heap _ _ _ _ _ _ hgc
          have hfy4 : Kd.F (Kd.int .u8) W4 (fun j => wr.heap.size + 1 ≤ j) Ay (byN y.dt).length (byN y.dt) := by
            rw [← hW4]
            exact Kd.F_mono (Kd.F_step hfy (fun j hj _ => setRow_other _ _ _ _ (by simp at hj; omega))) (fun j hj => by simp at hj; omega)
          have HS4 := Lib.hid (HS.out.below hb14)
          have hown : ∀ j, sv.ownBlock = some j → j < wr.heap.size := Kd.N_lt HS.out.o
          have HOW := Lib.hid hown; clear hown
          have HFY := Lib.hid hfy4; clear hfy4 hfy
          have HGC := Lib.hid hgc; clear hgc
          have HW4 := Lib.hid hW4; clear hW4
          have hgw : gh < wr.heap.size := blk_lt HS.out.p
          have hw4s : wr.heap.size ≤ W4.heap.size := hb14.size
          clear hb3 hb4 hb14 hcw
          cases hch : choiceC x with
          | none =>
            have hR0 : Hid (parseC s = .no (k + 1) 19) := by
              show _ = _
              have h2 := HR2.out
              rw [hch] at h2
              simp only [] at h2
              rw [hP.out, parseL, HRR.out, ← h2]
            clear hch hy HR2
            go_wp2_with (first | (refine wpList_store_row rfl 44 (.tmp 15) (.tmp 58) rfl wr.heap.size (chCells y (.slice Ay (byN y.dt).length cy)).toArray rfl rfl 44 _ HGC.out (by kernel_rfl) rfl (chCells_all _ _ _ _) ?_; rw [HW4.out]) | (refine wpList_store_row rfl 26 (.tmp 2) (.tmp 67) rfl w.heap.size #[.int .i64 0, .int .i64 0, .int .i64 0] rfl rfl 26 _ HS4.out.r (by kernel_rfl) rfl (three_all _ _ _) ?_))
            refine bodyPost_ret (results_c5 rfl _ _ w.heap.size 26 #[.int .i64 0, .int .i64 0, .int .i64 0] (0, 0) _ rfl (setRow_heap _ _ _ _ _ _ HS4.out.r) Tryd.underlying26 rfl (by kernel_rfl)) rfl ?_
            exact parse_none hR0.out (below_setRow HS4.out.b (Nat.le_refl _) _)
          | some z =>
            obtain rfl := hy _ hch
            have HR3 : Hid (readL (k + 1) [i0, i1, i2, i3] (acc ++ [y]) (F.drop (k + 1)) = R) := by
              show _ = _
              have h2 := HR2.out
              rw [hch] at h2
              exact h2
            clear hch hy HR2
            have hr4 := hrow
            unfold chCells at hr4
            have c0 := (blk_cell hr4 0).trans (rfl : _ = some (Value.int .i64 y.d))
            have c1 := (blk_cell hr4 1).trans (rfl : _ = some (Value.string (mkS y.bk)))
            have c2 := (blk_cell hr4 2).trans (rfl : _ = some (Value.string (mkS y.ky)))
            have c3 := (blk_cell hr4 3).trans (rfl : _ = some (Value.slice Ay (byN y.dt).length cy))
            have c4 := (blk_cell hr4 4).trans (rfl : _ = some (Value.int .i64 y.n))
            have c5 := (blk_cell hr4 5).trans (rfl : _ = some (Value.int .i64 y.a))
            have c6 := (blk_cell hr4 6).trans (rfl : _ = some (Value.string (mkS y.pf)))
            have c7 := (blk_cell hr4 7).trans (rfl : _ = some (Value.string (mkS y.fr)))
            have c8 := (blk_cell hr4 8).trans (rfl : _ = some (Value.int .i64 y.fi))
            have c9 := (blk_cell hr4 9).trans (rfl : _ = some (Value.int .i64 y.mo))
            have HRW := Lib.hid hrow; clear hrow hr4
            have HFK : Hid (Kd.FK kCh W4 (fun j => wr.heap.size + 1 ≤ j) y (chCells y (.slice Ay (byN y.dt).length cy))) := kCh_mkF ⟨Ay, cy, rfl, hly, HFY.out⟩
            go_wp2_with (first | (refine wpList_store_row rfl 44 (.tmp 15) (.tmp 58) rfl wr.heap.size (chCells y (.slice Ay (byN y.dt).length cy)).toArray rfl rfl 44 _ HGC.out (by kernel_rfl) rfl (chCells_all _ _ _ _) ?_; rw [HW4.out]) | (at_builtin; refine Kd.N_append kCh (w0 := w) w.heap.size rfl (.tmp 61) (.tmp 63) 30 44 (.agg (chCells (bareC 0) (.slice none 0 0)).toArray) 128 rfl Tryd.underlying30 info44 rfl (by decide) (by omega) sv acc y (chCells y (.slice Ay (byN y.dt).length cy)) (fun j => gh < j) (fun j => wr.heap.size + 1 ≤ j) rfl rfl HFK.out (fun j hj => ⟨by omega, fun e => by have := HOW.out j e.symm; omega⟩) (fun j hj => by omega) HS4.out.o HS4.out.b HS4.out.b.size (by omega) ?_; intro v1 w5 hN5 hb5 hg5 hat5))
            have HS5 : Hid (PaSt w L (.slice (some ⟨g0, 0, none⟩) (n + 1) cap0) gh i0 i1 i2 (acc ++ [y]) v1 w5) :=
              ⟨hb5, blk_grown HS4.out.r hg5 (fun e => by have := HS4.out.o.1 _ e.symm; omega), Kd.R_grown2 HS4.out.s rfl hg5 (fun j hj e => by have h1 := HS4.out.o.1 j hj; have h2 := (HS4.out.s.1 j e.symm).2; omega), blk_grown HS4.out.p hg5 (fun e => by have := HS4.out.o.1 _ e.symm; omega), hN5, fun c hc => by
                rcases List.mem_append.1 hc with hc | hc
                · exact HS4.out.k c hc
                · rw [List.mem_singleton.1 hc]; exact hok.mono hxl⟩
            clear hN5 hb5 hg5 hat5 c0 c1 c2 c3 c4 c5 c6 c7 c8 c9
            go_wp2_with fail
            go_roundw
            case rel => exact ⟨k + 1, i0, i1, i2, i3, acc ++ [y], v1, rfl, rfl, by go_num, by omega, by simp; omega, HR3, HS5⟩
            case measure => simp [intOf]; omega
      · obtain rfl : k = n := by omega
        have hlc : wr.cell? ⟨g0, k, none⟩ = some (.string (mkS la)) := by
          obtain ⟨ad, hA, hcell⟩ := Kd.at_string (Kd.R_reads' HS.out.s).2.2 (k : Int) (by omega) (by rw [List.length_map, HN.out]; omega)
          injection hA with hA
          subst hA
          rw [Int.toNat_natCast, add_plain] at hcell
          rw [hcell]
          unfold rdOf
          rw [Int.toNat_natCast, List.getD_eq_getElem?_getD, List.getElem?_map, HLF.out, List.getElem?_append_right (by rw [HFL.out]; omega), HFL.out, Nat.sub_self]
          rfl
        have hR0 : Hid (parseC s = if F = [] ∨ la ≠ [] then .no (k + 1) 19 else ⟨[i0, i1, i2, i3], acc, 0, 0⟩) := by
          show _ = _
          have h2 := HRE.out
          rw [List.drop_eq_nil_of_le (by rw [HFL.out]; omega), readL] at h2
          rw [hP.out, parseL, HRR.out, ← h2, HFL.out]
        clear HRE hlt
        by_cases hk0 : k = 0
        · subst hk0
          have hR1 : Hid (parseC s = .no (0 + 1) 19) := by
            show _ = _
            rw [hR0.out, if_pos (.inl (List.length_eq_zero_iff.1 HFL.out))]
          go_wp2_with (refine wpList_store_row rfl 26 (.tmp 2) (.tmp 80) rfl w.heap.size #[.int .i64 0, .int .i64 0, .int .i64 0] rfl rfl 26 _ HS.out.r (by kernel_rfl) rfl (three_all _ _ _) ?_)
          refine bodyPost_ret (results_c5 rfl _ _ w.heap.size 26 #[.int .i64 0, .int .i64 0, .int .i64 0] (0, 0) _ rfl (setRow_heap _ _ _ _ _ _ HS.out.r) Tryd.underlying26 rfl (by kernel_rfl)) rfl ?_
          exact parse_none hR1.out (below_setRow HS.out.b (Nat.le_refl _) _)
        · have hkz : ((k : Int) == 0) = false := by rw [beq_eq_false_iff_ne]; omega
          have hFn : F ≠ [] := fun e => hk0 (by rw [← HFL.out, e]; rfl)
          have HFN := Lib.hid hFn; clear hFn hk0
          cases B
          · have hR1 : Hid (parseC s = .no (k + 1) 19) := by
              show _ = _
              rw [hR0.out, if_pos (.inr (of_decide_eq_false HBL.out.symm))]
            go_wp2_with (refine wpList_store_row rfl 26 (.tmp 2) (.tmp 80) rfl w.heap.size #[.int .i64 0, .int .i64 0, .int .i64 0] rfl rfl 26 _ HS.out.r (by kernel_rfl) rfl (three_all _ _ _) ?_)
            refine bodyPost_ret (results_c5 rfl _ _ w.heap.size 26 #[.int .i64 0, .int .i64 0, .int .i64 0] (0, 0) _ rfl (setRow_heap _ _ _ _ _ _ HS.out.r) Tryd.underlying26 rfl (by kernel_rfl)) rfl ?_
            exact parse_none hR1.out (below_setRow HS.out.b (Nat.le_refl _) _)
          · have hR1 : Hid (parseC s = ⟨[i0, i1, i2, i3], acc, 0, 0⟩) := by
              show _ = _
              have hl0 : la = [] := of_decide_eq_true HBL.out.symm
              rw [hR0.out, if_neg (fun h => h.elim HFN.out (fun h => h hl0))]
            have p0 := (blk_cell HS.out.p 0).trans (rfl : _ = some (Value.int .i64 i0))
            have p1 := (blk_cell HS.out.p 1).trans (rfl : _ = some (Value.int .i64 i1))
            have p2 := (blk_cell HS.out.p 2).trans (rfl : _ = some (Value.int .i64 i2))
            go_wp2_with (refine wpList_store_row rfl 26 (.tmp 2) (.tmp 83) rfl w.heap.size #[.int .i64 i0, .int .i64 i1, .int .i64 i2] rfl rfl 26 _ HS.out.r (by kernel_rfl) rfl (three_all _ _ _) ?_)
            refine bodyPost_ret (results_c5 rfl _ _ w.heap.size 26 #[.int .i64 i0, .int .i64 i1, .int .i64 i2] (0, 0) _ rfl (setRow_heap _ _ _ _ _ _ HS.out.r) Tryd.underlying26 rfl (by kernel_rfl)) rfl ?_
            refine ⟨⟨i0, i1, i2, i3, _, by rw [hR1.out]; rfl, by rw [hR1.out], ?_, by rw [hR1.out]; exact HS.out.k⟩, below_setRow HS.out.b (Nat.le_refl _) _⟩
            rw [hR1.out]
            exact Kd.N_mono (Kd.N_step HS.out.o (fun j hj _ => setRow_other _ _ _ _ (by omega))) (fun j hj => by omega)
end Go.Proofs.YtghllfihmmlcnaaDoor
