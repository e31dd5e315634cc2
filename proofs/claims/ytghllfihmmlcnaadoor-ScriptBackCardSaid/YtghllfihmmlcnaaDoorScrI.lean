/- Text of package script: a choice's line. -/
import Derived.Test.YtghllfihmmlcnaaDoorScrT
import Derived.Test.YtghllfihmmlcnaaDoorWEqStruct
namespace Go.Proofs.YtghllfihmmlcnaaDoor
open Go.RowKit Nam YtghllfihmmlcnaaDoorW.PrintWords

theorem eqA42 (d : Nat) (w : World) (x0 y0 : ByteArray) (x1 y1 : ByteArray) (x2 y2 : Int) (x3 y3 : Int) :
    (Op.equalIn (d + 2) 42 (.agg #[.string x0, .string x1, .int .i64 x2, .int .i64 x3]) (.agg #[.string y0, .string y1, .int .i64 y2, .int .i64 y3])).run Tryd.prog w = .ok (x0.toList == y0.toList && (x1.toList == y1.toList && (x2 == y2 && (x3 == y3)))) w := by
  refine eqA_of Tryd.underlying42 (by kernel_rfl) ?_
  refine eqf_cons (by rfl) (by go_simp; rfl) (by go_simp; rfl) (by go_simp) ?_
  refine eqf_cons (by rfl) (by go_simp; rfl) (by go_simp; rfl) (by go_simp) ?_
  refine eqf_cons (by rfl) (by go_simp; rfl) (by go_simp; rfl) (by go_simp) ?_
  exact eqf_last (by rfl) (by go_simp; rfl) (by go_simp; rfl) (by go_simp)
attribute [local go_sem high] eqA42

/-- Two that are not one part at some first place. -/
theorem first_diff (x y : Ch) (h : y ≠ x) (hd : y.d = x.d) : y.bk ≠ x.bk ∨ (y.bk = x.bk ∧ y.ky ≠ x.ky) ∨ (y.bk = x.bk ∧ y.ky = x.ky ∧ y.dt ≠ x.dt) ∨ (y.bk = x.bk ∧ y.ky = x.ky ∧ y.dt = x.dt ∧ y.n ≠ x.n) ∨ (y.bk = x.bk ∧ y.ky = x.ky ∧ y.dt = x.dt ∧ y.n = x.n ∧ y.a ≠ x.a) ∨
    (y.bk = x.bk ∧ y.ky = x.ky ∧ y.dt = x.dt ∧ y.n = x.n ∧ y.a = x.a ∧ ¬ (y.pf = x.pf ∧ y.fr = x.fr ∧ y.fi = x.fi ∧ y.mo = x.mo)) := by
  by_cases h1 : y.bk = x.bk
  · by_cases h2 : y.ky = x.ky
    · by_cases h3 : y.dt = x.dt
      · by_cases h4 : y.n = x.n
        · by_cases h5 : y.a = x.a
          · refine .inr (.inr (.inr (.inr (.inr ⟨h1, h2, h3, h4, h5, fun ⟨h6, h7, h8, h9⟩ => h ?_⟩))))
            cases x
            cases y
            simp_all
          · exact .inr (.inr (.inr (.inr (.inl ⟨h1, h2, h3, h4, h5⟩))))
        · exact .inr (.inr (.inr (.inl ⟨h1, h2, h3, h4⟩)))
      · exact .inr (.inr (.inl ⟨h1, h2, h3⟩))
    · exact .inr (.inl ⟨h1, h2⟩)
  · exact .inl h1
theorem bne_mkS {a b : List UInt8} (h : a ≠ b) : ((mkS a).toList == (mkS b).toList) = false ∧ ((mkS a).toList != (mkS b).toList) = true := by
  have e : ((mkS a).toList == (mkS b).toList) = false := by rw [beq_mkS]; exact decide_eq_false h
  exact ⟨e, by rw [bne, e]; rfl⟩
theorem bne_int {a b : Int} (h : a ≠ b) : (a == b) = false ∧ (a != b) = true := by
  have e : (a == b) = false := beq_eq_false_iff_ne.2 h
  exact ⟨e, by rw [bne, e]; rfl⟩

theorem zeroCh (w : World) : (zeroValue 44).run Tryd.prog w = .ok (.agg (chCells (bareC 0) (.slice none 0 0)).toArray) w := by kernel_rfl

theorem Ch.Ok.mono {x : Ch} {m m' : Nat} (h : x.Ok m) (hm : m ≤ m') : x.Ok m' :=
  { h with bk := Nat.le_trans h.bk hm, ky := Nat.le_trans h.ky hm, dt := Nat.le_trans h.dt hm, pf := Nat.le_trans h.pf hm, fr := Nat.le_trans h.fr hm }
theorem Box.below {w w' : World} {g : Nat} {P : Nat → Prop} {x : Ch} (h : Box w g P x) (hb : Below w.heap.size w w') : Box w' g P x :=
  let ⟨v, h1, h2⟩ := h; ⟨v, blk_below h1 hb, Kd.V_below h2 hb⟩
theorem grown_trans {w w1 w2 : World} {r : Option Nat} (h : w.grownBy w1 r) (h2 : w1.grownBy w2 r) : w.grownBy w2 r :=
  ⟨h2.os.trans h.os, h2.tape.trans h.tape, h2.output.trans h.output, Nat.le_trans h.size h2.size, fun k hk hne => (h2.block k (Nat.lt_of_lt_of_le hk h.size) hne).trans (h.block k hk hne)⟩
theorem grown_below {w w1 : World} (hb : Below w.heap.size w w1) (r : Option Nat) : w.grownBy w1 r := ⟨hb.os, hb.tape, hb.output, hb.size, fun k hk _ => hb.block k hk⟩

/-- What stands between two fields. -/
structure TextSt (w : World) (x : Ch) (v : Value) (g : Nat) (fv : Value) (fs : List Nat) (y : Ch) (wr : World) : Prop where
  b : Below w.heap.size w wr
  c : wr.heap[w.heap.size]? = some (.cells (chCells x v).toArray 44 (0, 0))
  d : Dt wr (fun k => k < w.heap.size) v x.dt
  o : Box wr g (fun k => g < k) y
  f : Kd.R (Kd.int .i64) 3 wr w.heap.size (fun k => k < g) fv (fs.map fun f : Nat => (f : Int))
theorem TextSt.step {w : World} {x : Ch} {v : Value} {g : Nat} {fv : Value} {fs : List Nat} {y z : Ch} {wr w2 : World} (h : TextSt w x v g fv fs y wr) (hg : wr.grownBy w2 (some g)) (hgl : w.heap.size < g) (ho : Box w2 g (fun k => g < k) z) : TextSt w x v g fv fs z w2 :=
  ⟨h.b.grown hg h.b.size (fun k hk => by injection hk with hk; omega), blk_grown h.c hg (by simp; omega), Kd.V_grown h.d hg (fun k hk e => by injection e with e; omega), ho, Kd.R_grown h.f hg (fun k hk e => by injection e with e; omega)⟩

set_option maxHeartbeats 1000000 in
set_option maxRecDepth 100000 in
theorem ptext2_is (x : Ch) (v : Value) (w : World) (hx : x.Ok 20000) (hv : Dt w (fun _ => True) v x.dt) (hE : Env w) :
    Calls Tryd.prog 12 #[.agg (chCells x v).toArray] w fun e w' => e = .returned (.tuple #[.string (mkS ((textC x).getD [])), .bool (textC x).isSome]) ∧ Below w.heap.size w w' := by
  obtain ⟨o0, ho0⟩ : ∃ o0, Obj.cells (chCells x v).toArray 44 (0, 0) = o0 := ⟨_, rfl⟩
  have HX := Lib.hid hx; clear hx
  have HV := Lib.hid hv; clear hv
  have HE := Lib.hid hE; clear hE
  obtain ⟨vb, fs, hform⟩ : ∃ vb fs, formC x.d = (vb, fs) := ⟨_, _, rfl⟩
  have hlen := form_len x.d
  have hfle := form_le x.d
  rw [hform] at hlen hfle
  have HF := Lib.hid (form_is x.d)
  rw [hform] at HF
  simp only [] at hlen hfle HF
  have HFL := Lib.hid hfle; clear hfle
  obtain ⟨hlen1, hlen2⟩ := hlen
  by_cases hvb : vb = []
  · subst hvb
    have HT : Hid (textC x = none) := by
      show _ = _
      unfold textC
      rw [hform, if_pos rfl]
    clear hform
    have hnv : (mkS []).toList.isEmpty = true := by rw [isEmpty_mkS]; rfl
    have hb0 : Below w.heap.size w (w.alloc o0) := (Below.refl _ _).alloc (Nat.le_refl _) _
    have hk0 : (w.alloc o0).heap[w.heap.size]? = some o0 := blk_new w o0
    rw [← ho0] at hk0 hb0
    have c0 := (blk_cell hk0 0).trans (rfl : _ = some (Value.int .i64 x.d))
    have HB0 := Lib.hid hb0; clear hb0
    clear ho0 o0 hk0
    unfold chCells at *
    go_enter Tryd.func12, Tryd.ntmps12
    go_wp2_with fail
    refine (HF.out _).mono ?_
    rintro e w1 ⟨vf, rfl, hR, hb1⟩
    have HB1 := Lib.hid (HB0.out.trans (hb1.mono (by simp)))
    clear hb1 hR c0
    go_wp2_with fail
    go_ret2
    exact ⟨by rw [HT.out]; rfl, HB1.out⟩
  · have hnv : (mkS vb).toList.isEmpty = false := by rw [isEmpty_mkS]; exact decide_eq_false hvb
    have HNV := Lib.hid hvb; clear hvb
    have hb0 : Below w.heap.size w (w.alloc o0) := (Below.refl _ _).alloc (Nat.le_refl _) _
    have hk0 : (w.alloc o0).heap[w.heap.size]? = some o0 := blk_new w o0
    rw [← ho0] at hk0 hb0
    have c0 := (blk_cell hk0 0).trans (rfl : _ = some (Value.int .i64 x.d))
    have HB0 := Lib.hid hb0; clear hb0
    have HK0 := Lib.hid hk0; clear hk0
    clear ho0 o0
    unfold chCells at *
    go_enter Tryd.func12, Tryd.ntmps12
    go_wp2_with fail
    refine (HF.out _).mono ?_
    rintro e w1 ⟨vf, rfl, hR, hb1⟩
    obtain ⟨A, cp, rfl⟩ := Kd.R_slice hR
    have hlf : (fs.map fun f : Nat => (f : Int)).length = fs.length := List.length_map _
    rw [hlf] at hR ⊢
    clear hlf
    have HR := Lib.hid hR; clear hR
    have hk1 := blk_below HK0.out hb1
    have d0 := (blk_cell hk1 0).trans (rfl : _ = some (Value.int .i64 x.d))
    have HK1 := Lib.hid hk1; clear hk1
    have hs1 : w.heap.size + 1 ≤ w1.heap.size := by have := hb1.size; simpa using this
    have HB1 := Lib.hid (HB0.out.trans (hb1.mono (by simp)))
    clear hb1 c0
    go_wp2_with fail
    obtain ⟨g, hg⟩ : ∃ g, w1.heap.size = g := ⟨_, rfl⟩
    obtain ⟨o1, ho1⟩ : ∃ o1, Obj.cells (chCells (bareC x.d) (.slice none 0 0)).toArray 44 (0, 0) = o1 := ⟨_, rfl⟩
    have hb2 : Below w.heap.size w (w1.alloc o1) := HB1.out.alloc HB1.out.size _
    have hb12 : Below w1.heap.size w1 (w1.alloc o1) := (Below.refl _ _).alloc (Nat.le_refl _) _
    have ST : Hid (TextSt w x v g (.slice A fs.length cp) fs (onlyC x (fs.take 0)) (w1.alloc o1)) :=
      ⟨hb2, blk_below HK1.out hb12, Kd.V_mono (Kd.V_below (Kd.V_bound HV.out) hb2) (fun _ hk => hk.2), ⟨_, by rw [← hg, blk_new w1 o1, ← ho1]; rfl, Kd.V_nil _ _ _ _ _⟩, Kd.R_mono (Kd.R_below (Kd.R_bound (Kd.R_lower HR.out (by simp))) hb12) (fun k hk => by have := hk.2.2.1; omega)⟩
    have hgl : w.heap.size < g := by omega
    have HG := Lib.hid hg; clear hg
    rw [← ho1] at ST
    unfold chCells bareC at ST
    clear ho1 hb2 hb12 d0
    rw [show w1.heap.size = g from HG.out]
    go_loopw [4, 23] (fun vl vi wr => ∃ k : Nat, vi = .int .i64 k ∧ k ≤ fs.length ∧ vl = .string (mkS (vb ++ lineC x (fs.take k))) ∧ Hid (TextSt w x v g (.slice A fs.length cp) fs (onlyC x (fs.take k)) wr)) (fun _ vi _ => fs.length - (intOf vi).toNat)
    case atStart => exact ⟨0, rfl, Nat.zero_le _, by simp [lineC], ST⟩
    case round =>
      clear ST HK1 HB1 HR
      obtain ⟨k, rfl, hk, rfl, HS⟩ := hrel
      by_cases hlt : k < fs.length
      · have hltz : (k : Int) < (fs.length : Int) := by omega
        obtain ⟨f, hf⟩ : ∃ f, fs[k] = f := ⟨_, rfl⟩
        have hf8 : f ≤ 8 := HFL.out f (by rw [← hf]; exact List.getElem_mem _)
        obtain ⟨ad, hA, hcell⟩ := Kd.at_int (Kd.R_reads' HS.out.f).2.2 (k : Int) (by omega) (by simp; omega)
        subst hA
        have hrd : rd (fs.map fun f : Nat => (f : Int)) (k : Int) = (f : Int) := by
          unfold rd
          rw [Int.toNat_natCast, List.getD_eq_getElem?_getD, List.getElem?_map, List.getElem?_eq_getElem hlt, hf]
          rfl
        rw [hrd, Int.toNat_natCast] at hcell
        clear hrd
        have htk : fs.take (k + 1) = fs.take k ++ [f] := by rw [List.take_succ_eq_append_getElem hlt, hf]
        have HTK := Lib.hid htk; clear htk hf
        have hC := HS.out.c
        unfold chCells at hC
        have c0 := (blk_cell hC 0).trans (rfl : _ = some (Value.int .i64 x.d))
        have c1 := (blk_cell hC 1).trans (rfl : _ = some (Value.string (mkS x.bk)))
        have c2 := (blk_cell hC 2).trans (rfl : _ = some (Value.string (mkS x.ky)))
        have c3 := (blk_cell hC 3).trans (rfl : _ = some v)
        have c4 := (blk_cell hC 4).trans (rfl : _ = some (Value.int .i64 x.n))
        have c5 := (blk_cell hC 5).trans (rfl : _ = some (Value.int .i64 x.a))
        have c6 := (blk_cell hC 6).trans (rfl : _ = some (Value.string (mkS x.pf)))
        have c7 := (blk_cell hC 7).trans (rfl : _ = some (Value.string (mkS x.fr)))
        have c8 := (blk_cell hC 8).trans (rfl : _ = some (Value.int .i64 x.fi))
        have c9 := (blk_cell hC 9).trans (rfl : _ = some (Value.int .i64 x.mo))
        clear hC
        go_wp2_with fail
        refine (word_is x f hf8 v _ wr (HX.out.mono (by omega)) HS.out.d (HE.out.below HS.out.b)).mono ?_
        rintro e w2 ⟨rfl, hb2⟩
        have HS2 : Hid (TextSt w x v g (.slice (some ad) fs.length cp) fs (onlyC x (fs.take k)) w2) := HS.out.step (grown_below hb2 _) hgl (HS.out.o.below hb2)
        clear hb2 hcell c0 c1 c2 c3 c4 c5 c6 c7 c8 c9
        have hwl : (wordC x f).length ≤ 65536 := by have := wordC_le x 20000 HX.out f; omega
        go_wp2_with fail
        refine (set_is (onlyC x (fs.take k)) f hf8 (wordC x f) g (fun k => g < k) w2 HS2.out.o hwl (fun k hk => by have := blk_lt HS2.out.o.choose_spec.1; omega) (HE.out.below HS2.out.b)).mono ?_
        rintro e w3 ⟨y, rfl, hy, hbox, hgr, -⟩
        have hset := setC_word x (onlyC x (fs.take k)) (HX.out.mono (by omega)) f
        obtain rfl := hy _ hset
        rw [← onlyC_snoc, ← HTK.out] at hbox
        have HS3 : Hid (TextSt w x v g (.slice (some ad) fs.length cp) fs (onlyC x (fs.take (k + 1))) w3) := HS2.out.step hgr hgl hbox
        clear hbox hgr hy
        rw [hset]
        clear hset
        have hz1 : (mkS (wordC x f)).size ≤ 65536 := by rw [mkS_size]; exact hwl
        have hz2 : (mkS (vb ++ lineC x (fs.take k))).size ≤ 400000 := by
          rw [mkS_size, List.length_append]
          have h1 := lineC_le x 20000 HX.out (fs.take k)
          have h2 : (fs.take k).length ≤ 5 := by rw [List.length_take]; omega
          have h3 := Nat.mul_le_mul_right (2 * 20000 + 22) h2
          omega
        have hfin : Hid (mkS (vb ++ lineC x (fs.take k)) ++ (⟨#[32]⟩ ++ mkS (wordC x f)) = mkS (vb ++ lineC x (fs.take (k + 1)))) := by
          show _ = _
          rw [HTK.out, lineC_snoc]
          apply ByteArray.ext
          apply Array.toList_inj.1
          simp [mkS]
        go_wp2_with fail
        go_roundw
        case rel => exact ⟨k + 1, by go_num, by omega, by rw [hfin.out], HS3⟩
        case measure => simp [intOf]; omega
      · obtain rfl : k = fs.length := by omega
        clear hk hlt
        rw [List.take_length] at HS ⊢
        obtain ⟨y, hy⟩ : ∃ y, onlyC x fs = y := ⟨_, rfl⟩
        have hyd : y.d = x.d := by rw [← hy]; exact onlyC_d x fs
        have HT : Hid (textC x = if y = x then some (vb ++ lineC x fs) else none) := by
          show _ = _
          unfold textC
          rw [hform, if_neg HNV.out, hy]
        rw [hy] at HS
        obtain ⟨vy, hyb, hyv⟩ := HS.out.o
        have hC := HS.out.c
        have hcx := Dt_string HS.out.d
        have hcy := Dt_string hyv
        have HB := Lib.hid HS.out.b
        clear HS hyv hy hform
        unfold chCells at hC hyb
        have c1 := (blk_cell hC 1).trans (rfl : _ = some (Value.string (mkS x.bk)))
        have c2 := (blk_cell hC 2).trans (rfl : _ = some (Value.string (mkS x.ky)))
        have c3 := (blk_cell hC 3).trans (rfl : _ = some v)
        have c4 := (blk_cell hC 4).trans (rfl : _ = some (Value.int .i64 x.n))
        have c5 := (blk_cell hC 5).trans (rfl : _ = some (Value.int .i64 x.a))
        have c6 := (blk_cell hC 6).trans (rfl : _ = some (Value.string (mkS x.pf)))
        have c7 := (blk_cell hC 7).trans (rfl : _ = some (Value.string (mkS x.fr)))
        have c8 := (blk_cell hC 8).trans (rfl : _ = some (Value.int .i64 x.fi))
        have c9 := (blk_cell hC 9).trans (rfl : _ = some (Value.int .i64 x.mo))
        have d1 := (blk_cell hyb 1).trans (rfl : _ = some (Value.string (mkS y.bk)))
        have d2 := (blk_cell hyb 2).trans (rfl : _ = some (Value.string (mkS y.ky)))
        have d3 := (blk_cell hyb 3).trans (rfl : _ = some vy)
        have d4 := (blk_cell hyb 4).trans (rfl : _ = some (Value.int .i64 y.n))
        have d5 := (blk_cell hyb 5).trans (rfl : _ = some (Value.int .i64 y.a))
        have d6 := (blk_cell hyb 6).trans (rfl : _ = some (Value.string (mkS y.pf)))
        have d7 := (blk_cell hyb 7).trans (rfl : _ = some (Value.string (mkS y.fr)))
        have d8 := (blk_cell hyb 8).trans (rfl : _ = some (Value.int .i64 y.fi))
        have d9 := (blk_cell hyb 9).trans (rfl : _ = some (Value.int .i64 y.mo))
        clear hC hyb
        by_cases hxy : y = x
        · rw [if_pos hxy] at HT
          subst hxy
          clear hyd
          go_wp2
          go_ret2
          exact ⟨by rw [HT.out]; rfl, HB.out⟩
        · rw [if_neg hxy] at HT
          have hfd := first_diff x y hxy hyd
          have HXY := Lib.hid hxy; clear hxy
          obtain ⟨yd, ybk, yky, ydt, yn, ya, ypf, yfr, yfi, ymo⟩ := y
          simp only [] at hyd hfd d1 d2 d3 d4 d5 d6 d7 d8 d9 hcy
          clear hyd HXY
          rcases hfd with h | ⟨rfl, h⟩ | ⟨rfl, rfl, h⟩ | ⟨rfl, rfl, rfl, h⟩ | ⟨rfl, rfl, rfl, rfl, h⟩ | ⟨rfl, rfl, rfl, rfl, rfl, h⟩
          · obtain ⟨e1, e2⟩ := bne_mkS h
            clear h
            go_wp2
            go_ret2
            exact ⟨by rw [HT.out]; rfl, HB.out⟩
          · obtain ⟨e1, e2⟩ := bne_mkS h
            clear h
            go_wp2
            go_ret2
            exact ⟨by rw [HT.out]; rfl, HB.out⟩
          · obtain ⟨e1, e2⟩ := bne_mkS h
            clear h
            go_wp2
            go_ret2
            exact ⟨by rw [HT.out]; rfl, HB.out⟩
          · obtain ⟨e1, e2⟩ := bne_int h
            clear h
            go_wp2
            go_ret2
            exact ⟨by rw [HT.out]; rfl, HB.out⟩
          · obtain ⟨e1, e2⟩ := bne_int h
            clear h
            go_wp2
            go_ret2
            exact ⟨by rw [HT.out]; rfl, HB.out⟩
          · have e1 : ((mkS ypf).toList == (mkS x.pf).toList && ((mkS yfr).toList == (mkS x.fr).toList && (yfi == x.fi && (ymo == x.mo)))) = false := by
              rw [Bool.eq_false_iff]
              intro e
              simp only [Bool.and_eq_true, beq_mkS, decide_eq_true_eq, beq_iff_eq] at e
              exact h ⟨e.1, e.2.1, e.2.2.1, e.2.2.2⟩
            clear h
            go_wp2
            go_ret2
            exact ⟨by rw [HT.out]; rfl, HB.out⟩
end Go.Proofs.YtghllfihmmlcnaaDoor
