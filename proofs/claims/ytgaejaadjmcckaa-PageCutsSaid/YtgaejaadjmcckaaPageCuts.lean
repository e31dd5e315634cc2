/- PageCuts is true of every input: any entries, any question: the page of objects, of versions, and the entries in order are the document's. -/
import Derived.Test.YtgaejaadjmcckaaPAns
import Derived.Test.YtgaejaadjmcckaaPArg
import Derived.Deep.DeepCutAuto
import Derived.Deep.RegionLaw
import Derived.Deep.RegionHeld3
namespace Go.Proofs.Ytgaejaadjmcckaa.pageCuts
open Go.ChangeShapes Go.WideShapes Go.ChangeAt Go.RowKit Go.Shelf Go.Lib Nam

section
variable {H : Type} {enc : TypeId × Value → H}

theorem open_ask {w : World} {base : Nat} {r : Reach} {held : Bool} {v : Value} {d : DataW H} {ps : List MemPlace} (hval : Value.okWide Try.prog w r base 35 v)
    (hd : DataW.Trod enc Try.prog w 0 (fun _ => true) held 35 v d ps) : ∃ q : AskV, v = .agg #[.string q.pre, .string q.fr, .int .i64 q.fid, .int .i64 q.most] ∧ q.pre.size ≤ maxLen ∧ q.fr.size ≤ maxLen := by
  have c9 : Try.prog.cellsOf 9 = 1 := by kernel_rfl
  have c3 : Try.prog.cellsOf 3 = 1 := by kernel_rfl
  have c35 : Try.prog.cellsOf 35 = 4 := by kernel_rfl
  obtain ⟨cs, rfl, hsz⟩ := okWide_struct Try.underlying35 hval
  obtain ⟨fuel, hf⟩ := hd
  obtain ⟨xs, n, _, _, hl, hxl, hg⟩ := DataW.trod_struct Try.underlying35 hf
  rw [c35] at hsz
  obtain ⟨v0, v1, v2, v3, rfl⟩ : ∃ v0 v1 v2 v3, cs = #[v0, v1, v2, v3] := by
    obtain ⟨l⟩ := cs
    match l, hsz with
    | [a, b, c, d], _ => exact ⟨a, b, c, d, rfl⟩
  have hxl : xs.length = 4 := hxl
  have m0 := hg 0 _ rfl
  have m1 := hg 1 _ rfl
  have m2 := hg 2 _ rfl
  have m3 := hg 3 _ rfl
  rw [List.getElem?_eq_getElem (by omega)] at m0 m1 m2 m3
  simp [Value.cells, c3, c9] at m0 m1 m2 m3
  obtain ⟨a, e0, _, h0⟩ := DataW.trod_string Try.underlying9 m0
  obtain ⟨b, e1, _, h1⟩ := DataW.trod_string Try.underlying9 m1
  obtain ⟨i, e2, _, _⟩ := DataW.trod_int Try.underlying3 m2
  obtain ⟨k, e3, _, _⟩ := DataW.trod_int Try.underlying3 m3
  simp only [List.cons.injEq, and_true] at e0 e1 e2 e3
  subst e0; subst e1; subst e2; subst e3
  exact ⟨⟨a, b, i, k⟩, rfl, h0, h1⟩

set_option maxHeartbeats 2000000 in
set_option maxRecDepth 100000 in
theorem walk (l : List Ent) (hl : l.length ≤ maxLen) (v : Value) (W : World) (hr : RowE W v l) (q : AskV) (hq : q.pre.size ≤ maxLen) (hqf : q.fr.size ≤ maxLen) :
    Calls Try.prog 4 #[v, .agg #[.string q.pre, .string q.fr, .int .i64 q.fid, .int .i64 q.most]] W fun e W' => e = .returned (.bool true) ∧ Below W.heap.size W W' := by
  obtain ⟨p, c, rfl, -⟩ := len_of_row hr
  have HR := Lib.hid hr; clear hr
  go_enter Try.func4, Try.ntmps4
  go_wp2_with fail
  obtain ⟨w0, hw0⟩ : ∃ w0, W.alloc (.cells #[.string q.pre, .string q.fr, .int .i64 q.fid, .int .i64 q.most] 35) = w0 := ⟨_, rfl⟩
  rw [hw0]
  have h0 : w0.heap[W.heap.size]? = some (.cells #[.string q.pre, .string q.fr, .int .i64 q.fid, .int .i64 q.most] 35 (0, 0)) := by rw [← hw0]; exact heap_alloc_new W _
  have hs0 : W.heap.size < w0.heap.size := by rw [← hw0]; simp
  have hbox : ∀ V : World, Below w0.heap.size w0 V → V.cell? ⟨W.heap.size, 0, none⟩ = some (.string q.pre) ∧ V.cell? ⟨W.heap.size, 1, none⟩ = some (.string q.fr) ∧ V.cell? ⟨W.heap.size, 2, none⟩ = some (.int .i64 q.fid) ∧ V.cell? ⟨W.heap.size, 3, none⟩ = some (.int .i64 q.most) := fun V hb => by
    have hh := (cells_of_heap ((hb.block _ hs0).trans h0)).1
    exact ⟨hh 0 _ rfl, hh 1 _ rfl, hh 2 _ rfl, hh 3 _ rfl⟩
  have HBOX := Lib.hid hbox; clear hbox
  have HBW := Lib.hid (show Below W.heap.size W w0 by rw [← hw0]; exact (Below.refl _ _).alloc (Nat.le_refl _) _)
  clear hw0 h0
  refine (pawake_is _).mono ?_
  rintro e w1 ⟨rfl, hb1⟩
  have HR1 := Lib.hid ((HR.out.below HBW.out).below (hb1.mono HBW.out.size |> fun h => hb1))
  have HB1 := Lib.hid hb1; clear hb1
  cases hf : fewB l
  · have HF := Lib.hid (few_is l hl _ w1 HR1.out)
    rw [hf] at HF
    go_wp2_with fail
    refine HF.out.mono ?_
    rintro e w' ⟨rfl, rfl⟩
    go_wp2_with fail
    go_ret
    exact ⟨rfl, HBW.out.trans (HB1.out.mono HBW.out.size)⟩
  have HF := Lib.hid (few_is l hl _ w1 HR1.out)
  rw [hf] at HF
  have h200 : l.length ≤ 200 := by
    unfold fewB at hf
    simp only [Bool.and_eq_true, decide_eq_true_eq] at hf
    exact hf.1
  have HK : Hid (∀ x ∈ l, x.key.size ≤ 500) := by
    unfold fewB at hf
    simp only [Bool.and_eq_true, decide_eq_true_eq, List.all_eq_true] at hf
    exact hf.2
  have HF1 := Lib.hid (fair_is l (by omega) _ w1 HR1.out)
  clear hf
  go_wp2_with fail
  refine HF.out.mono ?_
  rintro e w' ⟨rfl, rfl⟩
  go_wp2_with fail
  refine HF1.out.mono ?_
  rintro e w2 ⟨b, rfl, hfp, n, rfl⟩
  cases b
  · clear hfp
    go_wp2_with fail
    go_ret
    exact ⟨rfl, (HBW.out.trans (HB1.out.mono HBW.out.size)).drewN _⟩
  have FM := Lib.hid ((hfp rfl).m)
  clear hfp HF HF1
  obtain ⟨w2, hw2⟩ : ∃ w2, w1.drewN n = w2 := ⟨_, rfl⟩
  rw [hw2]
  have HR2 := Lib.hid (show RowE w2 (.slice p l.length c) l by rw [← hw2]; exact HR1.out.below ((Below.refl _ _).drewN n))
  have HB2 := Lib.hid (show Below w0.heap.size w0 w2 by rw [← hw2]; exact HB1.out.drewN n)
  clear hw2 HR1 HB1
  obtain ⟨S, hSp, hSs⟩ := sorted_ex l
  have HK2 : ∀ x ∈ l, x.key.size ≤ maxLen := fun x hx => by have := HK.out x hx; unfold maxLen; omega
  have pv := fun w hv => pvers_pg FM.out hSp hSs q (by omega) HK2 hq (.slice p l.length c) w hv
  have po := fun w hv => pobjs_pg FM.out hSp hSs q (by omega) HK2 hq (.slice p l.length c) w hv
  have rv := fun w hv => rvers_pg FM.out hSp hSs q (by omega) HK2 hq hqf (.slice p l.length c) w hv
  have ro := fun w hv => robjs_pg FM.out hSp hSs q (by omega) HK2 hq hqf (.slice p l.length c) w hv
  have hSL : S.length ≤ 200 := by rw [hSp.length_eq]; exact h200
  have HPV := Lib.hid pv
  have HPO := Lib.hid po
  have HRV := Lib.hid rv
  have HRO := Lib.hid ro
  have HSP := Lib.hid hSp
  have HSS := Lib.hid hSs
  clear pv po rv ro hSp hSs HK2
  obtain ⟨pre, fr, fid, most⟩ := q
  obtain ⟨x0, x1, x2, x3⟩ := HBOX.out w2 HB2.out
  go_wp2_with fail
  refine (ask_is _ _ _ _ _).mono ?_
  rintro e w3 ⟨rfl, hb3⟩
  have HR3 := Lib.hid (HR2.out.below hb3)
  have HB3 := Lib.hid (HB2.out.trans (hb3.mono HB2.out.size))
  clear hb3 x0 x1 x2 x3 HR2 HB2
  go_wp2_with fail
  refine (HPO.out w3 HR3.out).mono ?_
  rintro e w4 ⟨sA, LA, mA, kA, cA, eA, rfl, hrA, _, hb4, hXA⟩
  obtain ⟨pA, dA, rfl, -⟩ := len_of_row hrA
  have hXAl := hXA.len
  have HRA := Lib.hid hrA
  have HR4 := Lib.hid (HR3.out.below hb4)
  have HB4 := Lib.hid (HB3.out.trans (hb4.mono HB3.out.size))
  have HXA := Lib.hid hXA
  clear hb4 hrA hXA HR3 HB3
  go_upto_region 6 with (fail)
  obtain ⟨w5, hw5⟩ : ∃ w5, w4.alloc (.cells #[.slice pA LA.length dA, .bool mA, .string kA, .int .i64 cA] 37) = w5 := ⟨_, rfl⟩
  rw [hw5]
  have hxA : w5.heap[w4.heap.size]? = some (.cells #[.slice pA LA.length dA, .bool mA, .string kA, .int .i64 cA] 37 (0, 0)) := by rw [← hw5]; exact heap_alloc_new w4 _
  have hb5 : Below w4.heap.size w4 w5 := by rw [← hw5]; exact (Below.refl _ _).alloc (Nat.le_refl _) _
  have hs5 : w4.heap.size < w5.heap.size := by rw [← hw5]; simp
  have HB5 := Lib.hid (HB4.out.trans (hb5.mono HB4.out.size))
  have HR5 := Lib.hid (HR4.out.below hb5)
  have HRA5 := Lib.hid (HRA.out.below hb5)
  have HXA5 := Lib.hid hxA
  clear hw5 hxA hb5 HB4 HR4 HRA
  obtain ⟨x0, x1, x2, x3⟩ := HBOX.out w5 HB5.out
  have ro := Calls.mono (R' := fun e w' => ∃ sB, e = .returned (.tuple #[.agg #[sB, .bool mA, .string kA, .int .i64 cA], .int .i64 eA]) ∧ RowE w' sB LA ∧ Below w5.heap.size w5 w') (HRO.out w5 HR5.out) (by
    rintro e w' ⟨sB, LB, mB, kB, cB, eB, rfl, h1, _, h2, h3⟩
    obtain ⟨e1, e2, e3, e4, e5⟩ := HXA.out.one h3
    rw [← e1] at h1
    exact ⟨sB, by rw [← e2, ← e3, ← e4, ← e5], h1, h2⟩)
  have HRO2 := Lib.hid ro; clear ro
  go_wp2_with fail
  refine HRO2.out.mono ?_
  rintro e w6 ⟨sB, rfl, hrB, hb6⟩
  obtain ⟨pB, dB, rfl, -⟩ := len_of_row hrB
  have HRB := Lib.hid hrB
  have HR6 := Lib.hid (HR5.out.below hb6)
  have HB6 := Lib.hid (HB5.out.trans (hb6.mono HB5.out.size))
  have HRA6 := Lib.hid (HRA5.out.below hb6)
  have HXA6 := Lib.hid ((hb6.block _ hs5).trans HXA5.out)
  have hs6 : w4.heap.size < w6.heap.size := Nat.lt_of_lt_of_le hs5 hb6.size
  clear hb6 hrB HR5 HB5 HRA5 HXA5 HRO2 HRO x0 x1 x2 x3 hs5
  go_upto_region 7 with (fail)
  obtain ⟨w7, hw7⟩ : ∃ w7, w6.alloc (.cells #[.slice pB LA.length dB, .bool mA, .string kA, .int .i64 cA] 43) = w7 := ⟨_, rfl⟩
  rw [hw7]
  have hxB : w7.heap[w6.heap.size]? = some (.cells #[.slice pB LA.length dB, .bool mA, .string kA, .int .i64 cA] 43 (0, 0)) := by rw [← hw7]; exact heap_alloc_new w6 _
  have hb7 : Below w6.heap.size w6 w7 := by rw [← hw7]; exact (Below.refl _ _).alloc (Nat.le_refl _) _
  have hs7 : w6.heap.size < w7.heap.size := by rw [← hw7]; simp
  have HB7 := Lib.hid (HB6.out.trans (hb7.mono HB6.out.size))
  have HR7 := Lib.hid (HR6.out.below hb7)
  have HRA7 := Lib.hid (HRA6.out.below hb7)
  have HRB7 := Lib.hid (HRB.out.below hb7)
  have HXA7 := Lib.hid ((hb7.block _ hs6).trans HXA6.out)
  have HXB7 := Lib.hid hxB
  have hs74 : w4.heap.size < w7.heap.size := by omega
  clear hw7 hxB hb7 HB6 HR6 HRB HRA6 HXA6 hs6
  obtain ⟨x0, x1, x2, x3⟩ := HBOX.out w7 HB7.out
  go_wp2_with fail
  refine (ask_is _ _ _ _ _).mono ?_
  rintro e w8 ⟨rfl, hb8⟩
  have HR8 := Lib.hid (HR7.out.below hb8)
  have HB8 := Lib.hid (HB7.out.trans (hb8.mono HB7.out.size))
  have HRA8 := Lib.hid (HRA7.out.below hb8)
  have HRB8 := Lib.hid (HRB7.out.below hb8)
  have HXA8 := Lib.hid ((hb8.block _ hs74).trans HXA7.out)
  have HXB8 := Lib.hid ((hb8.block _ hs7).trans HXB7.out)
  have hs84 : w4.heap.size < w8.heap.size := Nat.lt_of_lt_of_le hs74 hb8.size
  have hs86 : w6.heap.size < w8.heap.size := Nat.lt_of_lt_of_le hs7 hb8.size
  clear hb8 x0 x1 x2 x3 HR7 HB7 HRA7 HRB7 HXA7 HXB7 hs74 hs7
  go_wp2_with fail
  refine (HPV.out w8 HR8.out).mono ?_
  rintro e w9 ⟨sC, LC, mC, kC, cC, eC, rfl, hrC, _, hb9, hXC⟩
  obtain ⟨pC, dC, rfl, -⟩ := len_of_row hrC
  have hXCl := hXC.len
  have HRC := Lib.hid hrC
  have HR9 := Lib.hid (HR8.out.below hb9)
  have HB9 := Lib.hid (HB8.out.trans (hb9.mono HB8.out.size))
  have HXC := Lib.hid hXC
  have HRA9 := Lib.hid (HRA8.out.below hb9)
  have HRB9 := Lib.hid (HRB8.out.below hb9)
  have HXA9 := Lib.hid ((hb9.block _ hs84).trans HXA8.out)
  have HXB9 := Lib.hid ((hb9.block _ hs86).trans HXB8.out)
  have hs94 : w4.heap.size < w9.heap.size := Nat.lt_of_lt_of_le hs84 hb9.size
  have hs96 : w6.heap.size < w9.heap.size := Nat.lt_of_lt_of_le hs86 hb9.size
  clear hb9 hrC hXC HR8 HB8 HRA8 HRB8 HXA8 HXB8 hs84 hs86
  go_upto_region 8 with (fail)
  obtain ⟨w10, hw10⟩ : ∃ w10, w9.alloc (.cells #[.slice pC LC.length dC, .bool mC, .string kC, .int .i64 cC] 37) = w10 := ⟨_, rfl⟩
  rw [hw10]
  have hxC : w10.heap[w9.heap.size]? = some (.cells #[.slice pC LC.length dC, .bool mC, .string kC, .int .i64 cC] 37 (0, 0)) := by rw [← hw10]; exact heap_alloc_new w9 _
  have hb10 : Below w9.heap.size w9 w10 := by rw [← hw10]; exact (Below.refl _ _).alloc (Nat.le_refl _) _
  have hs10 : w9.heap.size < w10.heap.size := by rw [← hw10]; simp
  have HB10 := Lib.hid (HB9.out.trans (hb10.mono HB9.out.size))
  have HR10 := Lib.hid (HR9.out.below hb10)
  have HRA10 := Lib.hid (HRA9.out.below hb10)
  have HRB10 := Lib.hid (HRB9.out.below hb10)
  have HRC10 := Lib.hid (HRC.out.below hb10)
  have HXA10 := Lib.hid ((hb10.block _ hs94).trans HXA9.out)
  have HXB10 := Lib.hid ((hb10.block _ hs96).trans HXB9.out)
  have HXC10 := Lib.hid hxC
  have hs104 : w4.heap.size < w10.heap.size := by omega
  have hs106 : w6.heap.size < w10.heap.size := by omega
  clear hw10 hxC hb10 HB9 HR9 HRC HRA9 HRB9 HXA9 HXB9 hs94 hs96
  obtain ⟨x0, x1, x2, x3⟩ := HBOX.out w10 HB10.out
  have rv := Calls.mono (R' := fun e w' => ∃ sD, e = .returned (.tuple #[.agg #[sD, .bool mC, .string kC, .int .i64 cC], .int .i64 eC]) ∧ RowE w' sD LC ∧ Below w10.heap.size w10 w') (HRV.out w10 HR10.out) (by
    rintro e w' ⟨sB, LB, mB, kB, cB, eB, rfl, h1, _, h2, h3⟩
    obtain ⟨e1, e2, e3, e4, e5⟩ := HXC.out.one h3
    rw [← e1] at h1
    exact ⟨sB, by rw [← e2, ← e3, ← e4, ← e5], h1, h2⟩)
  have HRV2 := Lib.hid rv; clear rv
  go_wp2_with fail
  refine HRV2.out.mono ?_
  rintro e w11 ⟨sD, rfl, hrD, hb11⟩
  obtain ⟨pD, dD, rfl, -⟩ := len_of_row hrD
  have HRD := Lib.hid hrD
  have HR11 := Lib.hid (HR10.out.below hb11)
  have HB11 := Lib.hid (HB10.out.trans (hb11.mono HB10.out.size))
  have HRA11 := Lib.hid (HRA10.out.below hb11)
  have HRB11 := Lib.hid (HRB10.out.below hb11)
  have HRC11 := Lib.hid (HRC10.out.below hb11)
  have HXA11 := Lib.hid ((hb11.block _ hs104).trans HXA10.out)
  have HXB11 := Lib.hid ((hb11.block _ hs106).trans HXB10.out)
  have HXC11 := Lib.hid ((hb11.block _ hs10).trans HXC10.out)
  have hs114 : w4.heap.size < w11.heap.size := Nat.lt_of_lt_of_le hs104 hb11.size
  have hs116 : w6.heap.size < w11.heap.size := Nat.lt_of_lt_of_le hs106 hb11.size
  have hs119 : w9.heap.size < w11.heap.size := Nat.lt_of_lt_of_le hs10 hb11.size
  clear hb11 hrD HR10 HB10 HRA10 HRB10 HRC10 HXA10 HXB10 HXC10 HRV2 HRV x0 x1 x2 x3 hs104 hs106 hs10
  go_upto_region 9 with (fail)
  obtain ⟨w12, hw12⟩ : ∃ w12, w11.alloc (.cells #[.slice pD LC.length dD, .bool mC, .string kC, .int .i64 cC] 43) = w12 := ⟨_, rfl⟩
  rw [hw12]
  have hxD : w12.heap[w11.heap.size]? = some (.cells #[.slice pD LC.length dD, .bool mC, .string kC, .int .i64 cC] 43 (0, 0)) := by rw [← hw12]; exact heap_alloc_new w11 _
  have hb12 : Below w11.heap.size w11 w12 := by rw [← hw12]; exact (Below.refl _ _).alloc (Nat.le_refl _) _
  have hs12 : w11.heap.size < w12.heap.size := by rw [← hw12]; simp
  have HB12 := Lib.hid (HB11.out.trans (hb12.mono HB11.out.size))
  have HR12 := Lib.hid (HR11.out.below hb12)
  have HRA12 := Lib.hid (HRA11.out.below hb12)
  have HRB12 := Lib.hid (HRB11.out.below hb12)
  have HRC12 := Lib.hid (HRC11.out.below hb12)
  have HRD12 := Lib.hid (HRD.out.below hb12)
  have hbx : ∀ w' : World, Below w12.heap.size w12 w' → (w'.cell? ⟨w4.heap.size, 0, none⟩ = some (.slice pA LA.length dA) ∧ w'.cell? ⟨w4.heap.size, 1, none⟩ = some (.bool mA) ∧ w'.cell? ⟨w4.heap.size, 2, none⟩ = some (.string kA) ∧ w'.cell? ⟨w4.heap.size, 3, none⟩ = some (.int .i64 cA) ∧ w'.cell? ⟨w6.heap.size, 0, none⟩ = some (.slice pB LA.length dB) ∧ w'.cell? ⟨w6.heap.size, 1, none⟩ = some (.bool mA) ∧ w'.cell? ⟨w6.heap.size, 2, none⟩ = some (.string kA) ∧ w'.cell? ⟨w6.heap.size, 3, none⟩ = some (.int .i64 cA) ∧ w'.cell? ⟨w9.heap.size, 0, none⟩ = some (.slice pC LC.length dC) ∧ w'.cell? ⟨w9.heap.size, 1, none⟩ = some (.bool mC) ∧ w'.cell? ⟨w9.heap.size, 2, none⟩ = some (.string kC) ∧ w'.cell? ⟨w9.heap.size, 3, none⟩ = some (.int .i64 cC) ∧ w'.cell? ⟨w11.heap.size, 0, none⟩ = some (.slice pD LC.length dD) ∧ w'.cell? ⟨w11.heap.size, 1, none⟩ = some (.bool mC) ∧ w'.cell? ⟨w11.heap.size, 2, none⟩ = some (.string kC) ∧ w'.cell? ⟨w11.heap.size, 3, none⟩ = some (.int .i64 cC)) := fun V hb => by
    have a1 := (cells_of_heap ((hb.block _ (by omega)).trans ((hb12.block _ hs114).trans HXA11.out))).1
    have a2 := (cells_of_heap ((hb.block _ (by omega)).trans ((hb12.block _ hs116).trans HXB11.out))).1
    have a3 := (cells_of_heap ((hb.block _ (by omega)).trans ((hb12.block _ hs119).trans HXC11.out))).1
    have a4 := (cells_of_heap ((hb.block _ (by omega)).trans hxD)).1
    exact ⟨a1 0 _ rfl, a1 1 _ rfl, a1 2 _ rfl, a1 3 _ rfl, a2 0 _ rfl, a2 1 _ rfl, a2 2 _ rfl, a2 3 _ rfl, a3 0 _ rfl, a3 1 _ rfl, a3 2 _ rfl, a3 3 _ rfl, a4 0 _ rfl, a4 1 _ rfl, a4 2 _ rfl, a4 3 _ rfl⟩
  have HBX := Lib.hid hbx; clear hbx
  have step : ∀ {b c : World}, Below w12.heap.size w12 b → Below b.heap.size b c → Below w12.heap.size w12 c := fun h h' => h.trans (h'.mono h.size)
  have haa : ∀ V : World, Below w12.heap.size w12 V → Calls Try.prog 20 #[.agg #[.slice pA LA.length dA, .bool mA, .string kA, .int .i64 cA]] V fun e w' => ∃ pp cc, e = .returned (.agg #[.slice pp LA.length cc, .bool mA, .string kA, .int .i64 cA]) ∧ RowE w' (.slice pp LA.length cc) LA ∧ Below w12.heap.size w12 w' := fun V hb => by
    refine (answer_is _ LA mA kA cA (by omega) V (HRA12.out.below hb)).mono ?_
    rintro e w' ⟨sv', rfl, h1, h2⟩
    obtain ⟨pp, cc, rfl, -⟩ := len_of_row h1
    exact ⟨pp, cc, rfl, h1, step hb h2⟩
  have hac : ∀ V : World, Below w12.heap.size w12 V → Calls Try.prog 20 #[.agg #[.slice pC LC.length dC, .bool mC, .string kC, .int .i64 cC]] V fun e w' => ∃ pp cc, e = .returned (.agg #[.slice pp LC.length cc, .bool mC, .string kC, .int .i64 cC]) ∧ RowE w' (.slice pp LC.length cc) LC ∧ Below w12.heap.size w12 w' := fun V hb => by
    refine (answer_is _ LC mC kC cC (by omega) V (HRC12.out.below hb)).mono ?_
    rintro e w' ⟨sv', rfl, h1, h2⟩
    obtain ⟨pp, cc, rfl, -⟩ := len_of_row h1
    exact ⟨pp, cc, rfl, h1, step hb h2⟩
  have hsa : ∀ (V : World) (pp : Option Addr) (cc : Nat), Below w12.heap.size w12 V → RowE V (.slice pp LA.length cc) LA → Calls Try.prog 19 #[.agg #[.slice pp LA.length cc, .bool mA, .string kA, .int .i64 cA], .agg #[.slice pB LA.length dB, .bool mA, .string kA, .int .i64 cA]] V fun e w' => e = .returned (.bool true) ∧ Below w12.heap.size w12 w' := fun V pp cc hb h1 => by
    refine (sameans_yes _ _ LA mA kA cA (by omega) V h1 (HRB12.out.below hb)).mono ?_
    rintro e w' ⟨rfl, h2⟩
    exact ⟨rfl, step hb h2⟩
  have hsc : ∀ (V : World) (pp : Option Addr) (cc : Nat), Below w12.heap.size w12 V → RowE V (.slice pp LC.length cc) LC → Calls Try.prog 19 #[.agg #[.slice pp LC.length cc, .bool mC, .string kC, .int .i64 cC], .agg #[.slice pD LC.length dD, .bool mC, .string kC, .int .i64 cC]] V fun e w' => e = .returned (.bool true) ∧ Below w12.heap.size w12 w' := fun V pp cc hb h1 => by
    refine (sameans_yes _ _ LC mC kC cC (by omega) V h1 (HRD12.out.below hb)).mono ?_
    rintro e w' ⟨rfl, h2⟩
    exact ⟨rfl, step hb h2⟩
  have hps : ∀ V : World, Below w12.heap.size w12 V → Calls Try.prog 11 #[.slice p l.length c] V fun e w' => ∃ pp cc, e = .returned (.slice pp S.length cc) ∧ RowE w' (.slice pp S.length cc) S ∧ Below w12.heap.size w12 w' ∧ Below V.heap.size V w' := fun V hb => by
    refine Calls.mono (psort_is l (by omega) _ V (HR12.out.below hb)) ?_
    rintro e w' ⟨v', l', rfl, h1, h2, h3, _, h4⟩
    obtain rfl : l' = S := sortE_unique FM.out (List.Perm.refl l) h2 h3 HSP.out HSS.out
    obtain ⟨pp, cc, rfl, -⟩ := len_of_row h1
    exact ⟨pp, cc, rfl, h1, step hb h4, h4⟩
  have hrs : ∀ V : World, Below w12.heap.size w12 V → Calls Try.prog 21 #[.slice p l.length c] V fun e w' => ∃ pp cc, e = .returned (.slice pp S.length cc) ∧ RowE w' (.slice pp S.length cc) S ∧ Below w12.heap.size w12 w' ∧ Below V.heap.size V w' := fun V hb => by
    refine Calls.mono (rsort_is l (by omega) (fun x hx => by have := HK.out x hx; unfold maxLen; omega) _ V (HR12.out.below hb)) ?_
    rintro e w' ⟨v', l', rfl, h1, h2, h3, h4⟩
    obtain rfl : l' = S := sortE_unique FM.out (List.Perm.refl l) h2 h3 HSP.out HSS.out
    have h1 := (rowE_own h1).1
    obtain ⟨pp, cc, rfl, -⟩ := len_of_row h1
    exact ⟨pp, cc, rfl, h1, step hb h4, h4⟩
  have hsm : ∀ (V : World) (pp pq : Option Addr) (cc cd : Nat), Below w12.heap.size w12 V → RowE V (.slice pp S.length cc) S → RowE V (.slice pq S.length cd) S → Calls Try.prog 12 #[.slice pp S.length cc, .slice pq S.length cd] V fun e w' => e = .returned (.bool true) ∧ Below w12.heap.size w12 w' := fun V pp pq cc cd hb h1 h2 => by
    refine (same_is S S (by omega) (by omega) _ _ V h1 h2).mono ?_
    rintro e w' ⟨rfl, n, rfl⟩
    exact ⟨by rw [decide_eq_true rfl], hb.drewN n⟩
  have HAA := Lib.hid haa
  have HAC := Lib.hid hac
  have HSA := Lib.hid hsa
  have HSC := Lib.hid hsc
  have HPS := Lib.hid hps
  have HRS := Lib.hid hrs
  have HSM := Lib.hid hsm
  clear haa hac hsa hsc hps hrs hsm step
  have hbd : Below w12.heap.size w12 w12.drew := (Below.refl _ _).drewN 1
  have q1 : (eA == eA) = true := by simp
  have q2 : (eC == eC) = true := by simp
  clear hw12 hxD hb12 HB11 HR11 HRD HRA11 HRB11 HRC11 HXA11 HXB11 HXC11 hs114 hs116 hs119 hs12
  go_region_held3 (fun w' => w'.cell? ⟨w4.heap.size, 0, none⟩ = some (.slice pA LA.length dA) ∧ w'.cell? ⟨w4.heap.size, 1, none⟩ = some (.bool mA) ∧ w'.cell? ⟨w4.heap.size, 2, none⟩ = some (.string kA) ∧ w'.cell? ⟨w4.heap.size, 3, none⟩ = some (.int .i64 cA) ∧ w'.cell? ⟨w6.heap.size, 0, none⟩ = some (.slice pB LA.length dB) ∧ w'.cell? ⟨w6.heap.size, 1, none⟩ = some (.bool mA) ∧ w'.cell? ⟨w6.heap.size, 2, none⟩ = some (.string kA) ∧ w'.cell? ⟨w6.heap.size, 3, none⟩ = some (.int .i64 cA) ∧ w'.cell? ⟨w9.heap.size, 0, none⟩ = some (.slice pC LC.length dC) ∧ w'.cell? ⟨w9.heap.size, 1, none⟩ = some (.bool mC) ∧ w'.cell? ⟨w9.heap.size, 2, none⟩ = some (.string kC) ∧ w'.cell? ⟨w9.heap.size, 3, none⟩ = some (.int .i64 cC) ∧ w'.cell? ⟨w11.heap.size, 0, none⟩ = some (.slice pD LC.length dD) ∧ w'.cell? ⟨w11.heap.size, 1, none⟩ = some (.bool mC) ∧ w'.cell? ⟨w11.heap.size, 2, none⟩ = some (.string kC) ∧ w'.cell? ⟨w11.heap.size, 3, none⟩ = some (.int .i64 cC))
    (first | exact HBX.out _ (by assumption))
    (first
      | (go_at_call_of 20 (Value.agg #[.slice pA LA.length dA, .bool mA, .string kA, .int .i64 cA]); refine (HAA.out _ (by assumption)).mono ?_; rintro e wA ⟨pA', cA', rfl, hrA', hbA'⟩)
      | (go_at_call_of 20 (Value.agg #[.slice pC LC.length dC, .bool mC, .string kC, .int .i64 cC]); refine (HAC.out _ (by assumption)).mono ?_; rintro e wC ⟨pC', cC', rfl, hrC', hbC'⟩)
      | (go_at_call_of 19 (Value.agg #[.slice pA' LA.length cA', .bool mA, .string kA, .int .i64 cA]); refine (HSA.out _ _ _ (by assumption) (by assumption)).mono ?_; rintro e wSA ⟨rfl, hbSA⟩)
      | (go_at_call_of 19 (Value.agg #[.slice pC' LC.length cC', .bool mC, .string kC, .int .i64 cC]); refine (HSC.out _ _ _ (by assumption) (by assumption)).mono ?_; rintro e wSC ⟨rfl, hbSC⟩)
      | (go_at_call 11; refine (HPS.out _ (by assumption)).mono ?_; rintro e wX ⟨pX, cX, rfl, hrX, hbX, hbXX⟩)
      | (go_at_call 21; refine (HRS.out _ (by assumption)).mono ?_; rintro e wY ⟨pY, cY, rfl, hrY, hbY, hbYY⟩)
      | (go_at_call 12; refine (HSM.out _ _ _ _ _ (by assumption) (by first | exact hrX | exact hrX.below hbYY) (by first | exact hrY | exact hrY.below hbXX)).mono ?_; rintro e wM ⟨rfl, hbM⟩))
  all_goals
    go_wp2
    go_ret
    have hb0 : Below W.heap.size W w12 := HBW.out.trans (HB12.out.mono HBW.out.size)
    exact ⟨rfl, hb0.trans (hbM.mono hb0.size)⟩

theorem walkv (v : Value) (d : DataW H) (ps : List MemPlace) {W : World} {base base' : Nat} (o : Value.okWide Try.prog W .any base 22 v) (h : DataW.Trod enc Try.prog W 0 (fun _ => true) true 22 v d ps)
    (u : Value) (d' : DataW H) (ps' : List MemPlace) (o' : Value.okWide Try.prog W .any base' 35 u) (h' : DataW.Trod enc Try.prog W 0 (fun _ => true) true 35 u d' ps') :
    Calls Try.prog 4 #[v, u] W fun e W' => e = .returned (.bool true) ∧ Below W.heap.size W W' := by
  obtain ⟨l, hr, hl, -⟩ := open_row o h
  obtain ⟨q, rfl, hq, hqf⟩ := open_ask o' h'
  exact walk l hl v W hr q hq hqf
end
theorem own : ownKnob Try.prog.godebug = none := by kernel_rfl
theorem laidOut : laidOutB Try.prog = true := by kernel_rfl
set_option maxRecDepth 100000 in
theorem lifted (os : Os) (started : os.Started) (H : Type) (enc : TypeId × Value → H) :
    ReturnsInHanded {} Try.checked os 4 .any (Rows.pageCutsSpec.pre6 enc Try.prog Try.f4 Rows.pageCutsRow.domain false) (Rows.pageCutsSpec.post enc Try.prog Try.f4 false true false false) := by
  refine returnsInHanded_of_change (C := Try.checked) own started (by kernel_rfl) Try.func4
    (ChangeSpec.witness6 (enc := enc) (C := Try.checked) false ⟨#[], #[.slice none 0 0, .agg #[.string ⟨#[]⟩, .string ⟨#[]⟩, .int .i64 0, .int .i64 0]], []⟩ 8 (by kernel_rfl) (by kernel_rfl) (by kernel_rfl) (by kernel_rfl)) ?_
  intro W base args ds gs before hval0 hW hcnd _
  have hval : ∀ (j : Nat) t v, Try.f4.params[j]? = some t → args[j]? = some v → Value.okWide Try.prog W .any base t v := hval0
  have hW' := hW
  obtain ⟨p, q, hA0, hV, rfl, hfz, hnd⟩ := hW
  have hA : DataW.TrodAll enc Try.prog W 0 (fun _ => true) true Try.f4.params.toList args.toList ds p := hA0
  rw [Try.params4] at hA hval
  obtain ⟨v0, vs0, d0, ds0, p0, q0, hargs, rfl, rfl, h0, r0⟩ := trodAll_cons hA
  obtain ⟨v1, vs1, d1, ds1, p1, q1, rfl, rfl, rfl, h1, r1⟩ := trodAll_cons r0
  obtain ⟨rfl, rfl, rfl⟩ := trodAll_nil r1
  obtain rfl : args = #[v0, v1] := by cases args; simp_all
  obtain ⟨rfl, rfl⟩ := trodVars_none hV
  have o0 := hval 0 22 v0 rfl rfl
  have o1 := hval 1 35 v1 rfl rfl
  clear hA0 hval0
  simp only [List.append_nil] at hW'
  refine (walkv v0 d0 p0 o0 h0 v1 d1 p1 o1 h1).mono fun e W' ⟨he, hg⟩ => ?_
  subst he
  exact ⟨_, rfl, law_post laidOut (of_decide_eq_true (by kernel_rfl)) Try.underlying4 rfl rfl rfl rfl rfl hW' hg⟩

theorem over : Rows.pageCutsRow.holds Try.pinned (OpenSpec.ofChange Rows.pageCutsSpec) :=
  OpenClaim.holds_of_wide 4 Try.f4 rfl rfl rfl rfl rfl rfl rfl ⟨rfl, rfl, rfl, rfl, rfl⟩ rfl rfl rfl rfl rfl (by kernel_rfl) Try.func4 (by kernel_rfl)
    (of_decide_eq_true (by kernel_rfl)) (by unfold Func.isWrapper; first | (rw [if_pos (by decide +kernel)]; kernel_rfl) | (rw [if_neg (by decide +kernel)]; exact ⟨rfl, rfl⟩))
    (fun os started H enc _ => lifted os started H enc)

/-- ████ THE STATEMENT ████ -/
theorem proved : Rows.PageCutsSaid :=
  over
#print axioms proved
end Go.Proofs.Ytgaejaadjmcckaa.pageCuts
