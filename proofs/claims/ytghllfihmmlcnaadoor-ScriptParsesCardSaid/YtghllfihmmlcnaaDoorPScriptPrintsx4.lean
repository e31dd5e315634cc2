-- PRINTED BY print.sh 35421559b90ae4d0a3588c463048766b98c2df88dd9212a6774a882060cdf62d: not written by this session
import Derived.Test.YtghllfihmmlcnaaDoorPScriptPrintsx0
import Derived.Test.YtghllfihmmlcnaaDoorPScriptPrintsx1
namespace Go.Proofs.YtghllfihmmlcnaaDoor.PScriptPrints
open Go.RowKit Go.Proofs.YtghllfihmmlcnaaDoorW.PrintWords Go.Proofs.YtghllfihmmlcnaaDoorW.PrintLast Go.Proofs.YtghllfihmmlcnaaDoorW.PrintMore
attribute [local go_sem] max2_int min2_int max_two min_two max_three min_three max_four min_four   -- for this text's walks alone
set_option linter.unusedVariables false
set_option linter.unusedSimpArgs false

attribute [local go_sem high] eqA37
-- NOT PRINTED: function 70 (strconv_ParseUint)

-- NOT PRINTED: function 60 (strconv_ParseInt)

-- NOT PRINTED: function 55 (strconv_Atoi_55)

-- NOT PRINTED: function 71 (stringslite_Clone)

-- NOT PRINTED: function 61 (strconv_syntaxError)

-- NOT PRINTED: function 62 (strconv_rangeError)

-- NOT PRINTED: function 72 (errors_New)

-- NOT PRINTED: function 63 (strconv_baseError)

-- NOT PRINTED: function 64 (strconv_bitSizeError)

-- NOT PRINTED: function 56 (strconv_toError)

-- NOT PRINTED: function 49 (strconv_Atoi_49)

-- NOT PRINTED: function 39 (script_readNumber)

-- NOT PRINTED: function 25 (script_shape)

/-! ### script_form: function 27 -/
def script_form.f (a0 : Int) : Option (ByteArray × List Int) := if a0 = 1 then (some ((⟨#[109, 97, 107, 101]⟩ : ByteArray), (([0] : List Int)))) else (if a0 = 2 then (some ((⟨#[114, 101, 109, 111, 118, 101]⟩ : ByteArray), (([0] : List Int)))) else (if a0 = 3 then (some ((⟨#[98, 117, 99, 107, 101, 116, 115]⟩ : ByteArray), ([] : List Int))) else (if a0 = 4 then (some ((⟨#[112, 117, 116]⟩ : ByteArray), (([0, 1, 2] : List Int)))) else (if a0 = 5 then (some ((⟨#[103, 101, 116]⟩ : ByteArray), (([0, 1, 3] : List Int)))) else (if a0 = 6 then (some ((⟨#[104, 101, 97, 100]⟩ : ByteArray), (([0, 1, 3] : List Int)))) else (if a0 = 7 then (some ((⟨#[100, 101, 108, 101, 116, 101]⟩ : ByteArray), (([0, 1] : List Int)))) else (if a0 = 8 then (some ((⟨#[101, 114, 97, 115, 101]⟩ : ByteArray), (([0, 1, 3] : List Int)))) else (if a0 = 9 then (some ((⟨#[111, 98, 106, 101, 99, 116, 115]⟩ : ByteArray), (([0, 5, 6, 8] : List Int)))) else (if a0 = 10 then (some ((⟨#[118, 101, 114, 115, 105, 111, 110, 115]⟩ : ByteArray), (([0, 5, 6, 7, 8] : List Int)))) else (if a0 = 11 then (some ((⟨#[104, 101, 97, 108]⟩ : ByteArray), ([] : List Int))) else (if a0 = 12 then (some ((⟨#[111, 102, 102, 108, 105, 110, 101]⟩ : ByteArray), (([3] : List Int)))) else (if a0 = 13 then (some ((⟨#[111, 110, 108, 105, 110, 101]⟩ : ByteArray), (([3] : List Int)))) else (if a0 = 14 then (some ((⟨#[119, 105, 112, 101]⟩ : ByteArray), (([3] : List Int)))) else (if a0 = 15 then (some ((⟨#[102, 108, 105, 112]⟩ : ByteArray), (([3, 4, 2] : List Int)))) else (if a0 = 16 then (some ((⟨#[102, 97, 105, 108]⟩ : ByteArray), (([3, 4] : List Int)))) else (if a0 = 17 then (some ((⟨#[102, 117, 115, 101]⟩ : ByteArray), (([3] : List Int)))) else (if a0 = 18 then (some ((⟨#[99, 114, 97, 115, 104]⟩ : ByteArray), (([4] : List Int)))) else (if a0 = 19 then (some ((⟨#[115, 116, 97, 114, 116]⟩ : ByteArray), ([] : List Int))) else (some ((⟨#[]⟩ : ByteArray), ([] : List Int)))))))))))))))))))))
set_option maxHeartbeats 8000000 in
set_option maxRecDepth 100000 in
theorem script_form.calls (a0 : Int) (r1 : ByteArray) (r2 : List Int) (w : World) (h : script_form.f a0 = some (r1, r2)) :
    Calls Tryd.prog 27 #[.int .i64 a0] w fun e w' => ∃ v1_ : Value, e = .returned (.tuple #[.string r1, v1_]) ∧ Kd.R (Kd.int .i64) 3 w' w.heap.size (fun _ => True) v1_ r2 ∧ Below w.heap.size w w' := by
  have HB := Aside0.mk (Below.refl w.heap.size w)
  have H : (if a0 = 1 then (some ((⟨#[109, 97, 107, 101]⟩ : ByteArray), (([0] : List Int)))) else (if a0 = 2 then (some ((⟨#[114, 101, 109, 111, 118, 101]⟩ : ByteArray), (([0] : List Int)))) else (if a0 = 3 then (some ((⟨#[98, 117, 99, 107, 101, 116, 115]⟩ : ByteArray), ([] : List Int))) else (if a0 = 4 then (some ((⟨#[112, 117, 116]⟩ : ByteArray), (([0, 1, 2] : List Int)))) else (if a0 = 5 then (some ((⟨#[103, 101, 116]⟩ : ByteArray), (([0, 1, 3] : List Int)))) else (if a0 = 6 then (some ((⟨#[104, 101, 97, 100]⟩ : ByteArray), (([0, 1, 3] : List Int)))) else (if a0 = 7 then (some ((⟨#[100, 101, 108, 101, 116, 101]⟩ : ByteArray), (([0, 1] : List Int)))) else (if a0 = 8 then (some ((⟨#[101, 114, 97, 115, 101]⟩ : ByteArray), (([0, 1, 3] : List Int)))) else (if a0 = 9 then (some ((⟨#[111, 98, 106, 101, 99, 116, 115]⟩ : ByteArray), (([0, 5, 6, 8] : List Int)))) else (if a0 = 10 then (some ((⟨#[118, 101, 114, 115, 105, 111, 110, 115]⟩ : ByteArray), (([0, 5, 6, 7, 8] : List Int)))) else (if a0 = 11 then (some ((⟨#[104, 101, 97, 108]⟩ : ByteArray), ([] : List Int))) else (if a0 = 12 then (some ((⟨#[111, 102, 102, 108, 105, 110, 101]⟩ : ByteArray), (([3] : List Int)))) else (if a0 = 13 then (some ((⟨#[111, 110, 108, 105, 110, 101]⟩ : ByteArray), (([3] : List Int)))) else (if a0 = 14 then (some ((⟨#[119, 105, 112, 101]⟩ : ByteArray), (([3] : List Int)))) else (if a0 = 15 then (some ((⟨#[102, 108, 105, 112]⟩ : ByteArray), (([3, 4, 2] : List Int)))) else (if a0 = 16 then (some ((⟨#[102, 97, 105, 108]⟩ : ByteArray), (([3, 4] : List Int)))) else (if a0 = 17 then (some ((⟨#[102, 117, 115, 101]⟩ : ByteArray), (([3] : List Int)))) else (if a0 = 18 then (some ((⟨#[99, 114, 97, 115, 104]⟩ : ByteArray), (([4] : List Int)))) else (if a0 = 19 then (some ((⟨#[115, 116, 97, 114, 116]⟩ : ByteArray), ([] : List Int))) else (some ((⟨#[]⟩ : ByteArray), ([] : List Int)))))))))))))))))))))) = some (r1, r2) := h
  clear h
  by_cases c2 : a0 = 1
  · rw [if_pos c2] at H
    have c2b0 : (a0 == 1) = true := beq_iff_eq.mpr c2
    have c2b1 : (a0 != 1) = false := bne_eq_false_iff_eq.mpr c2
    clear c2
    obtain ⟨y136, hy136⟩ : ∃ y_ : List Int, y_ = (([0] : List Int)) := ⟨_, rfl⟩
    replace H : (some ((⟨#[109, 97, 107, 101]⟩ : ByteArray), y136)) = some (r1, r2) := by first | (rw [hy136]; with_reducible exact H) | (have H2_ := (Option.bind_some _ _).symm.trans H; rw [hy136]; with_reducible exact H2_) | (have H2_ := (Option.bind_some _ _).symm.trans H; with_reducible exact H2_) | with_reducible exact H | (rw [hy136]; exact H) | exact H
    have Ny136 := Aside0.mk hy136
    clear hy136
    simp only [Option.some.injEq, Prod.mk.injEq] at H
    obtain ⟨rfl, rfl⟩ := H
    go_enter Tryd.func27, Tryd.ntmps27
    go_wp2_with (first | ((with_reducible refine gate_dst (N := 7) rfl ?_); refine Kd.R_lit (Kd.int .i64) _ 3 ?hg (N := 7) ?hd (xs := ([0] : List Int)) (inner := [.int .i64 0]) (ok := fun _ => True) (okp := fun _ => True) ?hr ?hp (fun _ hk => hk) trivial (Below.refl _ _) (Nat.le_refl _) (by simp) ?_; (case hd => rfl); (case hg => rfl); (case hr => first | (go_simp; done) | (go_simp; rfl)); (case hp => exact (Reps.one (show Kd.M (Kd.int .i64) _ _ _ 0 [.int .i64 0] from rfl) (Reps.none _ _))); intro v137 w3 ho4 hb hg_ hnew_; clear hg_ hnew_; (first | rw [← Ny136.out] at ho4 | (simp only [Int.reduceToNat] at ho4; rw [← Ny136.out] at ho4)); have n0_ := Aside0.mk (Kd.R_lower ho4 (below_size (by repeat (first | (with_reducible first | exact HB.out | apply below_alloc | apply pw_below_drewN | apply below_drew1) | exact HB.out)))); have n1_ := Aside0.mk (below_step (by repeat (first | (with_reducible first | exact HB.out | apply below_alloc | apply pw_below_drewN | apply below_drew1) | exact HB.out)) hb); clear HB; have HO138 := n0_; have HB := n1_; clear n0_ n1_; clear hb ho4))
    go_ret2
    exact ⟨_, by first | rfl | (simp [errW_none, errW_some] <;> rfl) | (simp [*, errW_none, errW_some] <;> rfl), by (with_reducible repeat (first | apply Kd.R_alloc | apply Kd.R_drewN | apply Kd.R_drew)); exact HO138.out, by repeat (first | (with_reducible first | exact HB.out | apply below_alloc | apply pw_below_drewN | apply below_drew1) | exact HB.out)⟩
  · rw [if_neg c2] at H
    have c2b0 : (a0 == 1) = false := beq_eq_false_iff_ne.mpr c2
    have c2b1 : (a0 != 1) = true := bne_iff_ne.mpr c2
    by_cases c5 : a0 = 2
    · rw [if_pos c5] at H
      have c5b0 : (a0 == 2) = true := beq_iff_eq.mpr c5
      have c5b1 : (a0 != 2) = false := bne_eq_false_iff_eq.mpr c5
      clear c5
      obtain ⟨y139, hy139⟩ : ∃ y_ : List Int, y_ = (([0] : List Int)) := ⟨_, rfl⟩
      replace H : (some ((⟨#[114, 101, 109, 111, 118, 101]⟩ : ByteArray), y139)) = some (r1, r2) := by first | (rw [hy139]; with_reducible exact H) | (have H2_ := (Option.bind_some _ _).symm.trans H; rw [hy139]; with_reducible exact H2_) | (have H2_ := (Option.bind_some _ _).symm.trans H; with_reducible exact H2_) | with_reducible exact H | (rw [hy139]; exact H) | exact H
      have Ny139 := Aside0.mk hy139
      clear hy139
      simp only [Option.some.injEq, Prod.mk.injEq] at H
      obtain ⟨rfl, rfl⟩ := H
      go_enter Tryd.func27, Tryd.ntmps27
      go_wp2_with (first | ((with_reducible refine gate_dst (N := 10) rfl ?_); refine Kd.R_lit (Kd.int .i64) _ 3 ?hg (N := 10) ?hd (xs := ([0] : List Int)) (inner := [.int .i64 0]) (ok := fun _ => True) (okp := fun _ => True) ?hr ?hp (fun _ hk => hk) trivial (Below.refl _ _) (Nat.le_refl _) (by simp) ?_; (case hd => rfl); (case hg => rfl); (case hr => first | (go_simp; done) | (go_simp; rfl)); (case hp => exact (Reps.one (show Kd.M (Kd.int .i64) _ _ _ 0 [.int .i64 0] from rfl) (Reps.none _ _))); intro v140 w6 ho7 hb hg_ hnew_; clear hg_ hnew_; (first | rw [← Ny139.out] at ho7 | (simp only [Int.reduceToNat] at ho7; rw [← Ny139.out] at ho7)); have n0_ := Aside0.mk (Kd.R_lower ho7 (below_size (by repeat (first | (with_reducible first | exact HB.out | apply below_alloc | apply pw_below_drewN | apply below_drew1) | exact HB.out)))); have n1_ := Aside0.mk (below_step (by repeat (first | (with_reducible first | exact HB.out | apply below_alloc | apply pw_below_drewN | apply below_drew1) | exact HB.out)) hb); clear HB; have HO141 := n0_; have HB := n1_; clear n0_ n1_; clear hb ho7))
      go_ret2
      exact ⟨_, by first | rfl | (simp [errW_none, errW_some] <;> rfl) | (simp [*, errW_none, errW_some] <;> rfl), by (with_reducible repeat (first | apply Kd.R_alloc | apply Kd.R_drewN | apply Kd.R_drew)); exact HO141.out, by repeat (first | (with_reducible first | exact HB.out | apply below_alloc | apply pw_below_drewN | apply below_drew1) | exact HB.out)⟩
    · rw [if_neg c5] at H
      have c5b0 : (a0 == 2) = false := beq_eq_false_iff_ne.mpr c5
      have c5b1 : (a0 != 2) = true := bne_iff_ne.mpr c5
      by_cases c8 : a0 = 3
      · rw [if_pos c8] at H
        have c8b0 : (a0 == 3) = true := beq_iff_eq.mpr c8
        have c8b1 : (a0 != 3) = false := bne_eq_false_iff_eq.mpr c8
        clear c8
        simp only [Option.some.injEq, Prod.mk.injEq] at H
        obtain ⟨rfl, rfl⟩ := H
        go_enter Tryd.func27, Tryd.ntmps27
        go_wp2
        go_ret2
        exact ⟨_, by first | rfl | (simp [errW_none, errW_some] <;> rfl) | (simp [*, errW_none, errW_some] <;> rfl), by first | exact Kd.R_nil _ _ _ _ _ | exact Kd.N_nil _ _ _ _ _ | exact Kd.V_nil _ _ _ _ _ | exact Kd.Q_nil _ _ _ _ _ | exact Kd.S_nil _ _ _ _ _, by repeat (first | (with_reducible first | exact HB.out | apply below_alloc | apply pw_below_drewN | apply below_drew1) | exact HB.out)⟩
      · rw [if_neg c8] at H
        have c8b0 : (a0 == 3) = false := beq_eq_false_iff_ne.mpr c8
        have c8b1 : (a0 != 3) = true := bne_iff_ne.mpr c8
        by_cases c9 : a0 = 4
        · rw [if_pos c9] at H
          have c9b0 : (a0 == 4) = true := beq_iff_eq.mpr c9
          have c9b1 : (a0 != 4) = false := bne_eq_false_iff_eq.mpr c9
          clear c9
          obtain ⟨y142, hy142⟩ : ∃ y_ : List Int, y_ = (([0, 1, 2] : List Int)) := ⟨_, rfl⟩
          replace H : (some ((⟨#[112, 117, 116]⟩ : ByteArray), y142)) = some (r1, r2) := by first | (rw [hy142]; with_reducible exact H) | (have H2_ := (Option.bind_some _ _).symm.trans H; rw [hy142]; with_reducible exact H2_) | (have H2_ := (Option.bind_some _ _).symm.trans H; with_reducible exact H2_) | with_reducible exact H | (rw [hy142]; exact H) | exact H
          have Ny142 := Aside0.mk hy142
          clear hy142
          simp only [Option.some.injEq, Prod.mk.injEq] at H
          obtain ⟨rfl, rfl⟩ := H
          go_enter Tryd.func27, Tryd.ntmps27
          go_wp2_with (first | ((with_reducible refine gate_dst (N := 15) rfl ?_); refine Kd.R_lit (Kd.int .i64) _ 3 ?hg (N := 15) ?hd (xs := ([0, 1, 2] : List Int)) (inner := [.int .i64 0, .int .i64 1, .int .i64 2]) (ok := fun _ => True) (okp := fun _ => True) ?hr ?hp (fun _ hk => hk) trivial (Below.refl _ _) (Nat.le_refl _) (by simp) ?_; (case hd => rfl); (case hg => rfl); (case hr => first | (go_simp; done) | (go_simp; rfl)); (case hp => exact (Reps.one (show Kd.M (Kd.int .i64) _ _ _ 0 [.int .i64 0] from rfl) (Reps.one (show Kd.M (Kd.int .i64) _ _ _ 1 [.int .i64 1] from rfl) (Reps.one (show Kd.M (Kd.int .i64) _ _ _ 2 [.int .i64 2] from rfl) (Reps.none _ _))))); intro v143 w10 ho11 hb hg_ hnew_; clear hg_ hnew_; (first | rw [← Ny142.out] at ho11 | (simp only [Int.reduceToNat] at ho11; rw [← Ny142.out] at ho11)); have n0_ := Aside0.mk (Kd.R_lower ho11 (below_size (by repeat (first | (with_reducible first | exact HB.out | apply below_alloc | apply pw_below_drewN | apply below_drew1) | exact HB.out)))); have n1_ := Aside0.mk (below_step (by repeat (first | (with_reducible first | exact HB.out | apply below_alloc | apply pw_below_drewN | apply below_drew1) | exact HB.out)) hb); clear HB; have HO144 := n0_; have HB := n1_; clear n0_ n1_; clear hb ho11))
          go_ret2
          exact ⟨_, by first | rfl | (simp [errW_none, errW_some] <;> rfl) | (simp [*, errW_none, errW_some] <;> rfl), by (with_reducible repeat (first | apply Kd.R_alloc | apply Kd.R_drewN | apply Kd.R_drew)); exact HO144.out, by repeat (first | (with_reducible first | exact HB.out | apply below_alloc | apply pw_below_drewN | apply below_drew1) | exact HB.out)⟩
        · rw [if_neg c9] at H
          have c9b0 : (a0 == 4) = false := beq_eq_false_iff_ne.mpr c9
          have c9b1 : (a0 != 4) = true := bne_iff_ne.mpr c9
          by_cases c12 : a0 = 5
          · rw [if_pos c12] at H
            have c12b0 : (a0 == 5) = true := beq_iff_eq.mpr c12
            have c12b1 : (a0 != 5) = false := bne_eq_false_iff_eq.mpr c12
            clear c12
            obtain ⟨y145, hy145⟩ : ∃ y_ : List Int, y_ = (([0, 1, 3] : List Int)) := ⟨_, rfl⟩
            replace H : (some ((⟨#[103, 101, 116]⟩ : ByteArray), y145)) = some (r1, r2) := by first | (rw [hy145]; with_reducible exact H) | (have H2_ := (Option.bind_some _ _).symm.trans H; rw [hy145]; with_reducible exact H2_) | (have H2_ := (Option.bind_some _ _).symm.trans H; with_reducible exact H2_) | with_reducible exact H | (rw [hy145]; exact H) | exact H
            have Ny145 := Aside0.mk hy145
            clear hy145
            simp only [Option.some.injEq, Prod.mk.injEq] at H
            obtain ⟨rfl, rfl⟩ := H
            go_enter Tryd.func27, Tryd.ntmps27
            go_wp2_with (first | ((with_reducible refine gate_dst (N := 18) rfl ?_); refine Kd.R_lit (Kd.int .i64) _ 3 ?hg (N := 18) ?hd (xs := ([0, 1, 3] : List Int)) (inner := [.int .i64 0, .int .i64 1, .int .i64 3]) (ok := fun _ => True) (okp := fun _ => True) ?hr ?hp (fun _ hk => hk) trivial (Below.refl _ _) (Nat.le_refl _) (by simp) ?_; (case hd => rfl); (case hg => rfl); (case hr => first | (go_simp; done) | (go_simp; rfl)); (case hp => exact (Reps.one (show Kd.M (Kd.int .i64) _ _ _ 0 [.int .i64 0] from rfl) (Reps.one (show Kd.M (Kd.int .i64) _ _ _ 1 [.int .i64 1] from rfl) (Reps.one (show Kd.M (Kd.int .i64) _ _ _ 3 [.int .i64 3] from rfl) (Reps.none _ _))))); intro v146 w13 ho14 hb hg_ hnew_; clear hg_ hnew_; (first | rw [← Ny145.out] at ho14 | (simp only [Int.reduceToNat] at ho14; rw [← Ny145.out] at ho14)); have n0_ := Aside0.mk (Kd.R_lower ho14 (below_size (by repeat (first | (with_reducible first | exact HB.out | apply below_alloc | apply pw_below_drewN | apply below_drew1) | exact HB.out)))); have n1_ := Aside0.mk (below_step (by repeat (first | (with_reducible first | exact HB.out | apply below_alloc | apply pw_below_drewN | apply below_drew1) | exact HB.out)) hb); clear HB; have HO147 := n0_; have HB := n1_; clear n0_ n1_; clear hb ho14))
            go_ret2
            exact ⟨_, by first | rfl | (simp [errW_none, errW_some] <;> rfl) | (simp [*, errW_none, errW_some] <;> rfl), by (with_reducible repeat (first | apply Kd.R_alloc | apply Kd.R_drewN | apply Kd.R_drew)); exact HO147.out, by repeat (first | (with_reducible first | exact HB.out | apply below_alloc | apply pw_below_drewN | apply below_drew1) | exact HB.out)⟩
          · rw [if_neg c12] at H
            have c12b0 : (a0 == 5) = false := beq_eq_false_iff_ne.mpr c12
            have c12b1 : (a0 != 5) = true := bne_iff_ne.mpr c12
            by_cases c15 : a0 = 6
            · rw [if_pos c15] at H
              have c15b0 : (a0 == 6) = true := beq_iff_eq.mpr c15
              have c15b1 : (a0 != 6) = false := bne_eq_false_iff_eq.mpr c15
              clear c15
              obtain ⟨y148, hy148⟩ : ∃ y_ : List Int, y_ = (([0, 1, 3] : List Int)) := ⟨_, rfl⟩
              replace H : (some ((⟨#[104, 101, 97, 100]⟩ : ByteArray), y148)) = some (r1, r2) := by first | (rw [hy148]; with_reducible exact H) | (have H2_ := (Option.bind_some _ _).symm.trans H; rw [hy148]; with_reducible exact H2_) | (have H2_ := (Option.bind_some _ _).symm.trans H; with_reducible exact H2_) | with_reducible exact H | (rw [hy148]; exact H) | exact H
              have Ny148 := Aside0.mk hy148
              clear hy148
              simp only [Option.some.injEq, Prod.mk.injEq] at H
              obtain ⟨rfl, rfl⟩ := H
              go_enter Tryd.func27, Tryd.ntmps27
              go_wp2_with (first | ((with_reducible refine gate_dst (N := 21) rfl ?_); refine Kd.R_lit (Kd.int .i64) _ 3 ?hg (N := 21) ?hd (xs := ([0, 1, 3] : List Int)) (inner := [.int .i64 0, .int .i64 1, .int .i64 3]) (ok := fun _ => True) (okp := fun _ => True) ?hr ?hp (fun _ hk => hk) trivial (Below.refl _ _) (Nat.le_refl _) (by simp) ?_; (case hd => rfl); (case hg => rfl); (case hr => first | (go_simp; done) | (go_simp; rfl)); (case hp => exact (Reps.one (show Kd.M (Kd.int .i64) _ _ _ 0 [.int .i64 0] from rfl) (Reps.one (show Kd.M (Kd.int .i64) _ _ _ 1 [.int .i64 1] from rfl) (Reps.one (show Kd.M (Kd.int .i64) _ _ _ 3 [.int .i64 3] from rfl) (Reps.none _ _))))); intro v149 w16 ho17 hb hg_ hnew_; clear hg_ hnew_; (first | rw [← Ny148.out] at ho17 | (simp only [Int.reduceToNat] at ho17; rw [← Ny148.out] at ho17)); have n0_ := Aside0.mk (Kd.R_lower ho17 (below_size (by repeat (first | (with_reducible first | exact HB.out | apply below_alloc | apply pw_below_drewN | apply below_drew1) | exact HB.out)))); have n1_ := Aside0.mk (below_step (by repeat (first | (with_reducible first | exact HB.out | apply below_alloc | apply pw_below_drewN | apply below_drew1) | exact HB.out)) hb); clear HB; have HO150 := n0_; have HB := n1_; clear n0_ n1_; clear hb ho17))
              go_ret2
              exact ⟨_, by first | rfl | (simp [errW_none, errW_some] <;> rfl) | (simp [*, errW_none, errW_some] <;> rfl), by (with_reducible repeat (first | apply Kd.R_alloc | apply Kd.R_drewN | apply Kd.R_drew)); exact HO150.out, by repeat (first | (with_reducible first | exact HB.out | apply below_alloc | apply pw_below_drewN | apply below_drew1) | exact HB.out)⟩
            · rw [if_neg c15] at H
              have c15b0 : (a0 == 6) = false := beq_eq_false_iff_ne.mpr c15
              have c15b1 : (a0 != 6) = true := bne_iff_ne.mpr c15
              by_cases c18 : a0 = 7
              · rw [if_pos c18] at H
                have c18b0 : (a0 == 7) = true := beq_iff_eq.mpr c18
                have c18b1 : (a0 != 7) = false := bne_eq_false_iff_eq.mpr c18
                clear c18
                obtain ⟨y151, hy151⟩ : ∃ y_ : List Int, y_ = (([0, 1] : List Int)) := ⟨_, rfl⟩
                replace H : (some ((⟨#[100, 101, 108, 101, 116, 101]⟩ : ByteArray), y151)) = some (r1, r2) := by first | (rw [hy151]; with_reducible exact H) | (have H2_ := (Option.bind_some _ _).symm.trans H; rw [hy151]; with_reducible exact H2_) | (have H2_ := (Option.bind_some _ _).symm.trans H; with_reducible exact H2_) | with_reducible exact H | (rw [hy151]; exact H) | exact H
                have Ny151 := Aside0.mk hy151
                clear hy151
                simp only [Option.some.injEq, Prod.mk.injEq] at H
                obtain ⟨rfl, rfl⟩ := H
                go_enter Tryd.func27, Tryd.ntmps27
                go_wp2_with (first | ((with_reducible refine gate_dst (N := 24) rfl ?_); refine Kd.R_lit (Kd.int .i64) _ 3 ?hg (N := 24) ?hd (xs := ([0, 1] : List Int)) (inner := [.int .i64 0, .int .i64 1]) (ok := fun _ => True) (okp := fun _ => True) ?hr ?hp (fun _ hk => hk) trivial (Below.refl _ _) (Nat.le_refl _) (by simp) ?_; (case hd => rfl); (case hg => rfl); (case hr => first | (go_simp; done) | (go_simp; rfl)); (case hp => exact (Reps.one (show Kd.M (Kd.int .i64) _ _ _ 0 [.int .i64 0] from rfl) (Reps.one (show Kd.M (Kd.int .i64) _ _ _ 1 [.int .i64 1] from rfl) (Reps.none _ _)))); intro v152 w19 ho20 hb hg_ hnew_; clear hg_ hnew_; (first | rw [← Ny151.out] at ho20 | (simp only [Int.reduceToNat] at ho20; rw [← Ny151.out] at ho20)); have n0_ := Aside0.mk (Kd.R_lower ho20 (below_size (by repeat (first | (with_reducible first | exact HB.out | apply below_alloc | apply pw_below_drewN | apply below_drew1) | exact HB.out)))); have n1_ := Aside0.mk (below_step (by repeat (first | (with_reducible first | exact HB.out | apply below_alloc | apply pw_below_drewN | apply below_drew1) | exact HB.out)) hb); clear HB; have HO153 := n0_; have HB := n1_; clear n0_ n1_; clear hb ho20))
                go_ret2
                exact ⟨_, by first | rfl | (simp [errW_none, errW_some] <;> rfl) | (simp [*, errW_none, errW_some] <;> rfl), by (with_reducible repeat (first | apply Kd.R_alloc | apply Kd.R_drewN | apply Kd.R_drew)); exact HO153.out, by repeat (first | (with_reducible first | exact HB.out | apply below_alloc | apply pw_below_drewN | apply below_drew1) | exact HB.out)⟩
              · rw [if_neg c18] at H
                have c18b0 : (a0 == 7) = false := beq_eq_false_iff_ne.mpr c18
                have c18b1 : (a0 != 7) = true := bne_iff_ne.mpr c18
                by_cases c21 : a0 = 8
                · rw [if_pos c21] at H
                  have c21b0 : (a0 == 8) = true := beq_iff_eq.mpr c21
                  have c21b1 : (a0 != 8) = false := bne_eq_false_iff_eq.mpr c21
                  clear c21
                  obtain ⟨y154, hy154⟩ : ∃ y_ : List Int, y_ = (([0, 1, 3] : List Int)) := ⟨_, rfl⟩
                  replace H : (some ((⟨#[101, 114, 97, 115, 101]⟩ : ByteArray), y154)) = some (r1, r2) := by first | (rw [hy154]; with_reducible exact H) | (have H2_ := (Option.bind_some _ _).symm.trans H; rw [hy154]; with_reducible exact H2_) | (have H2_ := (Option.bind_some _ _).symm.trans H; with_reducible exact H2_) | with_reducible exact H | (rw [hy154]; exact H) | exact H
                  have Ny154 := Aside0.mk hy154
                  clear hy154
                  simp only [Option.some.injEq, Prod.mk.injEq] at H
                  obtain ⟨rfl, rfl⟩ := H
                  go_enter Tryd.func27, Tryd.ntmps27
                  go_wp2_with (first | ((with_reducible refine gate_dst (N := 27) rfl ?_); refine Kd.R_lit (Kd.int .i64) _ 3 ?hg (N := 27) ?hd (xs := ([0, 1, 3] : List Int)) (inner := [.int .i64 0, .int .i64 1, .int .i64 3]) (ok := fun _ => True) (okp := fun _ => True) ?hr ?hp (fun _ hk => hk) trivial (Below.refl _ _) (Nat.le_refl _) (by simp) ?_; (case hd => rfl); (case hg => rfl); (case hr => first | (go_simp; done) | (go_simp; rfl)); (case hp => exact (Reps.one (show Kd.M (Kd.int .i64) _ _ _ 0 [.int .i64 0] from rfl) (Reps.one (show Kd.M (Kd.int .i64) _ _ _ 1 [.int .i64 1] from rfl) (Reps.one (show Kd.M (Kd.int .i64) _ _ _ 3 [.int .i64 3] from rfl) (Reps.none _ _))))); intro v155 w22 ho23 hb hg_ hnew_; clear hg_ hnew_; (first | rw [← Ny154.out] at ho23 | (simp only [Int.reduceToNat] at ho23; rw [← Ny154.out] at ho23)); have n0_ := Aside0.mk (Kd.R_lower ho23 (below_size (by repeat (first | (with_reducible first | exact HB.out | apply below_alloc | apply pw_below_drewN | apply below_drew1) | exact HB.out)))); have n1_ := Aside0.mk (below_step (by repeat (first | (with_reducible first | exact HB.out | apply below_alloc | apply pw_below_drewN | apply below_drew1) | exact HB.out)) hb); clear HB; have HO156 := n0_; have HB := n1_; clear n0_ n1_; clear hb ho23))
                  go_ret2
                  exact ⟨_, by first | rfl | (simp [errW_none, errW_some] <;> rfl) | (simp [*, errW_none, errW_some] <;> rfl), by (with_reducible repeat (first | apply Kd.R_alloc | apply Kd.R_drewN | apply Kd.R_drew)); exact HO156.out, by repeat (first | (with_reducible first | exact HB.out | apply below_alloc | apply pw_below_drewN | apply below_drew1) | exact HB.out)⟩
                · rw [if_neg c21] at H
                  have c21b0 : (a0 == 8) = false := beq_eq_false_iff_ne.mpr c21
                  have c21b1 : (a0 != 8) = true := bne_iff_ne.mpr c21
                  by_cases c24 : a0 = 9
                  · rw [if_pos c24] at H
                    have c24b0 : (a0 == 9) = true := beq_iff_eq.mpr c24
                    have c24b1 : (a0 != 9) = false := bne_eq_false_iff_eq.mpr c24
                    clear c24
                    obtain ⟨y157, hy157⟩ : ∃ y_ : List Int, y_ = (([0, 5, 6, 8] : List Int)) := ⟨_, rfl⟩
                    replace H : (some ((⟨#[111, 98, 106, 101, 99, 116, 115]⟩ : ByteArray), y157)) = some (r1, r2) := by first | (rw [hy157]; with_reducible exact H) | (have H2_ := (Option.bind_some _ _).symm.trans H; rw [hy157]; with_reducible exact H2_) | (have H2_ := (Option.bind_some _ _).symm.trans H; with_reducible exact H2_) | with_reducible exact H | (rw [hy157]; exact H) | exact H
                    have Ny157 := Aside0.mk hy157
                    clear hy157
                    simp only [Option.some.injEq, Prod.mk.injEq] at H
                    obtain ⟨rfl, rfl⟩ := H
                    go_enter Tryd.func27, Tryd.ntmps27
                    go_wp2_with (first | ((with_reducible refine gate_dst (N := 30) rfl ?_); refine Kd.R_lit (Kd.int .i64) _ 3 ?hg (N := 30) ?hd (xs := ([0, 5, 6, 8] : List Int)) (inner := [.int .i64 0, .int .i64 5, .int .i64 6, .int .i64 8]) (ok := fun _ => True) (okp := fun _ => True) ?hr ?hp (fun _ hk => hk) trivial (Below.refl _ _) (Nat.le_refl _) (by simp) ?_; (case hd => rfl); (case hg => rfl); (case hr => first | (go_simp; done) | (go_simp; rfl)); (case hp => exact (Reps.one (show Kd.M (Kd.int .i64) _ _ _ 0 [.int .i64 0] from rfl) (Reps.one (show Kd.M (Kd.int .i64) _ _ _ 5 [.int .i64 5] from rfl) (Reps.one (show Kd.M (Kd.int .i64) _ _ _ 6 [.int .i64 6] from rfl) (Reps.one (show Kd.M (Kd.int .i64) _ _ _ 8 [.int .i64 8] from rfl) (Reps.none _ _)))))); intro v158 w25 ho26 hb hg_ hnew_; clear hg_ hnew_; (first | rw [← Ny157.out] at ho26 | (simp only [Int.reduceToNat] at ho26; rw [← Ny157.out] at ho26)); have n0_ := Aside0.mk (Kd.R_lower ho26 (below_size (by repeat (first | (with_reducible first | exact HB.out | apply below_alloc | apply pw_below_drewN | apply below_drew1) | exact HB.out)))); have n1_ := Aside0.mk (below_step (by repeat (first | (with_reducible first | exact HB.out | apply below_alloc | apply pw_below_drewN | apply below_drew1) | exact HB.out)) hb); clear HB; have HO159 := n0_; have HB := n1_; clear n0_ n1_; clear hb ho26))
                    go_ret2
                    exact ⟨_, by first | rfl | (simp [errW_none, errW_some] <;> rfl) | (simp [*, errW_none, errW_some] <;> rfl), by (with_reducible repeat (first | apply Kd.R_alloc | apply Kd.R_drewN | apply Kd.R_drew)); exact HO159.out, by repeat (first | (with_reducible first | exact HB.out | apply below_alloc | apply pw_below_drewN | apply below_drew1) | exact HB.out)⟩
                  · rw [if_neg c24] at H
                    have c24b0 : (a0 == 9) = false := beq_eq_false_iff_ne.mpr c24
                    have c24b1 : (a0 != 9) = true := bne_iff_ne.mpr c24
                    by_cases c27 : a0 = 10
                    · rw [if_pos c27] at H
                      have c27b0 : (a0 == 10) = true := beq_iff_eq.mpr c27
                      have c27b1 : (a0 != 10) = false := bne_eq_false_iff_eq.mpr c27
                      clear c27
                      obtain ⟨y160, hy160⟩ : ∃ y_ : List Int, y_ = (([0, 5, 6, 7, 8] : List Int)) := ⟨_, rfl⟩
                      replace H : (some ((⟨#[118, 101, 114, 115, 105, 111, 110, 115]⟩ : ByteArray), y160)) = some (r1, r2) := by first | (rw [hy160]; with_reducible exact H) | (have H2_ := (Option.bind_some _ _).symm.trans H; rw [hy160]; with_reducible exact H2_) | (have H2_ := (Option.bind_some _ _).symm.trans H; with_reducible exact H2_) | with_reducible exact H | (rw [hy160]; exact H) | exact H
                      have Ny160 := Aside0.mk hy160
                      clear hy160
                      simp only [Option.some.injEq, Prod.mk.injEq] at H
                      obtain ⟨rfl, rfl⟩ := H
                      go_enter Tryd.func27, Tryd.ntmps27
                      go_wp2_with (first | ((with_reducible refine gate_dst (N := 33) rfl ?_); refine Kd.R_lit (Kd.int .i64) _ 3 ?hg (N := 33) ?hd (xs := ([0, 5, 6, 7, 8] : List Int)) (inner := [.int .i64 0, .int .i64 5, .int .i64 6, .int .i64 7, .int .i64 8]) (ok := fun _ => True) (okp := fun _ => True) ?hr ?hp (fun _ hk => hk) trivial (Below.refl _ _) (Nat.le_refl _) (by simp) ?_; (case hd => rfl); (case hg => rfl); (case hr => first | (go_simp; done) | (go_simp; rfl)); (case hp => exact (Reps.one (show Kd.M (Kd.int .i64) _ _ _ 0 [.int .i64 0] from rfl) (Reps.one (show Kd.M (Kd.int .i64) _ _ _ 5 [.int .i64 5] from rfl) (Reps.one (show Kd.M (Kd.int .i64) _ _ _ 6 [.int .i64 6] from rfl) (Reps.one (show Kd.M (Kd.int .i64) _ _ _ 7 [.int .i64 7] from rfl) (Reps.one (show Kd.M (Kd.int .i64) _ _ _ 8 [.int .i64 8] from rfl) (Reps.none _ _))))))); intro v161 w28 ho29 hb hg_ hnew_; clear hg_ hnew_; (first | rw [← Ny160.out] at ho29 | (simp only [Int.reduceToNat] at ho29; rw [← Ny160.out] at ho29)); have n0_ := Aside0.mk (Kd.R_lower ho29 (below_size (by repeat (first | (with_reducible first | exact HB.out | apply below_alloc | apply pw_below_drewN | apply below_drew1) | exact HB.out)))); have n1_ := Aside0.mk (below_step (by repeat (first | (with_reducible first | exact HB.out | apply below_alloc | apply pw_below_drewN | apply below_drew1) | exact HB.out)) hb); clear HB; have HO162 := n0_; have HB := n1_; clear n0_ n1_; clear hb ho29))
                      go_ret2
                      exact ⟨_, by first | rfl | (simp [errW_none, errW_some] <;> rfl) | (simp [*, errW_none, errW_some] <;> rfl), by (with_reducible repeat (first | apply Kd.R_alloc | apply Kd.R_drewN | apply Kd.R_drew)); exact HO162.out, by repeat (first | (with_reducible first | exact HB.out | apply below_alloc | apply pw_below_drewN | apply below_drew1) | exact HB.out)⟩
                    · rw [if_neg c27] at H
                      have c27b0 : (a0 == 10) = false := beq_eq_false_iff_ne.mpr c27
                      have c27b1 : (a0 != 10) = true := bne_iff_ne.mpr c27
                      by_cases c30 : a0 = 11
                      · rw [if_pos c30] at H
                        have c30b0 : (a0 == 11) = true := beq_iff_eq.mpr c30
                        have c30b1 : (a0 != 11) = false := bne_eq_false_iff_eq.mpr c30
                        clear c30
                        simp only [Option.some.injEq, Prod.mk.injEq] at H
                        obtain ⟨rfl, rfl⟩ := H
                        go_enter Tryd.func27, Tryd.ntmps27
                        go_wp2
                        go_ret2
                        exact ⟨_, by first | rfl | (simp [errW_none, errW_some] <;> rfl) | (simp [*, errW_none, errW_some] <;> rfl), by first | exact Kd.R_nil _ _ _ _ _ | exact Kd.N_nil _ _ _ _ _ | exact Kd.V_nil _ _ _ _ _ | exact Kd.Q_nil _ _ _ _ _ | exact Kd.S_nil _ _ _ _ _, by repeat (first | (with_reducible first | exact HB.out | apply below_alloc | apply pw_below_drewN | apply below_drew1) | exact HB.out)⟩
                      · rw [if_neg c30] at H
                        have c30b0 : (a0 == 11) = false := beq_eq_false_iff_ne.mpr c30
                        have c30b1 : (a0 != 11) = true := bne_iff_ne.mpr c30
                        by_cases c31 : a0 = 12
                        · rw [if_pos c31] at H
                          have c31b0 : (a0 == 12) = true := beq_iff_eq.mpr c31
                          have c31b1 : (a0 != 12) = false := bne_eq_false_iff_eq.mpr c31
                          clear c31
                          obtain ⟨y163, hy163⟩ : ∃ y_ : List Int, y_ = (([3] : List Int)) := ⟨_, rfl⟩
                          replace H : (some ((⟨#[111, 102, 102, 108, 105, 110, 101]⟩ : ByteArray), y163)) = some (r1, r2) := by first | (rw [hy163]; with_reducible exact H) | (have H2_ := (Option.bind_some _ _).symm.trans H; rw [hy163]; with_reducible exact H2_) | (have H2_ := (Option.bind_some _ _).symm.trans H; with_reducible exact H2_) | with_reducible exact H | (rw [hy163]; exact H) | exact H
                          have Ny163 := Aside0.mk hy163
                          clear hy163
                          simp only [Option.some.injEq, Prod.mk.injEq] at H
                          obtain ⟨rfl, rfl⟩ := H
                          go_enter Tryd.func27, Tryd.ntmps27
                          go_wp2_with (first | ((with_reducible refine gate_dst (N := 38) rfl ?_); refine Kd.R_lit (Kd.int .i64) _ 3 ?hg (N := 38) ?hd (xs := ([3] : List Int)) (inner := [.int .i64 3]) (ok := fun _ => True) (okp := fun _ => True) ?hr ?hp (fun _ hk => hk) trivial (Below.refl _ _) (Nat.le_refl _) (by simp) ?_; (case hd => rfl); (case hg => rfl); (case hr => first | (go_simp; done) | (go_simp; rfl)); (case hp => exact (Reps.one (show Kd.M (Kd.int .i64) _ _ _ 3 [.int .i64 3] from rfl) (Reps.none _ _))); intro v164 w32 ho33 hb hg_ hnew_; clear hg_ hnew_; (first | rw [← Ny163.out] at ho33 | (simp only [Int.reduceToNat] at ho33; rw [← Ny163.out] at ho33)); have n0_ := Aside0.mk (Kd.R_lower ho33 (below_size (by repeat (first | (with_reducible first | exact HB.out | apply below_alloc | apply pw_below_drewN | apply below_drew1) | exact HB.out)))); have n1_ := Aside0.mk (below_step (by repeat (first | (with_reducible first | exact HB.out | apply below_alloc | apply pw_below_drewN | apply below_drew1) | exact HB.out)) hb); clear HB; have HO165 := n0_; have HB := n1_; clear n0_ n1_; clear hb ho33))
                          go_ret2
                          exact ⟨_, by first | rfl | (simp [errW_none, errW_some] <;> rfl) | (simp [*, errW_none, errW_some] <;> rfl), by (with_reducible repeat (first | apply Kd.R_alloc | apply Kd.R_drewN | apply Kd.R_drew)); exact HO165.out, by repeat (first | (with_reducible first | exact HB.out | apply below_alloc | apply pw_below_drewN | apply below_drew1) | exact HB.out)⟩
                        · rw [if_neg c31] at H
                          have c31b0 : (a0 == 12) = false := beq_eq_false_iff_ne.mpr c31
                          have c31b1 : (a0 != 12) = true := bne_iff_ne.mpr c31
                          by_cases c34 : a0 = 13
                          · rw [if_pos c34] at H
                            have c34b0 : (a0 == 13) = true := beq_iff_eq.mpr c34
                            have c34b1 : (a0 != 13) = false := bne_eq_false_iff_eq.mpr c34
                            clear c34
                            obtain ⟨y166, hy166⟩ : ∃ y_ : List Int, y_ = (([3] : List Int)) := ⟨_, rfl⟩
                            replace H : (some ((⟨#[111, 110, 108, 105, 110, 101]⟩ : ByteArray), y166)) = some (r1, r2) := by first | (rw [hy166]; with_reducible exact H) | (have H2_ := (Option.bind_some _ _).symm.trans H; rw [hy166]; with_reducible exact H2_) | (have H2_ := (Option.bind_some _ _).symm.trans H; with_reducible exact H2_) | with_reducible exact H | (rw [hy166]; exact H) | exact H
                            have Ny166 := Aside0.mk hy166
                            clear hy166
                            simp only [Option.some.injEq, Prod.mk.injEq] at H
                            obtain ⟨rfl, rfl⟩ := H
                            go_enter Tryd.func27, Tryd.ntmps27
                            go_wp2_with (first | ((with_reducible refine gate_dst (N := 41) rfl ?_); refine Kd.R_lit (Kd.int .i64) _ 3 ?hg (N := 41) ?hd (xs := ([3] : List Int)) (inner := [.int .i64 3]) (ok := fun _ => True) (okp := fun _ => True) ?hr ?hp (fun _ hk => hk) trivial (Below.refl _ _) (Nat.le_refl _) (by simp) ?_; (case hd => rfl); (case hg => rfl); (case hr => first | (go_simp; done) | (go_simp; rfl)); (case hp => exact (Reps.one (show Kd.M (Kd.int .i64) _ _ _ 3 [.int .i64 3] from rfl) (Reps.none _ _))); intro v167 w35 ho36 hb hg_ hnew_; clear hg_ hnew_; (first | rw [← Ny166.out] at ho36 | (simp only [Int.reduceToNat] at ho36; rw [← Ny166.out] at ho36)); have n0_ := Aside0.mk (Kd.R_lower ho36 (below_size (by repeat (first | (with_reducible first | exact HB.out | apply below_alloc | apply pw_below_drewN | apply below_drew1) | exact HB.out)))); have n1_ := Aside0.mk (below_step (by repeat (first | (with_reducible first | exact HB.out | apply below_alloc | apply pw_below_drewN | apply below_drew1) | exact HB.out)) hb); clear HB; have HO168 := n0_; have HB := n1_; clear n0_ n1_; clear hb ho36))
                            go_ret2
                            exact ⟨_, by first | rfl | (simp [errW_none, errW_some] <;> rfl) | (simp [*, errW_none, errW_some] <;> rfl), by (with_reducible repeat (first | apply Kd.R_alloc | apply Kd.R_drewN | apply Kd.R_drew)); exact HO168.out, by repeat (first | (with_reducible first | exact HB.out | apply below_alloc | apply pw_below_drewN | apply below_drew1) | exact HB.out)⟩
                          · rw [if_neg c34] at H
                            have c34b0 : (a0 == 13) = false := beq_eq_false_iff_ne.mpr c34
                            have c34b1 : (a0 != 13) = true := bne_iff_ne.mpr c34
                            by_cases c37 : a0 = 14
                            · rw [if_pos c37] at H
                              have c37b0 : (a0 == 14) = true := beq_iff_eq.mpr c37
                              have c37b1 : (a0 != 14) = false := bne_eq_false_iff_eq.mpr c37
                              clear c37
                              obtain ⟨y169, hy169⟩ : ∃ y_ : List Int, y_ = (([3] : List Int)) := ⟨_, rfl⟩
                              replace H : (some ((⟨#[119, 105, 112, 101]⟩ : ByteArray), y169)) = some (r1, r2) := by first | (rw [hy169]; with_reducible exact H) | (have H2_ := (Option.bind_some _ _).symm.trans H; rw [hy169]; with_reducible exact H2_) | (have H2_ := (Option.bind_some _ _).symm.trans H; with_reducible exact H2_) | with_reducible exact H | (rw [hy169]; exact H) | exact H
                              have Ny169 := Aside0.mk hy169
                              clear hy169
                              simp only [Option.some.injEq, Prod.mk.injEq] at H
                              obtain ⟨rfl, rfl⟩ := H
                              go_enter Tryd.func27, Tryd.ntmps27
                              go_wp2_with (first | ((with_reducible refine gate_dst (N := 44) rfl ?_); refine Kd.R_lit (Kd.int .i64) _ 3 ?hg (N := 44) ?hd (xs := ([3] : List Int)) (inner := [.int .i64 3]) (ok := fun _ => True) (okp := fun _ => True) ?hr ?hp (fun _ hk => hk) trivial (Below.refl _ _) (Nat.le_refl _) (by simp) ?_; (case hd => rfl); (case hg => rfl); (case hr => first | (go_simp; done) | (go_simp; rfl)); (case hp => exact (Reps.one (show Kd.M (Kd.int .i64) _ _ _ 3 [.int .i64 3] from rfl) (Reps.none _ _))); intro v170 w38 ho39 hb hg_ hnew_; clear hg_ hnew_; (first | rw [← Ny169.out] at ho39 | (simp only [Int.reduceToNat] at ho39; rw [← Ny169.out] at ho39)); have n0_ := Aside0.mk (Kd.R_lower ho39 (below_size (by repeat (first | (with_reducible first | exact HB.out | apply below_alloc | apply pw_below_drewN | apply below_drew1) | exact HB.out)))); have n1_ := Aside0.mk (below_step (by repeat (first | (with_reducible first | exact HB.out | apply below_alloc | apply pw_below_drewN | apply below_drew1) | exact HB.out)) hb); clear HB; have HO171 := n0_; have HB := n1_; clear n0_ n1_; clear hb ho39))
                              go_ret2
                              exact ⟨_, by first | rfl | (simp [errW_none, errW_some] <;> rfl) | (simp [*, errW_none, errW_some] <;> rfl), by (with_reducible repeat (first | apply Kd.R_alloc | apply Kd.R_drewN | apply Kd.R_drew)); exact HO171.out, by repeat (first | (with_reducible first | exact HB.out | apply below_alloc | apply pw_below_drewN | apply below_drew1) | exact HB.out)⟩
                            · rw [if_neg c37] at H
                              have c37b0 : (a0 == 14) = false := beq_eq_false_iff_ne.mpr c37
                              have c37b1 : (a0 != 14) = true := bne_iff_ne.mpr c37
                              by_cases c40 : a0 = 15
                              · rw [if_pos c40] at H
                                have c40b0 : (a0 == 15) = true := beq_iff_eq.mpr c40
                                have c40b1 : (a0 != 15) = false := bne_eq_false_iff_eq.mpr c40
                                clear c40
                                obtain ⟨y172, hy172⟩ : ∃ y_ : List Int, y_ = (([3, 4, 2] : List Int)) := ⟨_, rfl⟩
                                replace H : (some ((⟨#[102, 108, 105, 112]⟩ : ByteArray), y172)) = some (r1, r2) := by first | (rw [hy172]; with_reducible exact H) | (have H2_ := (Option.bind_some _ _).symm.trans H; rw [hy172]; with_reducible exact H2_) | (have H2_ := (Option.bind_some _ _).symm.trans H; with_reducible exact H2_) | with_reducible exact H | (rw [hy172]; exact H) | exact H
                                have Ny172 := Aside0.mk hy172
                                clear hy172
                                simp only [Option.some.injEq, Prod.mk.injEq] at H
                                obtain ⟨rfl, rfl⟩ := H
                                go_enter Tryd.func27, Tryd.ntmps27
                                go_wp2_with (first | ((with_reducible refine gate_dst (N := 47) rfl ?_); refine Kd.R_lit (Kd.int .i64) _ 3 ?hg (N := 47) ?hd (xs := ([3, 4, 2] : List Int)) (inner := [.int .i64 3, .int .i64 4, .int .i64 2]) (ok := fun _ => True) (okp := fun _ => True) ?hr ?hp (fun _ hk => hk) trivial (Below.refl _ _) (Nat.le_refl _) (by simp) ?_; (case hd => rfl); (case hg => rfl); (case hr => first | (go_simp; done) | (go_simp; rfl)); (case hp => exact (Reps.one (show Kd.M (Kd.int .i64) _ _ _ 3 [.int .i64 3] from rfl) (Reps.one (show Kd.M (Kd.int .i64) _ _ _ 4 [.int .i64 4] from rfl) (Reps.one (show Kd.M (Kd.int .i64) _ _ _ 2 [.int .i64 2] from rfl) (Reps.none _ _))))); intro v173 w41 ho42 hb hg_ hnew_; clear hg_ hnew_; (first | rw [← Ny172.out] at ho42 | (simp only [Int.reduceToNat] at ho42; rw [← Ny172.out] at ho42)); have n0_ := Aside0.mk (Kd.R_lower ho42 (below_size (by repeat (first | (with_reducible first | exact HB.out | apply below_alloc | apply pw_below_drewN | apply below_drew1) | exact HB.out)))); have n1_ := Aside0.mk (below_step (by repeat (first | (with_reducible first | exact HB.out | apply below_alloc | apply pw_below_drewN | apply below_drew1) | exact HB.out)) hb); clear HB; have HO174 := n0_; have HB := n1_; clear n0_ n1_; clear hb ho42))
                                go_ret2
                                exact ⟨_, by first | rfl | (simp [errW_none, errW_some] <;> rfl) | (simp [*, errW_none, errW_some] <;> rfl), by (with_reducible repeat (first | apply Kd.R_alloc | apply Kd.R_drewN | apply Kd.R_drew)); exact HO174.out, by repeat (first | (with_reducible first | exact HB.out | apply below_alloc | apply pw_below_drewN | apply below_drew1) | exact HB.out)⟩
                              · rw [if_neg c40] at H
                                have c40b0 : (a0 == 15) = false := beq_eq_false_iff_ne.mpr c40
                                have c40b1 : (a0 != 15) = true := bne_iff_ne.mpr c40
                                by_cases c43 : a0 = 16
                                · rw [if_pos c43] at H
                                  have c43b0 : (a0 == 16) = true := beq_iff_eq.mpr c43
                                  have c43b1 : (a0 != 16) = false := bne_eq_false_iff_eq.mpr c43
                                  clear c43
                                  obtain ⟨y175, hy175⟩ : ∃ y_ : List Int, y_ = (([3, 4] : List Int)) := ⟨_, rfl⟩
                                  replace H : (some ((⟨#[102, 97, 105, 108]⟩ : ByteArray), y175)) = some (r1, r2) := by first | (rw [hy175]; with_reducible exact H) | (have H2_ := (Option.bind_some _ _).symm.trans H; rw [hy175]; with_reducible exact H2_) | (have H2_ := (Option.bind_some _ _).symm.trans H; with_reducible exact H2_) | with_reducible exact H | (rw [hy175]; exact H) | exact H
                                  have Ny175 := Aside0.mk hy175
                                  clear hy175
                                  simp only [Option.some.injEq, Prod.mk.injEq] at H
                                  obtain ⟨rfl, rfl⟩ := H
                                  go_enter Tryd.func27, Tryd.ntmps27
                                  go_wp2_with (first | ((with_reducible refine gate_dst (N := 50) rfl ?_); refine Kd.R_lit (Kd.int .i64) _ 3 ?hg (N := 50) ?hd (xs := ([3, 4] : List Int)) (inner := [.int .i64 3, .int .i64 4]) (ok := fun _ => True) (okp := fun _ => True) ?hr ?hp (fun _ hk => hk) trivial (Below.refl _ _) (Nat.le_refl _) (by simp) ?_; (case hd => rfl); (case hg => rfl); (case hr => first | (go_simp; done) | (go_simp; rfl)); (case hp => exact (Reps.one (show Kd.M (Kd.int .i64) _ _ _ 3 [.int .i64 3] from rfl) (Reps.one (show Kd.M (Kd.int .i64) _ _ _ 4 [.int .i64 4] from rfl) (Reps.none _ _)))); intro v176 w44 ho45 hb hg_ hnew_; clear hg_ hnew_; (first | rw [← Ny175.out] at ho45 | (simp only [Int.reduceToNat] at ho45; rw [← Ny175.out] at ho45)); have n0_ := Aside0.mk (Kd.R_lower ho45 (below_size (by repeat (first | (with_reducible first | exact HB.out | apply below_alloc | apply pw_below_drewN | apply below_drew1) | exact HB.out)))); have n1_ := Aside0.mk (below_step (by repeat (first | (with_reducible first | exact HB.out | apply below_alloc | apply pw_below_drewN | apply below_drew1) | exact HB.out)) hb); clear HB; have HO177 := n0_; have HB := n1_; clear n0_ n1_; clear hb ho45))
                                  go_ret2
                                  exact ⟨_, by first | rfl | (simp [errW_none, errW_some] <;> rfl) | (simp [*, errW_none, errW_some] <;> rfl), by (with_reducible repeat (first | apply Kd.R_alloc | apply Kd.R_drewN | apply Kd.R_drew)); exact HO177.out, by repeat (first | (with_reducible first | exact HB.out | apply below_alloc | apply pw_below_drewN | apply below_drew1) | exact HB.out)⟩
                                · rw [if_neg c43] at H
                                  have c43b0 : (a0 == 16) = false := beq_eq_false_iff_ne.mpr c43
                                  have c43b1 : (a0 != 16) = true := bne_iff_ne.mpr c43
                                  by_cases c46 : a0 = 17
                                  · rw [if_pos c46] at H
                                    have c46b0 : (a0 == 17) = true := beq_iff_eq.mpr c46
                                    have c46b1 : (a0 != 17) = false := bne_eq_false_iff_eq.mpr c46
                                    clear c46
                                    obtain ⟨y178, hy178⟩ : ∃ y_ : List Int, y_ = (([3] : List Int)) := ⟨_, rfl⟩
                                    replace H : (some ((⟨#[102, 117, 115, 101]⟩ : ByteArray), y178)) = some (r1, r2) := by first | (rw [hy178]; with_reducible exact H) | (have H2_ := (Option.bind_some _ _).symm.trans H; rw [hy178]; with_reducible exact H2_) | (have H2_ := (Option.bind_some _ _).symm.trans H; with_reducible exact H2_) | with_reducible exact H | (rw [hy178]; exact H) | exact H
                                    have Ny178 := Aside0.mk hy178
                                    clear hy178
                                    simp only [Option.some.injEq, Prod.mk.injEq] at H
                                    obtain ⟨rfl, rfl⟩ := H
                                    go_enter Tryd.func27, Tryd.ntmps27
                                    go_wp2_with (first | ((with_reducible refine gate_dst (N := 53) rfl ?_); refine Kd.R_lit (Kd.int .i64) _ 3 ?hg (N := 53) ?hd (xs := ([3] : List Int)) (inner := [.int .i64 3]) (ok := fun _ => True) (okp := fun _ => True) ?hr ?hp (fun _ hk => hk) trivial (Below.refl _ _) (Nat.le_refl _) (by simp) ?_; (case hd => rfl); (case hg => rfl); (case hr => first | (go_simp; done) | (go_simp; rfl)); (case hp => exact (Reps.one (show Kd.M (Kd.int .i64) _ _ _ 3 [.int .i64 3] from rfl) (Reps.none _ _))); intro v179 w47 ho48 hb hg_ hnew_; clear hg_ hnew_; (first | rw [← Ny178.out] at ho48 | (simp only [Int.reduceToNat] at ho48; rw [← Ny178.out] at ho48)); have n0_ := Aside0.mk (Kd.R_lower ho48 (below_size (by repeat (first | (with_reducible first | exact HB.out | apply below_alloc | apply pw_below_drewN | apply below_drew1) | exact HB.out)))); have n1_ := Aside0.mk (below_step (by repeat (first | (with_reducible first | exact HB.out | apply below_alloc | apply pw_below_drewN | apply below_drew1) | exact HB.out)) hb); clear HB; have HO180 := n0_; have HB := n1_; clear n0_ n1_; clear hb ho48))
                                    go_ret2
                                    exact ⟨_, by first | rfl | (simp [errW_none, errW_some] <;> rfl) | (simp [*, errW_none, errW_some] <;> rfl), by (with_reducible repeat (first | apply Kd.R_alloc | apply Kd.R_drewN | apply Kd.R_drew)); exact HO180.out, by repeat (first | (with_reducible first | exact HB.out | apply below_alloc | apply pw_below_drewN | apply below_drew1) | exact HB.out)⟩
                                  · rw [if_neg c46] at H
                                    have c46b0 : (a0 == 17) = false := beq_eq_false_iff_ne.mpr c46
                                    have c46b1 : (a0 != 17) = true := bne_iff_ne.mpr c46
                                    by_cases c49 : a0 = 18
                                    · rw [if_pos c49] at H
                                      have c49b0 : (a0 == 18) = true := beq_iff_eq.mpr c49
                                      have c49b1 : (a0 != 18) = false := bne_eq_false_iff_eq.mpr c49
                                      clear c49
                                      obtain ⟨y181, hy181⟩ : ∃ y_ : List Int, y_ = (([4] : List Int)) := ⟨_, rfl⟩
                                      replace H : (some ((⟨#[99, 114, 97, 115, 104]⟩ : ByteArray), y181)) = some (r1, r2) := by first | (rw [hy181]; with_reducible exact H) | (have H2_ := (Option.bind_some _ _).symm.trans H; rw [hy181]; with_reducible exact H2_) | (have H2_ := (Option.bind_some _ _).symm.trans H; with_reducible exact H2_) | with_reducible exact H | (rw [hy181]; exact H) | exact H
                                      have Ny181 := Aside0.mk hy181
                                      clear hy181
                                      simp only [Option.some.injEq, Prod.mk.injEq] at H
                                      obtain ⟨rfl, rfl⟩ := H
                                      go_enter Tryd.func27, Tryd.ntmps27
                                      go_wp2_with (first | ((with_reducible refine gate_dst (N := 56) rfl ?_); refine Kd.R_lit (Kd.int .i64) _ 3 ?hg (N := 56) ?hd (xs := ([4] : List Int)) (inner := [.int .i64 4]) (ok := fun _ => True) (okp := fun _ => True) ?hr ?hp (fun _ hk => hk) trivial (Below.refl _ _) (Nat.le_refl _) (by simp) ?_; (case hd => rfl); (case hg => rfl); (case hr => first | (go_simp; done) | (go_simp; rfl)); (case hp => exact (Reps.one (show Kd.M (Kd.int .i64) _ _ _ 4 [.int .i64 4] from rfl) (Reps.none _ _))); intro v182 w50 ho51 hb hg_ hnew_; clear hg_ hnew_; (first | rw [← Ny181.out] at ho51 | (simp only [Int.reduceToNat] at ho51; rw [← Ny181.out] at ho51)); have n0_ := Aside0.mk (Kd.R_lower ho51 (below_size (by repeat (first | (with_reducible first | exact HB.out | apply below_alloc | apply pw_below_drewN | apply below_drew1) | exact HB.out)))); have n1_ := Aside0.mk (below_step (by repeat (first | (with_reducible first | exact HB.out | apply below_alloc | apply pw_below_drewN | apply below_drew1) | exact HB.out)) hb); clear HB; have HO183 := n0_; have HB := n1_; clear n0_ n1_; clear hb ho51))
                                      go_ret2
                                      exact ⟨_, by first | rfl | (simp [errW_none, errW_some] <;> rfl) | (simp [*, errW_none, errW_some] <;> rfl), by (with_reducible repeat (first | apply Kd.R_alloc | apply Kd.R_drewN | apply Kd.R_drew)); exact HO183.out, by repeat (first | (with_reducible first | exact HB.out | apply below_alloc | apply pw_below_drewN | apply below_drew1) | exact HB.out)⟩
                                    · rw [if_neg c49] at H
                                      have c49b0 : (a0 == 18) = false := beq_eq_false_iff_ne.mpr c49
                                      have c49b1 : (a0 != 18) = true := bne_iff_ne.mpr c49
                                      by_cases c52 : a0 = 19
                                      · rw [if_pos c52] at H
                                        have c52b0 : (a0 == 19) = true := beq_iff_eq.mpr c52
                                        have c52b1 : (a0 != 19) = false := bne_eq_false_iff_eq.mpr c52
                                        clear c52
                                        simp only [Option.some.injEq, Prod.mk.injEq] at H
                                        obtain ⟨rfl, rfl⟩ := H
                                        go_enter Tryd.func27, Tryd.ntmps27
                                        go_wp2
                                        go_ret2
                                        exact ⟨_, by first | rfl | (simp [errW_none, errW_some] <;> rfl) | (simp [*, errW_none, errW_some] <;> rfl), by first | exact Kd.R_nil _ _ _ _ _ | exact Kd.N_nil _ _ _ _ _ | exact Kd.V_nil _ _ _ _ _ | exact Kd.Q_nil _ _ _ _ _ | exact Kd.S_nil _ _ _ _ _, by repeat (first | (with_reducible first | exact HB.out | apply below_alloc | apply pw_below_drewN | apply below_drew1) | exact HB.out)⟩
                                      · rw [if_neg c52] at H
                                        have c52b0 : (a0 == 19) = false := beq_eq_false_iff_ne.mpr c52
                                        have c52b1 : (a0 != 19) = true := bne_iff_ne.mpr c52
                                        simp only [Option.some.injEq, Prod.mk.injEq] at H
                                        obtain ⟨rfl, rfl⟩ := H
                                        go_enter Tryd.func27, Tryd.ntmps27
                                        go_wp2
                                        go_ret2
                                        exact ⟨_, by first | rfl | (simp [errW_none, errW_some] <;> rfl) | (simp [*, errW_none, errW_some] <;> rfl), by first | exact Kd.R_nil _ _ _ _ _ | exact Kd.N_nil _ _ _ _ _ | exact Kd.V_nil _ _ _ _ _ | exact Kd.Q_nil _ _ _ _ _ | exact Kd.S_nil _ _ _ _ _, by repeat (first | (with_reducible first | exact HB.out | apply below_alloc | apply pw_below_drewN | apply below_drew1) | exact HB.out)⟩

-- NOT PRINTED: function 78 (bytealg_IndexByteString)

-- NOT PRINTED: function 69 (stringslite_IndexByte)

-- NOT PRINTED: function 58 (strings_IndexByte)

-- NOT PRINTED: function 52 (name_Unpath)

-- NOT PRINTED: function 42 (script_readText)

-- NOT PRINTED: function 43 (script_count)

-- NOT PRINTED: function 29 (script_set)

-- NOT PRINTED: function 26 (script_choice)

-- NOT PRINTED: function 11 (script_Parse)

-- NOT PRINTED: function 8 (strongboxlaw24_awake)

/-! ### strongboxlaw22_Room: function 9 -/
def strongboxlaw22_Room.l0 : Nat → List (S39) → Int → Option (Bool)
  | 0, _, _ => none
  | k + 1, x0, x5 => if x5 < (x0.length : Int) then (if 0 ≤ x5 then (if (((rd_T39 x0 x5).f1).size : Int) > 300 then (some false) else (if (((rd_T39 x0 x5).f2).size : Int) > 300 then (some false) else (if (((rd_T39 x0 x5).f3).length : Int) > 3000 then (some false) else (if (((rd_T39 x0 x5).f6.f0).size : Int) > 300 then (some false) else (if (((rd_T39 x0 x5).f6.f1).size : Int) > 300 then (some false) else (strongboxlaw22_Room.l0 k x0 (wrap64 (x5 + 1)))))))) else (none)) else (some true)
def strongboxlaw22_Room.f (k : Nat) (l0 : List (S39)) (a1 : Int) : Option (Bool) := if (l0.length : Int) > a1 then (some false) else (strongboxlaw22_Room.l0 k l0 0)
theorem strongboxlaw22_Room.mono_l : ∀ k, (∀ y0 y1, LeO (strongboxlaw22_Room.l0 k y0 y1) (strongboxlaw22_Room.l0 (k + 1) y0 y1))
  | 0 => fun _ _ r h => by simp [strongboxlaw22_Room.l0] at h
  | k + 1 => by
    have ih0 := strongboxlaw22_Room.mono_l k
    · intro y0 y1
      unfold strongboxlaw22_Room.l0
      repeat' first
      | (with_reducible exact ih0 _ _)
      | (with_reducible exact LeO.refl _)
      | (with_reducible exact LeO.none _)
      | (with_reducible refine LeO.ite ?_ ?_)
      | (with_reducible refine LeO.bind ?_ (fun _ => ?_))
      | exact ih0 _ _
      | exact LeO.none _
      | refine LeO.ite ?_ ?_
      | refine LeO.bind ?_ (fun _ => ?_)
theorem strongboxlaw22_Room.mono : ∀ a0 a1 k, LeO (strongboxlaw22_Room.f k a0 a1) (strongboxlaw22_Room.f (k + 1) a0 a1) := by
  intro a0 a1 k
  have ih0 := strongboxlaw22_Room.mono_l k
  unfold strongboxlaw22_Room.f
  repeat' first
      | (with_reducible exact ih0 _ _)
      | (with_reducible exact LeO.refl _)
      | (with_reducible exact LeO.none _)
      | (with_reducible refine LeO.ite ?_ ?_)
      | (with_reducible refine LeO.bind ?_ (fun _ => ?_))
      | exact ih0 _ _
      | exact LeO.none _
      | refine LeO.ite ?_ ?_
      | refine LeO.bind ?_ (fun _ => ?_)
set_option maxHeartbeats 8000000 in
set_option maxRecDepth 100000 in
theorem strongboxlaw22_Room.calls (k : Nat) (A0 : Option Addr) (c0 : Nat) (l0 : List (S39)) (a1 : Int) (r : Bool) (w : World) (hr0 : Kd.C k39 w A0 l0.length l0) (hc0 : l0.length ≤ c0) (h : strongboxlaw22_Room.f k l0 a1 = some r) :
    Calls Tryd.prog 9 #[.slice A0 l0.length c0, .int .i64 a1] w fun e w' => e = .returned (.bool r) ∧ Below w.heap.size w w' := by
  have hu39 := Tryd.underlying39
  have HR0 := Aside0.mk hr0
  have HC0 := Aside0.mk hc0
  clear hr0 hc0
  have HB := Aside0.mk (Below.refl w.heap.size w)
  have H : (if (l0.length : Int) > a1 then (some false) else (strongboxlaw22_Room.l0 k l0 0)) = some r := h
  clear h
  by_cases c3 : (l0.length : Int) > a1
  · rw [if_pos c3] at H
    have c3b0 : decide (a1 < (l0.length : Int)) = true := decide_eq_true c3
    clear c3
    obtain rfl := Option.some.inj H
    go_enter Tryd.func9, Tryd.ntmps9
    go_wp2
    go_ret
    exact ⟨by first | rfl | (simp [errW_none, errW_some] <;> rfl) | (simp [*, errW_none, errW_some] <;> rfl), by repeat (first | (with_reducible first | exact HB.out | apply below_alloc | apply pw_below_drewN | apply below_drew1) | exact HB.out)⟩
  · rw [if_neg c3] at H
    have c3b0 : decide (a1 < (l0.length : Int)) = false := decide_eq_false c3
    clear c3
    have H' := Aside0.mk H
    clear H
    go_enter Tryd.func9, Tryd.ntmps9
    go_wp2
    go_loopg [5] k (fun kq v5 w' => ∃ (x5_1 : Int), v5 = .int .i64 x5_1 ∧ Aside0 (strongboxlaw22_Room.l0 kq l0 x5_1 = some r) ∧ Aside0 (kq ≤ k) ∧ Aside0 (Below w.heap.size w w'))
    case atStart => exact ⟨(0), (by first | rfl | (simp; done) | (simp [*]; done)), H', ⟨Nat.le_refl _⟩, ⟨by repeat (first | (with_reducible first | exact HB.out | apply below_alloc | apply pw_below_drewN | apply below_drew1) | exact HB.out)⟩⟩
    case round =>
      clear H'
      try clear p2
      try clear c3
      try clear c3b0
      obtain ⟨x5_1, rfl, HA, HK1, HB⟩ := hrel
      cases gk with
      | zero => exact absurd HA.out (by simp [strongboxlaw22_Room.l0])
      | succ k1 =>
        have H := HA.out
        clear HA
        simp only [strongboxlaw22_Room.l0] at H
        by_cases c4 : x5_1 < (l0.length : Int)
        · rw [if_pos c4] at H
          have c4b0 : decide (x5_1 < (l0.length : Int)) = true := decide_eq_true c4
          clear c4
          by_cases c5 : 0 ≤ x5_1
          · rw [if_pos c5] at H
            have c5b0 : decide (0 ≤ x5_1) = true := decide_eq_true c5
            clear c5
            by_cases c6 : (((rd_T39 l0 x5_1).f1).size : Int) > 300
            · rw [if_pos c6] at H
              have c6b0 : decide (300 < (((rd_T39 l0 x5_1).f1).size : Int)) = true := decide_eq_true c6
              have c6b1 : decide (300 < ((rd_T39 l0 x5_1).f1).size) = true := decide_eq_true (by omega)
              clear c6
              obtain rfl := Option.some.inj H
              have p186 : 0 ≤ (x5_1 : Int) := of_decide_eq_true (by first | (with_reducible assumption) | assumption)
              have q186 : x5_1 < (l0.length : Int) := of_decide_eq_true (by first | (with_reducible assumption) | assumption)
              obtain ⟨ad186, A186_3, c186_3, e186, hx186_0, hx186_1, hx186_2, hx186_3, hx186_4, hx186_5, hx186_6, hx186_7, hx186_8, hx186_9, hl186_3, hi186_3⟩ := at_T39 HR0.out x5_1 p186 q186
              cases e186
              replace hx186_0 := (HB.out.cell (World.block_lt_of_cell? w _ hx186_0)).trans hx186_0
              replace hx186_1 := (HB.out.cell (World.block_lt_of_cell? w _ hx186_1)).trans hx186_1
              replace hx186_2 := (HB.out.cell (World.block_lt_of_cell? w _ hx186_2)).trans hx186_2
              replace hx186_3 := (HB.out.cell (World.block_lt_of_cell? w _ hx186_3)).trans hx186_3
              replace hx186_4 := (HB.out.cell (World.block_lt_of_cell? w _ hx186_4)).trans hx186_4
              replace hx186_5 := (HB.out.cell (World.block_lt_of_cell? w _ hx186_5)).trans hx186_5
              replace hx186_6 := (HB.out.cell (World.block_lt_of_cell? w _ hx186_6)).trans hx186_6
              replace hx186_7 := (HB.out.cell (World.block_lt_of_cell? w _ hx186_7)).trans hx186_7
              replace hx186_8 := (HB.out.cell (World.block_lt_of_cell? w _ hx186_8)).trans hx186_8
              replace hx186_9 := (HB.out.cell (World.block_lt_of_cell? w _ hx186_9)).trans hx186_9
              have HR186_3 := Aside0.mk hi186_3
              have HC186_3 := Aside0.mk hl186_3
              clear hi186_3 hl186_3
              replace p186 := eq_true p186
              replace q186 := eq_true q186
              go_wp2_with (first | ((with_reducible refine gate_dst (N := 6) rfl ?_); (try (refine gate_guard (by rfl) ?_; dsimp only)); refine box_event ?hg (N := 6) ?hd (cs := #[.int .i64 0, .string (⟨#[]⟩ : ByteArray), .string (⟨#[]⟩ : ByteArray), .slice none 0 0, .int .i64 0, .int .i64 0, .string (⟨#[]⟩ : ByteArray), .string (⟨#[]⟩ : ByteArray), .int .i64 0, .int .i64 0]) (t := 39) ?hr ?_; (case hd => rfl); (case hg => rfl); (case hr => first | (go_simp; done) | (go_simp; rfl)); intro gb187 hg w7 hbox hb; have n0_ := Aside0.mk (below_step (by repeat (first | (with_reducible first | exact HB.out | apply below_alloc | apply pw_below_drewN | apply below_drew1) | exact HB.out)) hb); have n1_ := Aside0.mk (hbox); have n2_ := Aside0.mk ((by rw [hg]; exact (below_size (by repeat (first | (with_reducible first | exact HB.out | apply below_alloc | apply pw_below_drewN | apply below_drew1) | exact HB.out))) : w.heap.size ≤ gb187)); have n3_ := Aside0.mk ((by rw [hg]; exact (below_size (by repeat (first | (with_reducible first | exact HB.out | apply below_alloc | apply pw_below_drewN | apply below_drew1) | exact HB.out))) : w.heap.size ≤ gb187)); clear HB; have HB := n0_; have BK187 := n1_; have GW187 := n2_; have GE187 := n3_; clear n0_ n1_ n2_ n3_; clear hb hbox hg; have hcz8_0 : w7.cell? ⟨gb187, 0, none⟩ = some (.int .i64 0) := (blk_cell BK187.out 0).trans rfl; have hcz8_1 : w7.cell? ⟨gb187, 1, none⟩ = some (.string (⟨#[]⟩ : ByteArray)) := (blk_cell BK187.out 1).trans rfl; have hcz8_2 : w7.cell? ⟨gb187, 2, none⟩ = some (.string (⟨#[]⟩ : ByteArray)) := (blk_cell BK187.out 2).trans rfl; have hcz8_3 : w7.cell? ⟨gb187, 3, none⟩ = some (.slice none 0 0) := (blk_cell BK187.out 3).trans rfl; have hcz8_4 : w7.cell? ⟨gb187, 4, none⟩ = some (.int .i64 0) := (blk_cell BK187.out 4).trans rfl; have hcz8_5 : w7.cell? ⟨gb187, 5, none⟩ = some (.int .i64 0) := (blk_cell BK187.out 5).trans rfl; have hcz8_6 : w7.cell? ⟨gb187, 6, none⟩ = some (.string (⟨#[]⟩ : ByteArray)) := (blk_cell BK187.out 6).trans rfl; have hcz8_7 : w7.cell? ⟨gb187, 7, none⟩ = some (.string (⟨#[]⟩ : ByteArray)) := (blk_cell BK187.out 7).trans rfl; have hcz8_8 : w7.cell? ⟨gb187, 8, none⟩ = some (.int .i64 0) := (blk_cell BK187.out 8).trans rfl; have hcz8_9 : w7.cell? ⟨gb187, 9, none⟩ = some (.int .i64 0) := (blk_cell BK187.out 9).trans rfl; have hfz8_0 := blk_frozen BK187.out 0; have hfz8_1 := blk_frozen BK187.out 1; have hfz8_2 := blk_frozen BK187.out 2; have hfz8_3 := blk_frozen BK187.out 3; have hfz8_4 := blk_frozen BK187.out 4; have hfz8_5 := blk_frozen BK187.out 5; have hfz8_6 := blk_frozen BK187.out 6; have hfz8_7 := blk_frozen BK187.out 7; have hfz8_8 := blk_frozen BK187.out 8; have hfz8_9 := blk_frozen BK187.out 9))
              go_ret
              exact ⟨by first | rfl | (simp [errW_none, errW_some] <;> rfl) | (simp [*, errW_none, errW_some] <;> rfl), by repeat (first | (with_reducible first | exact HB.out | apply below_alloc | apply pw_below_drewN | apply below_drew1 | refine below_set ?_ GE187.out) | exact HB.out)⟩
            · rw [if_neg c6] at H
              have c6b0 : decide (300 < (((rd_T39 l0 x5_1).f1).size : Int)) = false := decide_eq_false c6
              have c6b1 : decide (300 < ((rd_T39 l0 x5_1).f1).size) = false := decide_eq_false (by omega)
              clear c6
              by_cases c9 : (((rd_T39 l0 x5_1).f2).size : Int) > 300
              · rw [if_pos c9] at H
                have c9b0 : decide (300 < (((rd_T39 l0 x5_1).f2).size : Int)) = true := decide_eq_true c9
                have c9b1 : decide (300 < ((rd_T39 l0 x5_1).f2).size) = true := decide_eq_true (by omega)
                clear c9
                obtain rfl := Option.some.inj H
                have p186 : 0 ≤ (x5_1 : Int) := of_decide_eq_true (by first | (with_reducible assumption) | assumption)
                have q186 : x5_1 < (l0.length : Int) := of_decide_eq_true (by first | (with_reducible assumption) | assumption)
                obtain ⟨ad186, A186_3, c186_3, e186, hx186_0, hx186_1, hx186_2, hx186_3, hx186_4, hx186_5, hx186_6, hx186_7, hx186_8, hx186_9, hl186_3, hi186_3⟩ := at_T39 HR0.out x5_1 p186 q186
                cases e186
                replace hx186_0 := (HB.out.cell (World.block_lt_of_cell? w _ hx186_0)).trans hx186_0
                replace hx186_1 := (HB.out.cell (World.block_lt_of_cell? w _ hx186_1)).trans hx186_1
                replace hx186_2 := (HB.out.cell (World.block_lt_of_cell? w _ hx186_2)).trans hx186_2
                replace hx186_3 := (HB.out.cell (World.block_lt_of_cell? w _ hx186_3)).trans hx186_3
                replace hx186_4 := (HB.out.cell (World.block_lt_of_cell? w _ hx186_4)).trans hx186_4
                replace hx186_5 := (HB.out.cell (World.block_lt_of_cell? w _ hx186_5)).trans hx186_5
                replace hx186_6 := (HB.out.cell (World.block_lt_of_cell? w _ hx186_6)).trans hx186_6
                replace hx186_7 := (HB.out.cell (World.block_lt_of_cell? w _ hx186_7)).trans hx186_7
                replace hx186_8 := (HB.out.cell (World.block_lt_of_cell? w _ hx186_8)).trans hx186_8
                replace hx186_9 := (HB.out.cell (World.block_lt_of_cell? w _ hx186_9)).trans hx186_9
                have HR186_3 := Aside0.mk hi186_3
                have HC186_3 := Aside0.mk hl186_3
                clear hi186_3 hl186_3
                replace p186 := eq_true p186
                replace q186 := eq_true q186
                go_wp2_with (first | ((with_reducible refine gate_dst (N := 6) rfl ?_); (try (refine gate_guard (by rfl) ?_; dsimp only)); refine box_event ?hg (N := 6) ?hd (cs := #[.int .i64 0, .string (⟨#[]⟩ : ByteArray), .string (⟨#[]⟩ : ByteArray), .slice none 0 0, .int .i64 0, .int .i64 0, .string (⟨#[]⟩ : ByteArray), .string (⟨#[]⟩ : ByteArray), .int .i64 0, .int .i64 0]) (t := 39) ?hr ?_; (case hd => rfl); (case hg => rfl); (case hr => first | (go_simp; done) | (go_simp; rfl)); intro gb187 hg w10 hbox hb; have n0_ := Aside0.mk (below_step (by repeat (first | (with_reducible first | exact HB.out | apply below_alloc | apply pw_below_drewN | apply below_drew1) | exact HB.out)) hb); have n1_ := Aside0.mk (hbox); have n2_ := Aside0.mk ((by rw [hg]; exact (below_size (by repeat (first | (with_reducible first | exact HB.out | apply below_alloc | apply pw_below_drewN | apply below_drew1) | exact HB.out))) : w.heap.size ≤ gb187)); have n3_ := Aside0.mk ((by rw [hg]; exact (below_size (by repeat (first | (with_reducible first | exact HB.out | apply below_alloc | apply pw_below_drewN | apply below_drew1) | exact HB.out))) : w.heap.size ≤ gb187)); clear HB; have HB := n0_; have BK187 := n1_; have GW187 := n2_; have GE187 := n3_; clear n0_ n1_ n2_ n3_; clear hb hbox hg; have hcz11_0 : w10.cell? ⟨gb187, 0, none⟩ = some (.int .i64 0) := (blk_cell BK187.out 0).trans rfl; have hcz11_1 : w10.cell? ⟨gb187, 1, none⟩ = some (.string (⟨#[]⟩ : ByteArray)) := (blk_cell BK187.out 1).trans rfl; have hcz11_2 : w10.cell? ⟨gb187, 2, none⟩ = some (.string (⟨#[]⟩ : ByteArray)) := (blk_cell BK187.out 2).trans rfl; have hcz11_3 : w10.cell? ⟨gb187, 3, none⟩ = some (.slice none 0 0) := (blk_cell BK187.out 3).trans rfl; have hcz11_4 : w10.cell? ⟨gb187, 4, none⟩ = some (.int .i64 0) := (blk_cell BK187.out 4).trans rfl; have hcz11_5 : w10.cell? ⟨gb187, 5, none⟩ = some (.int .i64 0) := (blk_cell BK187.out 5).trans rfl; have hcz11_6 : w10.cell? ⟨gb187, 6, none⟩ = some (.string (⟨#[]⟩ : ByteArray)) := (blk_cell BK187.out 6).trans rfl; have hcz11_7 : w10.cell? ⟨gb187, 7, none⟩ = some (.string (⟨#[]⟩ : ByteArray)) := (blk_cell BK187.out 7).trans rfl; have hcz11_8 : w10.cell? ⟨gb187, 8, none⟩ = some (.int .i64 0) := (blk_cell BK187.out 8).trans rfl; have hcz11_9 : w10.cell? ⟨gb187, 9, none⟩ = some (.int .i64 0) := (blk_cell BK187.out 9).trans rfl; have hfz11_0 := blk_frozen BK187.out 0; have hfz11_1 := blk_frozen BK187.out 1; have hfz11_2 := blk_frozen BK187.out 2; have hfz11_3 := blk_frozen BK187.out 3; have hfz11_4 := blk_frozen BK187.out 4; have hfz11_5 := blk_frozen BK187.out 5; have hfz11_6 := blk_frozen BK187.out 6; have hfz11_7 := blk_frozen BK187.out 7; have hfz11_8 := blk_frozen BK187.out 8; have hfz11_9 := blk_frozen BK187.out 9))
                go_ret
                exact ⟨by first | rfl | (simp [errW_none, errW_some] <;> rfl) | (simp [*, errW_none, errW_some] <;> rfl), by repeat (first | (with_reducible first | exact HB.out | apply below_alloc | apply pw_below_drewN | apply below_drew1 | refine below_set ?_ GE187.out) | exact HB.out)⟩
              · rw [if_neg c9] at H
                have c9b0 : decide (300 < (((rd_T39 l0 x5_1).f2).size : Int)) = false := decide_eq_false c9
                have c9b1 : decide (300 < ((rd_T39 l0 x5_1).f2).size) = false := decide_eq_false (by omega)
                clear c9
                by_cases c12 : (((rd_T39 l0 x5_1).f3).length : Int) > 3000
                · rw [if_pos c12] at H
                  have c12b0 : decide (3000 < (((rd_T39 l0 x5_1).f3).length : Int)) = true := decide_eq_true c12
                  have c12b1 : decide (3000 < ((rd_T39 l0 x5_1).f3).length) = true := decide_eq_true (by omega)
                  clear c12
                  obtain rfl := Option.some.inj H
                  have p186 : 0 ≤ (x5_1 : Int) := of_decide_eq_true (by first | (with_reducible assumption) | assumption)
                  have q186 : x5_1 < (l0.length : Int) := of_decide_eq_true (by first | (with_reducible assumption) | assumption)
                  obtain ⟨ad186, A186_3, c186_3, e186, hx186_0, hx186_1, hx186_2, hx186_3, hx186_4, hx186_5, hx186_6, hx186_7, hx186_8, hx186_9, hl186_3, hi186_3⟩ := at_T39 HR0.out x5_1 p186 q186
                  cases e186
                  replace hx186_0 := (HB.out.cell (World.block_lt_of_cell? w _ hx186_0)).trans hx186_0
                  replace hx186_1 := (HB.out.cell (World.block_lt_of_cell? w _ hx186_1)).trans hx186_1
                  replace hx186_2 := (HB.out.cell (World.block_lt_of_cell? w _ hx186_2)).trans hx186_2
                  replace hx186_3 := (HB.out.cell (World.block_lt_of_cell? w _ hx186_3)).trans hx186_3
                  replace hx186_4 := (HB.out.cell (World.block_lt_of_cell? w _ hx186_4)).trans hx186_4
                  replace hx186_5 := (HB.out.cell (World.block_lt_of_cell? w _ hx186_5)).trans hx186_5
                  replace hx186_6 := (HB.out.cell (World.block_lt_of_cell? w _ hx186_6)).trans hx186_6
                  replace hx186_7 := (HB.out.cell (World.block_lt_of_cell? w _ hx186_7)).trans hx186_7
                  replace hx186_8 := (HB.out.cell (World.block_lt_of_cell? w _ hx186_8)).trans hx186_8
                  replace hx186_9 := (HB.out.cell (World.block_lt_of_cell? w _ hx186_9)).trans hx186_9
                  have HR186_3 := Aside0.mk hi186_3
                  have HC186_3 := Aside0.mk hl186_3
                  clear hi186_3 hl186_3
                  replace p186 := eq_true p186
                  replace q186 := eq_true q186
                  go_wp2_with (first | ((with_reducible refine gate_dst (N := 6) rfl ?_); (try (refine gate_guard (by rfl) ?_; dsimp only)); refine box_event ?hg (N := 6) ?hd (cs := #[.int .i64 0, .string (⟨#[]⟩ : ByteArray), .string (⟨#[]⟩ : ByteArray), .slice none 0 0, .int .i64 0, .int .i64 0, .string (⟨#[]⟩ : ByteArray), .string (⟨#[]⟩ : ByteArray), .int .i64 0, .int .i64 0]) (t := 39) ?hr ?_; (case hd => rfl); (case hg => rfl); (case hr => first | (go_simp; done) | (go_simp; rfl)); intro gb187 hg w13 hbox hb; have n0_ := Aside0.mk (below_step (by repeat (first | (with_reducible first | exact HB.out | apply below_alloc | apply pw_below_drewN | apply below_drew1) | exact HB.out)) hb); have n1_ := Aside0.mk (hbox); have n2_ := Aside0.mk ((by rw [hg]; exact (below_size (by repeat (first | (with_reducible first | exact HB.out | apply below_alloc | apply pw_below_drewN | apply below_drew1) | exact HB.out))) : w.heap.size ≤ gb187)); have n3_ := Aside0.mk ((by rw [hg]; exact (below_size (by repeat (first | (with_reducible first | exact HB.out | apply below_alloc | apply pw_below_drewN | apply below_drew1) | exact HB.out))) : w.heap.size ≤ gb187)); clear HB; have HB := n0_; have BK187 := n1_; have GW187 := n2_; have GE187 := n3_; clear n0_ n1_ n2_ n3_; clear hb hbox hg; have hcz14_0 : w13.cell? ⟨gb187, 0, none⟩ = some (.int .i64 0) := (blk_cell BK187.out 0).trans rfl; have hcz14_1 : w13.cell? ⟨gb187, 1, none⟩ = some (.string (⟨#[]⟩ : ByteArray)) := (blk_cell BK187.out 1).trans rfl; have hcz14_2 : w13.cell? ⟨gb187, 2, none⟩ = some (.string (⟨#[]⟩ : ByteArray)) := (blk_cell BK187.out 2).trans rfl; have hcz14_3 : w13.cell? ⟨gb187, 3, none⟩ = some (.slice none 0 0) := (blk_cell BK187.out 3).trans rfl; have hcz14_4 : w13.cell? ⟨gb187, 4, none⟩ = some (.int .i64 0) := (blk_cell BK187.out 4).trans rfl; have hcz14_5 : w13.cell? ⟨gb187, 5, none⟩ = some (.int .i64 0) := (blk_cell BK187.out 5).trans rfl; have hcz14_6 : w13.cell? ⟨gb187, 6, none⟩ = some (.string (⟨#[]⟩ : ByteArray)) := (blk_cell BK187.out 6).trans rfl; have hcz14_7 : w13.cell? ⟨gb187, 7, none⟩ = some (.string (⟨#[]⟩ : ByteArray)) := (blk_cell BK187.out 7).trans rfl; have hcz14_8 : w13.cell? ⟨gb187, 8, none⟩ = some (.int .i64 0) := (blk_cell BK187.out 8).trans rfl; have hcz14_9 : w13.cell? ⟨gb187, 9, none⟩ = some (.int .i64 0) := (blk_cell BK187.out 9).trans rfl; have hfz14_0 := blk_frozen BK187.out 0; have hfz14_1 := blk_frozen BK187.out 1; have hfz14_2 := blk_frozen BK187.out 2; have hfz14_3 := blk_frozen BK187.out 3; have hfz14_4 := blk_frozen BK187.out 4; have hfz14_5 := blk_frozen BK187.out 5; have hfz14_6 := blk_frozen BK187.out 6; have hfz14_7 := blk_frozen BK187.out 7; have hfz14_8 := blk_frozen BK187.out 8; have hfz14_9 := blk_frozen BK187.out 9))
                  go_ret
                  exact ⟨by first | rfl | (simp [errW_none, errW_some] <;> rfl) | (simp [*, errW_none, errW_some] <;> rfl), by repeat (first | (with_reducible first | exact HB.out | apply below_alloc | apply pw_below_drewN | apply below_drew1 | refine below_set ?_ GE187.out) | exact HB.out)⟩
                · rw [if_neg c12] at H
                  have c12b0 : decide (3000 < (((rd_T39 l0 x5_1).f3).length : Int)) = false := decide_eq_false c12
                  have c12b1 : decide (3000 < ((rd_T39 l0 x5_1).f3).length) = false := decide_eq_false (by omega)
                  clear c12
                  by_cases c15 : (((rd_T39 l0 x5_1).f6.f0).size : Int) > 300
                  · rw [if_pos c15] at H
                    have c15b0 : decide (300 < (((rd_T39 l0 x5_1).f6.f0).size : Int)) = true := decide_eq_true c15
                    have c15b1 : decide (300 < ((rd_T39 l0 x5_1).f6.f0).size) = true := decide_eq_true (by omega)
                    clear c15
                    obtain rfl := Option.some.inj H
                    have p186 : 0 ≤ (x5_1 : Int) := of_decide_eq_true (by first | (with_reducible assumption) | assumption)
                    have q186 : x5_1 < (l0.length : Int) := of_decide_eq_true (by first | (with_reducible assumption) | assumption)
                    obtain ⟨ad186, A186_3, c186_3, e186, hx186_0, hx186_1, hx186_2, hx186_3, hx186_4, hx186_5, hx186_6, hx186_7, hx186_8, hx186_9, hl186_3, hi186_3⟩ := at_T39 HR0.out x5_1 p186 q186
                    cases e186
                    replace hx186_0 := (HB.out.cell (World.block_lt_of_cell? w _ hx186_0)).trans hx186_0
                    replace hx186_1 := (HB.out.cell (World.block_lt_of_cell? w _ hx186_1)).trans hx186_1
                    replace hx186_2 := (HB.out.cell (World.block_lt_of_cell? w _ hx186_2)).trans hx186_2
                    replace hx186_3 := (HB.out.cell (World.block_lt_of_cell? w _ hx186_3)).trans hx186_3
                    replace hx186_4 := (HB.out.cell (World.block_lt_of_cell? w _ hx186_4)).trans hx186_4
                    replace hx186_5 := (HB.out.cell (World.block_lt_of_cell? w _ hx186_5)).trans hx186_5
                    replace hx186_6 := (HB.out.cell (World.block_lt_of_cell? w _ hx186_6)).trans hx186_6
                    replace hx186_7 := (HB.out.cell (World.block_lt_of_cell? w _ hx186_7)).trans hx186_7
                    replace hx186_8 := (HB.out.cell (World.block_lt_of_cell? w _ hx186_8)).trans hx186_8
                    replace hx186_9 := (HB.out.cell (World.block_lt_of_cell? w _ hx186_9)).trans hx186_9
                    have HR186_3 := Aside0.mk hi186_3
                    have HC186_3 := Aside0.mk hl186_3
                    clear hi186_3 hl186_3
                    replace p186 := eq_true p186
                    replace q186 := eq_true q186
                    go_wp2_with (first | ((with_reducible refine gate_dst (N := 6) rfl ?_); (try (refine gate_guard (by rfl) ?_; dsimp only)); refine box_event ?hg (N := 6) ?hd (cs := #[.int .i64 0, .string (⟨#[]⟩ : ByteArray), .string (⟨#[]⟩ : ByteArray), .slice none 0 0, .int .i64 0, .int .i64 0, .string (⟨#[]⟩ : ByteArray), .string (⟨#[]⟩ : ByteArray), .int .i64 0, .int .i64 0]) (t := 39) ?hr ?_; (case hd => rfl); (case hg => rfl); (case hr => first | (go_simp; done) | (go_simp; rfl)); intro gb187 hg w16 hbox hb; have n0_ := Aside0.mk (below_step (by repeat (first | (with_reducible first | exact HB.out | apply below_alloc | apply pw_below_drewN | apply below_drew1) | exact HB.out)) hb); have n1_ := Aside0.mk (hbox); have n2_ := Aside0.mk ((by rw [hg]; exact (below_size (by repeat (first | (with_reducible first | exact HB.out | apply below_alloc | apply pw_below_drewN | apply below_drew1) | exact HB.out))) : w.heap.size ≤ gb187)); have n3_ := Aside0.mk ((by rw [hg]; exact (below_size (by repeat (first | (with_reducible first | exact HB.out | apply below_alloc | apply pw_below_drewN | apply below_drew1) | exact HB.out))) : w.heap.size ≤ gb187)); clear HB; have HB := n0_; have BK187 := n1_; have GW187 := n2_; have GE187 := n3_; clear n0_ n1_ n2_ n3_; clear hb hbox hg; have hcz17_0 : w16.cell? ⟨gb187, 0, none⟩ = some (.int .i64 0) := (blk_cell BK187.out 0).trans rfl; have hcz17_1 : w16.cell? ⟨gb187, 1, none⟩ = some (.string (⟨#[]⟩ : ByteArray)) := (blk_cell BK187.out 1).trans rfl; have hcz17_2 : w16.cell? ⟨gb187, 2, none⟩ = some (.string (⟨#[]⟩ : ByteArray)) := (blk_cell BK187.out 2).trans rfl; have hcz17_3 : w16.cell? ⟨gb187, 3, none⟩ = some (.slice none 0 0) := (blk_cell BK187.out 3).trans rfl; have hcz17_4 : w16.cell? ⟨gb187, 4, none⟩ = some (.int .i64 0) := (blk_cell BK187.out 4).trans rfl; have hcz17_5 : w16.cell? ⟨gb187, 5, none⟩ = some (.int .i64 0) := (blk_cell BK187.out 5).trans rfl; have hcz17_6 : w16.cell? ⟨gb187, 6, none⟩ = some (.string (⟨#[]⟩ : ByteArray)) := (blk_cell BK187.out 6).trans rfl; have hcz17_7 : w16.cell? ⟨gb187, 7, none⟩ = some (.string (⟨#[]⟩ : ByteArray)) := (blk_cell BK187.out 7).trans rfl; have hcz17_8 : w16.cell? ⟨gb187, 8, none⟩ = some (.int .i64 0) := (blk_cell BK187.out 8).trans rfl; have hcz17_9 : w16.cell? ⟨gb187, 9, none⟩ = some (.int .i64 0) := (blk_cell BK187.out 9).trans rfl; have hfz17_0 := blk_frozen BK187.out 0; have hfz17_1 := blk_frozen BK187.out 1; have hfz17_2 := blk_frozen BK187.out 2; have hfz17_3 := blk_frozen BK187.out 3; have hfz17_4 := blk_frozen BK187.out 4; have hfz17_5 := blk_frozen BK187.out 5; have hfz17_6 := blk_frozen BK187.out 6; have hfz17_7 := blk_frozen BK187.out 7; have hfz17_8 := blk_frozen BK187.out 8; have hfz17_9 := blk_frozen BK187.out 9))
                    go_ret
                    exact ⟨by first | rfl | (simp [errW_none, errW_some] <;> rfl) | (simp [*, errW_none, errW_some] <;> rfl), by repeat (first | (with_reducible first | exact HB.out | apply below_alloc | apply pw_below_drewN | apply below_drew1 | refine below_set ?_ GE187.out) | exact HB.out)⟩
                  · rw [if_neg c15] at H
                    have c15b0 : decide (300 < (((rd_T39 l0 x5_1).f6.f0).size : Int)) = false := decide_eq_false c15
                    have c15b1 : decide (300 < ((rd_T39 l0 x5_1).f6.f0).size) = false := decide_eq_false (by omega)
                    clear c15
                    by_cases c18 : (((rd_T39 l0 x5_1).f6.f1).size : Int) > 300
                    · rw [if_pos c18] at H
                      have c18b0 : decide (300 < (((rd_T39 l0 x5_1).f6.f1).size : Int)) = true := decide_eq_true c18
                      have c18b1 : decide (300 < ((rd_T39 l0 x5_1).f6.f1).size) = true := decide_eq_true (by omega)
                      clear c18
                      obtain rfl := Option.some.inj H
                      have p186 : 0 ≤ (x5_1 : Int) := of_decide_eq_true (by first | (with_reducible assumption) | assumption)
                      have q186 : x5_1 < (l0.length : Int) := of_decide_eq_true (by first | (with_reducible assumption) | assumption)
                      obtain ⟨ad186, A186_3, c186_3, e186, hx186_0, hx186_1, hx186_2, hx186_3, hx186_4, hx186_5, hx186_6, hx186_7, hx186_8, hx186_9, hl186_3, hi186_3⟩ := at_T39 HR0.out x5_1 p186 q186
                      cases e186
                      replace hx186_0 := (HB.out.cell (World.block_lt_of_cell? w _ hx186_0)).trans hx186_0
                      replace hx186_1 := (HB.out.cell (World.block_lt_of_cell? w _ hx186_1)).trans hx186_1
                      replace hx186_2 := (HB.out.cell (World.block_lt_of_cell? w _ hx186_2)).trans hx186_2
                      replace hx186_3 := (HB.out.cell (World.block_lt_of_cell? w _ hx186_3)).trans hx186_3
                      replace hx186_4 := (HB.out.cell (World.block_lt_of_cell? w _ hx186_4)).trans hx186_4
                      replace hx186_5 := (HB.out.cell (World.block_lt_of_cell? w _ hx186_5)).trans hx186_5
                      replace hx186_6 := (HB.out.cell (World.block_lt_of_cell? w _ hx186_6)).trans hx186_6
                      replace hx186_7 := (HB.out.cell (World.block_lt_of_cell? w _ hx186_7)).trans hx186_7
                      replace hx186_8 := (HB.out.cell (World.block_lt_of_cell? w _ hx186_8)).trans hx186_8
                      replace hx186_9 := (HB.out.cell (World.block_lt_of_cell? w _ hx186_9)).trans hx186_9
                      have HR186_3 := Aside0.mk hi186_3
                      have HC186_3 := Aside0.mk hl186_3
                      clear hi186_3 hl186_3
                      replace p186 := eq_true p186
                      replace q186 := eq_true q186
                      go_wp2_with (first | ((with_reducible refine gate_dst (N := 6) rfl ?_); (try (refine gate_guard (by rfl) ?_; dsimp only)); refine box_event ?hg (N := 6) ?hd (cs := #[.int .i64 0, .string (⟨#[]⟩ : ByteArray), .string (⟨#[]⟩ : ByteArray), .slice none 0 0, .int .i64 0, .int .i64 0, .string (⟨#[]⟩ : ByteArray), .string (⟨#[]⟩ : ByteArray), .int .i64 0, .int .i64 0]) (t := 39) ?hr ?_; (case hd => rfl); (case hg => rfl); (case hr => first | (go_simp; done) | (go_simp; rfl)); intro gb187 hg w19 hbox hb; have n0_ := Aside0.mk (below_step (by repeat (first | (with_reducible first | exact HB.out | apply below_alloc | apply pw_below_drewN | apply below_drew1) | exact HB.out)) hb); have n1_ := Aside0.mk (hbox); have n2_ := Aside0.mk ((by rw [hg]; exact (below_size (by repeat (first | (with_reducible first | exact HB.out | apply below_alloc | apply pw_below_drewN | apply below_drew1) | exact HB.out))) : w.heap.size ≤ gb187)); have n3_ := Aside0.mk ((by rw [hg]; exact (below_size (by repeat (first | (with_reducible first | exact HB.out | apply below_alloc | apply pw_below_drewN | apply below_drew1) | exact HB.out))) : w.heap.size ≤ gb187)); clear HB; have HB := n0_; have BK187 := n1_; have GW187 := n2_; have GE187 := n3_; clear n0_ n1_ n2_ n3_; clear hb hbox hg; have hcz20_0 : w19.cell? ⟨gb187, 0, none⟩ = some (.int .i64 0) := (blk_cell BK187.out 0).trans rfl; have hcz20_1 : w19.cell? ⟨gb187, 1, none⟩ = some (.string (⟨#[]⟩ : ByteArray)) := (blk_cell BK187.out 1).trans rfl; have hcz20_2 : w19.cell? ⟨gb187, 2, none⟩ = some (.string (⟨#[]⟩ : ByteArray)) := (blk_cell BK187.out 2).trans rfl; have hcz20_3 : w19.cell? ⟨gb187, 3, none⟩ = some (.slice none 0 0) := (blk_cell BK187.out 3).trans rfl; have hcz20_4 : w19.cell? ⟨gb187, 4, none⟩ = some (.int .i64 0) := (blk_cell BK187.out 4).trans rfl; have hcz20_5 : w19.cell? ⟨gb187, 5, none⟩ = some (.int .i64 0) := (blk_cell BK187.out 5).trans rfl; have hcz20_6 : w19.cell? ⟨gb187, 6, none⟩ = some (.string (⟨#[]⟩ : ByteArray)) := (blk_cell BK187.out 6).trans rfl; have hcz20_7 : w19.cell? ⟨gb187, 7, none⟩ = some (.string (⟨#[]⟩ : ByteArray)) := (blk_cell BK187.out 7).trans rfl; have hcz20_8 : w19.cell? ⟨gb187, 8, none⟩ = some (.int .i64 0) := (blk_cell BK187.out 8).trans rfl; have hcz20_9 : w19.cell? ⟨gb187, 9, none⟩ = some (.int .i64 0) := (blk_cell BK187.out 9).trans rfl; have hfz20_0 := blk_frozen BK187.out 0; have hfz20_1 := blk_frozen BK187.out 1; have hfz20_2 := blk_frozen BK187.out 2; have hfz20_3 := blk_frozen BK187.out 3; have hfz20_4 := blk_frozen BK187.out 4; have hfz20_5 := blk_frozen BK187.out 5; have hfz20_6 := blk_frozen BK187.out 6; have hfz20_7 := blk_frozen BK187.out 7; have hfz20_8 := blk_frozen BK187.out 8; have hfz20_9 := blk_frozen BK187.out 9))
                      go_ret
                      exact ⟨by first | rfl | (simp [errW_none, errW_some] <;> rfl) | (simp [*, errW_none, errW_some] <;> rfl), by repeat (first | (with_reducible first | exact HB.out | apply below_alloc | apply pw_below_drewN | apply below_drew1 | refine below_set ?_ GE187.out) | exact HB.out)⟩
                    · rw [if_neg c18] at H
                      have c18b0 : decide (300 < (((rd_T39 l0 x5_1).f6.f1).size : Int)) = false := decide_eq_false c18
                      have c18b1 : decide (300 < ((rd_T39 l0 x5_1).f6.f1).size) = false := decide_eq_false (by omega)
                      clear c18
                      have H' := Aside0.mk H
                      clear H
                      have p186 : 0 ≤ (x5_1 : Int) := of_decide_eq_true (by first | (with_reducible assumption) | assumption)
                      have q186 : x5_1 < (l0.length : Int) := of_decide_eq_true (by first | (with_reducible assumption) | assumption)
                      obtain ⟨ad186, A186_3, c186_3, e186, hx186_0, hx186_1, hx186_2, hx186_3, hx186_4, hx186_5, hx186_6, hx186_7, hx186_8, hx186_9, hl186_3, hi186_3⟩ := at_T39 HR0.out x5_1 p186 q186
                      cases e186
                      replace hx186_0 := (HB.out.cell (World.block_lt_of_cell? w _ hx186_0)).trans hx186_0
                      replace hx186_1 := (HB.out.cell (World.block_lt_of_cell? w _ hx186_1)).trans hx186_1
                      replace hx186_2 := (HB.out.cell (World.block_lt_of_cell? w _ hx186_2)).trans hx186_2
                      replace hx186_3 := (HB.out.cell (World.block_lt_of_cell? w _ hx186_3)).trans hx186_3
                      replace hx186_4 := (HB.out.cell (World.block_lt_of_cell? w _ hx186_4)).trans hx186_4
                      replace hx186_5 := (HB.out.cell (World.block_lt_of_cell? w _ hx186_5)).trans hx186_5
                      replace hx186_6 := (HB.out.cell (World.block_lt_of_cell? w _ hx186_6)).trans hx186_6
                      replace hx186_7 := (HB.out.cell (World.block_lt_of_cell? w _ hx186_7)).trans hx186_7
                      replace hx186_8 := (HB.out.cell (World.block_lt_of_cell? w _ hx186_8)).trans hx186_8
                      replace hx186_9 := (HB.out.cell (World.block_lt_of_cell? w _ hx186_9)).trans hx186_9
                      have HR186_3 := Aside0.mk hi186_3
                      have HC186_3 := Aside0.mk hl186_3
                      clear hi186_3 hl186_3
                      replace p186 := eq_true p186
                      replace q186 := eq_true q186
                      go_wp2_with (first | ((with_reducible refine gate_dst (N := 6) rfl ?_); (try (refine gate_guard (by rfl) ?_; dsimp only)); refine box_event ?hg (N := 6) ?hd (cs := #[.int .i64 0, .string (⟨#[]⟩ : ByteArray), .string (⟨#[]⟩ : ByteArray), .slice none 0 0, .int .i64 0, .int .i64 0, .string (⟨#[]⟩ : ByteArray), .string (⟨#[]⟩ : ByteArray), .int .i64 0, .int .i64 0]) (t := 39) ?hr ?_; (case hd => rfl); (case hg => rfl); (case hr => first | (go_simp; done) | (go_simp; rfl)); intro gb187 hg w21 hbox hb; have n0_ := Aside0.mk (below_step (by repeat (first | (with_reducible first | exact HB.out | apply below_alloc | apply pw_below_drewN | apply below_drew1) | exact HB.out)) hb); have n1_ := Aside0.mk (hbox); have n2_ := Aside0.mk ((by rw [hg]; exact (below_size (by repeat (first | (with_reducible first | exact HB.out | apply below_alloc | apply pw_below_drewN | apply below_drew1) | exact HB.out))) : w.heap.size ≤ gb187)); have n3_ := Aside0.mk ((by rw [hg]; exact (below_size (by repeat (first | (with_reducible first | exact HB.out | apply below_alloc | apply pw_below_drewN | apply below_drew1) | exact HB.out))) : w.heap.size ≤ gb187)); clear HB; have HB := n0_; have BK187 := n1_; have GW187 := n2_; have GE187 := n3_; clear n0_ n1_ n2_ n3_; clear hb hbox hg; have hcz22_0 : w21.cell? ⟨gb187, 0, none⟩ = some (.int .i64 0) := (blk_cell BK187.out 0).trans rfl; have hcz22_1 : w21.cell? ⟨gb187, 1, none⟩ = some (.string (⟨#[]⟩ : ByteArray)) := (blk_cell BK187.out 1).trans rfl; have hcz22_2 : w21.cell? ⟨gb187, 2, none⟩ = some (.string (⟨#[]⟩ : ByteArray)) := (blk_cell BK187.out 2).trans rfl; have hcz22_3 : w21.cell? ⟨gb187, 3, none⟩ = some (.slice none 0 0) := (blk_cell BK187.out 3).trans rfl; have hcz22_4 : w21.cell? ⟨gb187, 4, none⟩ = some (.int .i64 0) := (blk_cell BK187.out 4).trans rfl; have hcz22_5 : w21.cell? ⟨gb187, 5, none⟩ = some (.int .i64 0) := (blk_cell BK187.out 5).trans rfl; have hcz22_6 : w21.cell? ⟨gb187, 6, none⟩ = some (.string (⟨#[]⟩ : ByteArray)) := (blk_cell BK187.out 6).trans rfl; have hcz22_7 : w21.cell? ⟨gb187, 7, none⟩ = some (.string (⟨#[]⟩ : ByteArray)) := (blk_cell BK187.out 7).trans rfl; have hcz22_8 : w21.cell? ⟨gb187, 8, none⟩ = some (.int .i64 0) := (blk_cell BK187.out 8).trans rfl; have hcz22_9 : w21.cell? ⟨gb187, 9, none⟩ = some (.int .i64 0) := (blk_cell BK187.out 9).trans rfl; have hfz22_0 := blk_frozen BK187.out 0; have hfz22_1 := blk_frozen BK187.out 1; have hfz22_2 := blk_frozen BK187.out 2; have hfz22_3 := blk_frozen BK187.out 3; have hfz22_4 := blk_frozen BK187.out 4; have hfz22_5 := blk_frozen BK187.out 5; have hfz22_6 := blk_frozen BK187.out 6; have hfz22_7 := blk_frozen BK187.out 7; have hfz22_8 := blk_frozen BK187.out 8; have hfz22_9 := blk_frozen BK187.out 9))
                      go_roundg k1
                      case measure => have := HK1.out; omega
                      case rel => exact ⟨(wrap64 (x5_1 + 1)), (by first | rfl | (simp; done) | (simp [*]; done)), H', ⟨by have := HK1.out; omega⟩, ⟨by repeat (first | (with_reducible first | exact HB.out | apply below_alloc | apply pw_below_drewN | apply below_drew1 | refine below_set ?_ GE187.out) | exact HB.out)⟩⟩
          · rw [if_neg c5] at H
            exact absurd H (by simp)
        · rw [if_neg c4] at H
          have c4b0 : decide (x5_1 < (l0.length : Int)) = false := decide_eq_false c4
          clear c4
          obtain rfl := Option.some.inj H
          go_wp2
          go_ret
          exact ⟨by first | rfl | (simp [errW_none, errW_some] <;> rfl) | (simp [*, errW_none, errW_some] <;> rfl), by repeat (first | (with_reducible first | exact HB.out | apply below_alloc | apply pw_below_drewN | apply below_drew1) | exact HB.out)⟩

/-! ### strongboxref23_SameChoice: function 15 -/
def strongboxref23_SameChoice.f (a0_0 : Int) (a0_1 : ByteArray) (a0_2 : ByteArray) (l0_3 : List Int) (a0_4 : Int) (a0_5 : Int) (a0_6 : ByteArray) (a0_7 : ByteArray) (a0_8 : Int) (a0_9 : Int) (a1_0 : Int) (a1_1 : ByteArray) (a1_2 : ByteArray) (l1_3 : List Int) (a1_4 : Int) (a1_5 : Int) (a1_6 : ByteArray) (a1_7 : ByteArray) (a1_8 : Int) (a1_9 : Int) : Option (Bool) := if a0_0 = a1_0 then (if a0_1.toList = a1_1.toList then (if a0_2.toList = a1_2.toList then (if (strOfNums l0_3).toList = (strOfNums l1_3).toList then (if a0_4 = a1_4 then (if a0_5 = a1_5 then (some (a0_6.toList == a1_6.toList && (a0_7.toList == a1_7.toList && (a0_8 == a1_8 && (a0_9 == a1_9))))) else (some false)) else (some false)) else (some false)) else (some false)) else (some false)) else (some false)
set_option maxHeartbeats 8000000 in
set_option maxRecDepth 100000 in
theorem strongboxref23_SameChoice.calls (a0_0 : Int) (a0_1 : ByteArray) (a0_2 : ByteArray) (A0_3 : Option Addr) (c0_3 : Nat) (l0_3 : List Int) (a0_4 : Int) (a0_5 : Int) (a0_6 : ByteArray) (a0_7 : ByteArray) (a0_8 : Int) (a0_9 : Int) (a1_0 : Int) (a1_1 : ByteArray) (a1_2 : ByteArray) (A1_3 : Option Addr) (c1_3 : Nat) (l1_3 : List Int) (a1_4 : Int) (a1_5 : Int) (a1_6 : ByteArray) (a1_7 : ByteArray) (a1_8 : Int) (a1_9 : Int) (r : Bool) (w : World) (hr0_3 : Kd.C (Kd.int .u8) w A0_3 l0_3.length l0_3) (hc0_3 : l0_3.length ≤ c0_3) (hr1_3 : Kd.C (Kd.int .u8) w A1_3 l1_3.length l1_3) (hc1_3 : l1_3.length ≤ c1_3) (h : strongboxref23_SameChoice.f a0_0 a0_1 a0_2 l0_3 a0_4 a0_5 a0_6 a0_7 a0_8 a0_9 a1_0 a1_1 a1_2 l1_3 a1_4 a1_5 a1_6 a1_7 a1_8 a1_9 = some r) :
    Calls Tryd.prog 15 #[.agg #[.int .i64 a0_0, .string a0_1, .string a0_2, .slice A0_3 l0_3.length c0_3, .int .i64 a0_4, .int .i64 a0_5, .string a0_6, .string a0_7, .int .i64 a0_8, .int .i64 a0_9], .agg #[.int .i64 a1_0, .string a1_1, .string a1_2, .slice A1_3 l1_3.length c1_3, .int .i64 a1_4, .int .i64 a1_5, .string a1_6, .string a1_7, .int .i64 a1_8, .int .i64 a1_9]] w fun e w' => e = .returned (.bool r) ∧ Below w.heap.size w w' := by
  have hu39 := Tryd.underlying39
  have hu37 := Tryd.underlying37
  have HR0_3 := Aside0.mk hr0_3
  have HC0_3 := Aside0.mk hc0_3
  clear hr0_3 hc0_3
  have HR1_3 := Aside0.mk hr1_3
  have HC1_3 := Aside0.mk hc1_3
  clear hr1_3 hc1_3
  have HB := Aside0.mk (Below.refl w.heap.size w)
  have H : (if a0_0 = a1_0 then (if a0_1.toList = a1_1.toList then (if a0_2.toList = a1_2.toList then (if (strOfNums l0_3).toList = (strOfNums l1_3).toList then (if a0_4 = a1_4 then (if a0_5 = a1_5 then (some (a0_6.toList == a1_6.toList && (a0_7.toList == a1_7.toList && (a0_8 == a1_8 && (a0_9 == a1_9))))) else (some false)) else (some false)) else (some false)) else (some false)) else (some false)) else (some false)) = some r := h
  clear h
  by_cases c3 : a0_0 = a1_0
  · rw [if_pos c3] at H
    have c3b0 : (a0_0 == a1_0) = true := beq_iff_eq.mpr c3
    have c3b1 : (a0_0 != a1_0) = false := bne_eq_false_iff_eq.mpr c3
    clear c3
    by_cases c4 : a0_1.toList = a1_1.toList
    · rw [if_pos c4] at H
      have c4b0 : (a0_1.toList == a1_1.toList) = true := beq_iff_eq.mpr c4
      have c4b1 : (a0_1.toList != a1_1.toList) = false := bne_eq_false_iff_eq.mpr c4
      clear c4
      by_cases c5 : a0_2.toList = a1_2.toList
      · rw [if_pos c5] at H
        have c5b0 : (a0_2.toList == a1_2.toList) = true := beq_iff_eq.mpr c5
        have c5b1 : (a0_2.toList != a1_2.toList) = false := bne_eq_false_iff_eq.mpr c5
        clear c5
        by_cases c6 : (strOfNums l0_3).toList = (strOfNums l1_3).toList
        · rw [if_pos c6] at H
          have c6b0 : ((strOfNums l0_3).toList == (strOfNums l1_3).toList) = true := beq_iff_eq.mpr c6
          have c6b1 : ((strOfNums l0_3).toList != (strOfNums l1_3).toList) = false := bne_eq_false_iff_eq.mpr c6
          clear c6
          by_cases c7 : a0_4 = a1_4
          · rw [if_pos c7] at H
            have c7b0 : (a0_4 == a1_4) = true := beq_iff_eq.mpr c7
            have c7b1 : (a0_4 != a1_4) = false := bne_eq_false_iff_eq.mpr c7
            clear c7
            by_cases c8 : a0_5 = a1_5
            · rw [if_pos c8] at H
              have c8b0 : (a0_5 == a1_5) = true := beq_iff_eq.mpr c8
              have c8b1 : (a0_5 != a1_5) = false := bne_eq_false_iff_eq.mpr c8
              clear c8
              obtain rfl := Option.some.inj H
              go_enter Tryd.func15, Tryd.ntmps15
              go_wp2_with (first | ((with_reducible refine gate_dst (N := 2) rfl ?_); refine box_event ?hg (N := 2) ?hd (cs := #[.int .i64 a0_0, .string a0_1, .string a0_2, .slice A0_3 l0_3.length c0_3, .int .i64 a0_4, .int .i64 a0_5, .string a0_6, .string a0_7, .int .i64 a0_8, .int .i64 a0_9]) (t := 39) ?hr ?_; (case hd => rfl); (case hg => rfl); (case hr => first | (go_simp; done) | (go_simp; rfl)); intro gb188 hg w9 hbox hb; have n0_ := Aside0.mk (below_step (by repeat (first | (with_reducible first | exact HB.out | apply below_alloc | apply pw_below_drewN | apply below_drew1) | exact HB.out)) hb); have n1_ := Aside0.mk (hbox); have n2_ := Aside0.mk ((by rw [hg]; exact (below_size (by repeat (first | (with_reducible first | exact HB.out | apply below_alloc | apply pw_below_drewN | apply below_drew1) | exact HB.out))) : w.heap.size ≤ gb188)); have n3_ := Aside0.mk ((by rw [hg]; exact (below_size (by repeat (first | (with_reducible first | exact HB.out | apply below_alloc | apply pw_below_drewN | apply below_drew1) | exact HB.out))) : w.heap.size ≤ gb188)); clear HB; have HB := n0_; have BK188 := n1_; have GW188 := n2_; have GE188 := n3_; clear n0_ n1_ n2_ n3_; clear hb hbox hg) | ((with_reducible refine gate_dst (N := 3) rfl ?_); refine box_event ?hg (N := 3) ?hd (cs := #[.int .i64 a1_0, .string a1_1, .string a1_2, .slice A1_3 l1_3.length c1_3, .int .i64 a1_4, .int .i64 a1_5, .string a1_6, .string a1_7, .int .i64 a1_8, .int .i64 a1_9]) (t := 39) ?hr ?_; (case hd => rfl); (case hg => rfl); (case hr => first | (go_simp; done) | (go_simp; rfl)); intro gb189 hg w10 hbox hb; have n0_ := Aside0.mk (blk_below (g := gb188) (o := .cells #[.int .i64 a0_0, .string a0_1, .string a0_2, .slice A0_3 l0_3.length c0_3, .int .i64 a0_4, .int .i64 a0_5, .string a0_6, .string a0_7, .int .i64 a0_8, .int .i64 a0_9] 39 (0, 0)) (by (with_reducible repeat (first | refine blk_drewN ?_ _ | refine blk_drew ?_ | refine blk_alloc ?_ _)); exact BK188.out) hb); have n1_ := Aside0.mk (below_step (by repeat (first | (with_reducible first | exact HB.out | apply below_alloc | apply pw_below_drewN | apply below_drew1 | refine below_set ?_ GE188.out) | exact HB.out)) hb); have n2_ := Aside0.mk (hbox); have n3_ := Aside0.mk ((by rw [hg]; exact (below_size (by repeat (first | (with_reducible first | exact HB.out | apply below_alloc | apply pw_below_drewN | apply below_drew1 | refine below_set ?_ GE188.out) | exact HB.out))) : w.heap.size ≤ gb189)); have n4_ := Aside0.mk ((by rw [hg]; exact (below_size (by repeat (first | (with_reducible first | exact HB.out | apply below_alloc | apply pw_below_drewN | apply below_drew1 | refine below_set ?_ GE188.out) | exact HB.out))) : w.heap.size ≤ gb189)); have n5_ := Aside0.mk ((by rw [hg]; exact Nat.ne_of_lt (blk_lt (g := gb188) (o := .cells #[.int .i64 a0_0, .string a0_1, .string a0_2, .slice A0_3 l0_3.length c0_3, .int .i64 a0_4, .int .i64 a0_5, .string a0_6, .string a0_7, .int .i64 a0_8, .int .i64 a0_9] 39 (0, 0)) (by (with_reducible repeat (first | refine blk_drewN ?_ _ | refine blk_drew ?_ | refine blk_alloc ?_ _)); exact BK188.out)) : gb188 ≠ gb189)); have n6_ := Aside0.mk ((by rw [hg]; exact Nat.ne_of_gt (blk_lt (g := gb188) (o := .cells #[.int .i64 a0_0, .string a0_1, .string a0_2, .slice A0_3 l0_3.length c0_3, .int .i64 a0_4, .int .i64 a0_5, .string a0_6, .string a0_7, .int .i64 a0_8, .int .i64 a0_9] 39 (0, 0)) (by (with_reducible repeat (first | refine blk_drewN ?_ _ | refine blk_drew ?_ | refine blk_alloc ?_ _)); exact BK188.out)) : gb189 ≠ gb188)); clear BK188; clear HB; have BK188 := n0_; have HB := n1_; have BK189 := n2_; have GW189 := n3_; have GE189 := n4_; have NB188_189 := n5_; have NB189_188 := n6_; clear n0_ n1_ n2_ n3_ n4_ n5_ n6_; clear hb hbox hg; have hnb11 := NB188_189.out; have hnc11 := NB189_188.out; have hcz12_0 : w10.cell? ⟨gb188, 0, none⟩ = some (.int .i64 a0_0) := (blk_cell BK188.out 0).trans rfl; have hcz12_1 : w10.cell? ⟨gb188, 1, none⟩ = some (.string a0_1) := (blk_cell BK188.out 1).trans rfl; have hcz12_2 : w10.cell? ⟨gb188, 2, none⟩ = some (.string a0_2) := (blk_cell BK188.out 2).trans rfl; have hcz12_3 : w10.cell? ⟨gb188, 3, none⟩ = some (.slice A0_3 l0_3.length c0_3) := (blk_cell BK188.out 3).trans rfl; have hcz12_4 : w10.cell? ⟨gb188, 4, none⟩ = some (.int .i64 a0_4) := (blk_cell BK188.out 4).trans rfl; have hcz12_5 : w10.cell? ⟨gb188, 5, none⟩ = some (.int .i64 a0_5) := (blk_cell BK188.out 5).trans rfl; have hcz12_6 : w10.cell? ⟨gb188, 6, none⟩ = some (.string a0_6) := (blk_cell BK188.out 6).trans rfl; have hcz12_7 : w10.cell? ⟨gb188, 7, none⟩ = some (.string a0_7) := (blk_cell BK188.out 7).trans rfl; have hcz12_8 : w10.cell? ⟨gb188, 8, none⟩ = some (.int .i64 a0_8) := (blk_cell BK188.out 8).trans rfl; have hcz12_9 : w10.cell? ⟨gb188, 9, none⟩ = some (.int .i64 a0_9) := (blk_cell BK188.out 9).trans rfl; have hfz12_0 := blk_frozen BK188.out 0; have hfz12_1 := blk_frozen BK188.out 1; have hfz12_2 := blk_frozen BK188.out 2; have hfz12_3 := blk_frozen BK188.out 3; have hfz12_4 := blk_frozen BK188.out 4; have hfz12_5 := blk_frozen BK188.out 5; have hfz12_6 := blk_frozen BK188.out 6; have hfz12_7 := blk_frozen BK188.out 7; have hfz12_8 := blk_frozen BK188.out 8; have hfz12_9 := blk_frozen BK188.out 9; have hcz13_0 : w10.cell? ⟨gb189, 0, none⟩ = some (.int .i64 a1_0) := (blk_cell BK189.out 0).trans rfl; have hcz13_1 : w10.cell? ⟨gb189, 1, none⟩ = some (.string a1_1) := (blk_cell BK189.out 1).trans rfl; have hcz13_2 : w10.cell? ⟨gb189, 2, none⟩ = some (.string a1_2) := (blk_cell BK189.out 2).trans rfl; have hcz13_3 : w10.cell? ⟨gb189, 3, none⟩ = some (.slice A1_3 l1_3.length c1_3) := (blk_cell BK189.out 3).trans rfl; have hcz13_4 : w10.cell? ⟨gb189, 4, none⟩ = some (.int .i64 a1_4) := (blk_cell BK189.out 4).trans rfl; have hcz13_5 : w10.cell? ⟨gb189, 5, none⟩ = some (.int .i64 a1_5) := (blk_cell BK189.out 5).trans rfl; have hcz13_6 : w10.cell? ⟨gb189, 6, none⟩ = some (.string a1_6) := (blk_cell BK189.out 6).trans rfl; have hcz13_7 : w10.cell? ⟨gb189, 7, none⟩ = some (.string a1_7) := (blk_cell BK189.out 7).trans rfl; have hcz13_8 : w10.cell? ⟨gb189, 8, none⟩ = some (.int .i64 a1_8) := (blk_cell BK189.out 8).trans rfl; have hcz13_9 : w10.cell? ⟨gb189, 9, none⟩ = some (.int .i64 a1_9) := (blk_cell BK189.out 9).trans rfl; have hfz13_0 := blk_frozen BK189.out 0; have hfz13_1 := blk_frozen BK189.out 1; have hfz13_2 := blk_frozen BK189.out 2; have hfz13_3 := blk_frozen BK189.out 3; have hfz13_4 := blk_frozen BK189.out 4; have hfz13_5 := blk_frozen BK189.out 5; have hfz13_6 := blk_frozen BK189.out 6; have hfz13_7 := blk_frozen BK189.out 7; have hfz13_8 := blk_frozen BK189.out 8; have hfz13_9 := blk_frozen BK189.out 9; have hcv14 := Kd.C_string (P := Tryd.prog) (A := A0_3) (c := c0_3) Tryd.underlying35 Tryd.underlying5 Tryd.underlying9 (Kd.C_below HR0_3.out HB.out); have hcv15 := Kd.C_string (P := Tryd.prog) (A := A1_3) (c := c1_3) Tryd.underlying35 Tryd.underlying5 Tryd.underlying9 (Kd.C_below HR1_3.out HB.out)))
              go_ret
              exact ⟨by first | rfl | (simp [errW_none, errW_some] <;> rfl) | (simp [*, errW_none, errW_some] <;> rfl), by repeat (first | (with_reducible first | exact HB.out | apply below_alloc | apply pw_below_drewN | apply below_drew1 | refine below_set ?_ GE188.out | refine below_set ?_ GE189.out) | exact HB.out)⟩
            · rw [if_neg c8] at H
              have c8b0 : (a0_5 == a1_5) = false := beq_eq_false_iff_ne.mpr c8
              have c8b1 : (a0_5 != a1_5) = true := bne_iff_ne.mpr c8
              obtain rfl := Option.some.inj H
              go_enter Tryd.func15, Tryd.ntmps15
              go_wp2_with (first | ((with_reducible refine gate_dst (N := 2) rfl ?_); refine box_event ?hg (N := 2) ?hd (cs := #[.int .i64 a0_0, .string a0_1, .string a0_2, .slice A0_3 l0_3.length c0_3, .int .i64 a0_4, .int .i64 a0_5, .string a0_6, .string a0_7, .int .i64 a0_8, .int .i64 a0_9]) (t := 39) ?hr ?_; (case hd => rfl); (case hg => rfl); (case hr => first | (go_simp; done) | (go_simp; rfl)); intro gb188 hg w16 hbox hb; have n0_ := Aside0.mk (below_step (by repeat (first | (with_reducible first | exact HB.out | apply below_alloc | apply pw_below_drewN | apply below_drew1) | exact HB.out)) hb); have n1_ := Aside0.mk (hbox); have n2_ := Aside0.mk ((by rw [hg]; exact (below_size (by repeat (first | (with_reducible first | exact HB.out | apply below_alloc | apply pw_below_drewN | apply below_drew1) | exact HB.out))) : w.heap.size ≤ gb188)); have n3_ := Aside0.mk ((by rw [hg]; exact (below_size (by repeat (first | (with_reducible first | exact HB.out | apply below_alloc | apply pw_below_drewN | apply below_drew1) | exact HB.out))) : w.heap.size ≤ gb188)); clear HB; have HB := n0_; have BK188 := n1_; have GW188 := n2_; have GE188 := n3_; clear n0_ n1_ n2_ n3_; clear hb hbox hg) | ((with_reducible refine gate_dst (N := 3) rfl ?_); refine box_event ?hg (N := 3) ?hd (cs := #[.int .i64 a1_0, .string a1_1, .string a1_2, .slice A1_3 l1_3.length c1_3, .int .i64 a1_4, .int .i64 a1_5, .string a1_6, .string a1_7, .int .i64 a1_8, .int .i64 a1_9]) (t := 39) ?hr ?_; (case hd => rfl); (case hg => rfl); (case hr => first | (go_simp; done) | (go_simp; rfl)); intro gb189 hg w17 hbox hb; have n0_ := Aside0.mk (blk_below (g := gb188) (o := .cells #[.int .i64 a0_0, .string a0_1, .string a0_2, .slice A0_3 l0_3.length c0_3, .int .i64 a0_4, .int .i64 a0_5, .string a0_6, .string a0_7, .int .i64 a0_8, .int .i64 a0_9] 39 (0, 0)) (by (with_reducible repeat (first | refine blk_drewN ?_ _ | refine blk_drew ?_ | refine blk_alloc ?_ _)); exact BK188.out) hb); have n1_ := Aside0.mk (below_step (by repeat (first | (with_reducible first | exact HB.out | apply below_alloc | apply pw_below_drewN | apply below_drew1 | refine below_set ?_ GE188.out) | exact HB.out)) hb); have n2_ := Aside0.mk (hbox); have n3_ := Aside0.mk ((by rw [hg]; exact (below_size (by repeat (first | (with_reducible first | exact HB.out | apply below_alloc | apply pw_below_drewN | apply below_drew1 | refine below_set ?_ GE188.out) | exact HB.out))) : w.heap.size ≤ gb189)); have n4_ := Aside0.mk ((by rw [hg]; exact (below_size (by repeat (first | (with_reducible first | exact HB.out | apply below_alloc | apply pw_below_drewN | apply below_drew1 | refine below_set ?_ GE188.out) | exact HB.out))) : w.heap.size ≤ gb189)); have n5_ := Aside0.mk ((by rw [hg]; exact Nat.ne_of_lt (blk_lt (g := gb188) (o := .cells #[.int .i64 a0_0, .string a0_1, .string a0_2, .slice A0_3 l0_3.length c0_3, .int .i64 a0_4, .int .i64 a0_5, .string a0_6, .string a0_7, .int .i64 a0_8, .int .i64 a0_9] 39 (0, 0)) (by (with_reducible repeat (first | refine blk_drewN ?_ _ | refine blk_drew ?_ | refine blk_alloc ?_ _)); exact BK188.out)) : gb188 ≠ gb189)); have n6_ := Aside0.mk ((by rw [hg]; exact Nat.ne_of_gt (blk_lt (g := gb188) (o := .cells #[.int .i64 a0_0, .string a0_1, .string a0_2, .slice A0_3 l0_3.length c0_3, .int .i64 a0_4, .int .i64 a0_5, .string a0_6, .string a0_7, .int .i64 a0_8, .int .i64 a0_9] 39 (0, 0)) (by (with_reducible repeat (first | refine blk_drewN ?_ _ | refine blk_drew ?_ | refine blk_alloc ?_ _)); exact BK188.out)) : gb189 ≠ gb188)); clear BK188; clear HB; have BK188 := n0_; have HB := n1_; have BK189 := n2_; have GW189 := n3_; have GE189 := n4_; have NB188_189 := n5_; have NB189_188 := n6_; clear n0_ n1_ n2_ n3_ n4_ n5_ n6_; clear hb hbox hg; have hnb18 := NB188_189.out; have hnc18 := NB189_188.out; have hcz19_0 : w17.cell? ⟨gb188, 0, none⟩ = some (.int .i64 a0_0) := (blk_cell BK188.out 0).trans rfl; have hcz19_1 : w17.cell? ⟨gb188, 1, none⟩ = some (.string a0_1) := (blk_cell BK188.out 1).trans rfl; have hcz19_2 : w17.cell? ⟨gb188, 2, none⟩ = some (.string a0_2) := (blk_cell BK188.out 2).trans rfl; have hcz19_3 : w17.cell? ⟨gb188, 3, none⟩ = some (.slice A0_3 l0_3.length c0_3) := (blk_cell BK188.out 3).trans rfl; have hcz19_4 : w17.cell? ⟨gb188, 4, none⟩ = some (.int .i64 a0_4) := (blk_cell BK188.out 4).trans rfl; have hcz19_5 : w17.cell? ⟨gb188, 5, none⟩ = some (.int .i64 a0_5) := (blk_cell BK188.out 5).trans rfl; have hcz19_6 : w17.cell? ⟨gb188, 6, none⟩ = some (.string a0_6) := (blk_cell BK188.out 6).trans rfl; have hcz19_7 : w17.cell? ⟨gb188, 7, none⟩ = some (.string a0_7) := (blk_cell BK188.out 7).trans rfl; have hcz19_8 : w17.cell? ⟨gb188, 8, none⟩ = some (.int .i64 a0_8) := (blk_cell BK188.out 8).trans rfl; have hcz19_9 : w17.cell? ⟨gb188, 9, none⟩ = some (.int .i64 a0_9) := (blk_cell BK188.out 9).trans rfl; have hfz19_0 := blk_frozen BK188.out 0; have hfz19_1 := blk_frozen BK188.out 1; have hfz19_2 := blk_frozen BK188.out 2; have hfz19_3 := blk_frozen BK188.out 3; have hfz19_4 := blk_frozen BK188.out 4; have hfz19_5 := blk_frozen BK188.out 5; have hfz19_6 := blk_frozen BK188.out 6; have hfz19_7 := blk_frozen BK188.out 7; have hfz19_8 := blk_frozen BK188.out 8; have hfz19_9 := blk_frozen BK188.out 9; have hcz20_0 : w17.cell? ⟨gb189, 0, none⟩ = some (.int .i64 a1_0) := (blk_cell BK189.out 0).trans rfl; have hcz20_1 : w17.cell? ⟨gb189, 1, none⟩ = some (.string a1_1) := (blk_cell BK189.out 1).trans rfl; have hcz20_2 : w17.cell? ⟨gb189, 2, none⟩ = some (.string a1_2) := (blk_cell BK189.out 2).trans rfl; have hcz20_3 : w17.cell? ⟨gb189, 3, none⟩ = some (.slice A1_3 l1_3.length c1_3) := (blk_cell BK189.out 3).trans rfl; have hcz20_4 : w17.cell? ⟨gb189, 4, none⟩ = some (.int .i64 a1_4) := (blk_cell BK189.out 4).trans rfl; have hcz20_5 : w17.cell? ⟨gb189, 5, none⟩ = some (.int .i64 a1_5) := (blk_cell BK189.out 5).trans rfl; have hcz20_6 : w17.cell? ⟨gb189, 6, none⟩ = some (.string a1_6) := (blk_cell BK189.out 6).trans rfl; have hcz20_7 : w17.cell? ⟨gb189, 7, none⟩ = some (.string a1_7) := (blk_cell BK189.out 7).trans rfl; have hcz20_8 : w17.cell? ⟨gb189, 8, none⟩ = some (.int .i64 a1_8) := (blk_cell BK189.out 8).trans rfl; have hcz20_9 : w17.cell? ⟨gb189, 9, none⟩ = some (.int .i64 a1_9) := (blk_cell BK189.out 9).trans rfl; have hfz20_0 := blk_frozen BK189.out 0; have hfz20_1 := blk_frozen BK189.out 1; have hfz20_2 := blk_frozen BK189.out 2; have hfz20_3 := blk_frozen BK189.out 3; have hfz20_4 := blk_frozen BK189.out 4; have hfz20_5 := blk_frozen BK189.out 5; have hfz20_6 := blk_frozen BK189.out 6; have hfz20_7 := blk_frozen BK189.out 7; have hfz20_8 := blk_frozen BK189.out 8; have hfz20_9 := blk_frozen BK189.out 9; have hcv21 := Kd.C_string (P := Tryd.prog) (A := A0_3) (c := c0_3) Tryd.underlying35 Tryd.underlying5 Tryd.underlying9 (Kd.C_below HR0_3.out HB.out); have hcv22 := Kd.C_string (P := Tryd.prog) (A := A1_3) (c := c1_3) Tryd.underlying35 Tryd.underlying5 Tryd.underlying9 (Kd.C_below HR1_3.out HB.out)))
              go_ret
              exact ⟨by first | rfl | (simp [errW_none, errW_some] <;> rfl) | (simp [*, errW_none, errW_some] <;> rfl), by repeat (first | (with_reducible first | exact HB.out | apply below_alloc | apply pw_below_drewN | apply below_drew1 | refine below_set ?_ GE188.out | refine below_set ?_ GE189.out) | exact HB.out)⟩
          · rw [if_neg c7] at H
            have c7b0 : (a0_4 == a1_4) = false := beq_eq_false_iff_ne.mpr c7
            have c7b1 : (a0_4 != a1_4) = true := bne_iff_ne.mpr c7
            obtain rfl := Option.some.inj H
            go_enter Tryd.func15, Tryd.ntmps15
            go_wp2_with (first | ((with_reducible refine gate_dst (N := 2) rfl ?_); refine box_event ?hg (N := 2) ?hd (cs := #[.int .i64 a0_0, .string a0_1, .string a0_2, .slice A0_3 l0_3.length c0_3, .int .i64 a0_4, .int .i64 a0_5, .string a0_6, .string a0_7, .int .i64 a0_8, .int .i64 a0_9]) (t := 39) ?hr ?_; (case hd => rfl); (case hg => rfl); (case hr => first | (go_simp; done) | (go_simp; rfl)); intro gb188 hg w23 hbox hb; have n0_ := Aside0.mk (below_step (by repeat (first | (with_reducible first | exact HB.out | apply below_alloc | apply pw_below_drewN | apply below_drew1) | exact HB.out)) hb); have n1_ := Aside0.mk (hbox); have n2_ := Aside0.mk ((by rw [hg]; exact (below_size (by repeat (first | (with_reducible first | exact HB.out | apply below_alloc | apply pw_below_drewN | apply below_drew1) | exact HB.out))) : w.heap.size ≤ gb188)); have n3_ := Aside0.mk ((by rw [hg]; exact (below_size (by repeat (first | (with_reducible first | exact HB.out | apply below_alloc | apply pw_below_drewN | apply below_drew1) | exact HB.out))) : w.heap.size ≤ gb188)); clear HB; have HB := n0_; have BK188 := n1_; have GW188 := n2_; have GE188 := n3_; clear n0_ n1_ n2_ n3_; clear hb hbox hg) | ((with_reducible refine gate_dst (N := 3) rfl ?_); refine box_event ?hg (N := 3) ?hd (cs := #[.int .i64 a1_0, .string a1_1, .string a1_2, .slice A1_3 l1_3.length c1_3, .int .i64 a1_4, .int .i64 a1_5, .string a1_6, .string a1_7, .int .i64 a1_8, .int .i64 a1_9]) (t := 39) ?hr ?_; (case hd => rfl); (case hg => rfl); (case hr => first | (go_simp; done) | (go_simp; rfl)); intro gb189 hg w24 hbox hb; have n0_ := Aside0.mk (blk_below (g := gb188) (o := .cells #[.int .i64 a0_0, .string a0_1, .string a0_2, .slice A0_3 l0_3.length c0_3, .int .i64 a0_4, .int .i64 a0_5, .string a0_6, .string a0_7, .int .i64 a0_8, .int .i64 a0_9] 39 (0, 0)) (by (with_reducible repeat (first | refine blk_drewN ?_ _ | refine blk_drew ?_ | refine blk_alloc ?_ _)); exact BK188.out) hb); have n1_ := Aside0.mk (below_step (by repeat (first | (with_reducible first | exact HB.out | apply below_alloc | apply pw_below_drewN | apply below_drew1 | refine below_set ?_ GE188.out) | exact HB.out)) hb); have n2_ := Aside0.mk (hbox); have n3_ := Aside0.mk ((by rw [hg]; exact (below_size (by repeat (first | (with_reducible first | exact HB.out | apply below_alloc | apply pw_below_drewN | apply below_drew1 | refine below_set ?_ GE188.out) | exact HB.out))) : w.heap.size ≤ gb189)); have n4_ := Aside0.mk ((by rw [hg]; exact (below_size (by repeat (first | (with_reducible first | exact HB.out | apply below_alloc | apply pw_below_drewN | apply below_drew1 | refine below_set ?_ GE188.out) | exact HB.out))) : w.heap.size ≤ gb189)); have n5_ := Aside0.mk ((by rw [hg]; exact Nat.ne_of_lt (blk_lt (g := gb188) (o := .cells #[.int .i64 a0_0, .string a0_1, .string a0_2, .slice A0_3 l0_3.length c0_3, .int .i64 a0_4, .int .i64 a0_5, .string a0_6, .string a0_7, .int .i64 a0_8, .int .i64 a0_9] 39 (0, 0)) (by (with_reducible repeat (first | refine blk_drewN ?_ _ | refine blk_drew ?_ | refine blk_alloc ?_ _)); exact BK188.out)) : gb188 ≠ gb189)); have n6_ := Aside0.mk ((by rw [hg]; exact Nat.ne_of_gt (blk_lt (g := gb188) (o := .cells #[.int .i64 a0_0, .string a0_1, .string a0_2, .slice A0_3 l0_3.length c0_3, .int .i64 a0_4, .int .i64 a0_5, .string a0_6, .string a0_7, .int .i64 a0_8, .int .i64 a0_9] 39 (0, 0)) (by (with_reducible repeat (first | refine blk_drewN ?_ _ | refine blk_drew ?_ | refine blk_alloc ?_ _)); exact BK188.out)) : gb189 ≠ gb188)); clear BK188; clear HB; have BK188 := n0_; have HB := n1_; have BK189 := n2_; have GW189 := n3_; have GE189 := n4_; have NB188_189 := n5_; have NB189_188 := n6_; clear n0_ n1_ n2_ n3_ n4_ n5_ n6_; clear hb hbox hg; have hnb25 := NB188_189.out; have hnc25 := NB189_188.out; have hcz26_0 : w24.cell? ⟨gb188, 0, none⟩ = some (.int .i64 a0_0) := (blk_cell BK188.out 0).trans rfl; have hcz26_1 : w24.cell? ⟨gb188, 1, none⟩ = some (.string a0_1) := (blk_cell BK188.out 1).trans rfl; have hcz26_2 : w24.cell? ⟨gb188, 2, none⟩ = some (.string a0_2) := (blk_cell BK188.out 2).trans rfl; have hcz26_3 : w24.cell? ⟨gb188, 3, none⟩ = some (.slice A0_3 l0_3.length c0_3) := (blk_cell BK188.out 3).trans rfl; have hcz26_4 : w24.cell? ⟨gb188, 4, none⟩ = some (.int .i64 a0_4) := (blk_cell BK188.out 4).trans rfl; have hcz26_5 : w24.cell? ⟨gb188, 5, none⟩ = some (.int .i64 a0_5) := (blk_cell BK188.out 5).trans rfl; have hcz26_6 : w24.cell? ⟨gb188, 6, none⟩ = some (.string a0_6) := (blk_cell BK188.out 6).trans rfl; have hcz26_7 : w24.cell? ⟨gb188, 7, none⟩ = some (.string a0_7) := (blk_cell BK188.out 7).trans rfl; have hcz26_8 : w24.cell? ⟨gb188, 8, none⟩ = some (.int .i64 a0_8) := (blk_cell BK188.out 8).trans rfl; have hcz26_9 : w24.cell? ⟨gb188, 9, none⟩ = some (.int .i64 a0_9) := (blk_cell BK188.out 9).trans rfl; have hfz26_0 := blk_frozen BK188.out 0; have hfz26_1 := blk_frozen BK188.out 1; have hfz26_2 := blk_frozen BK188.out 2; have hfz26_3 := blk_frozen BK188.out 3; have hfz26_4 := blk_frozen BK188.out 4; have hfz26_5 := blk_frozen BK188.out 5; have hfz26_6 := blk_frozen BK188.out 6; have hfz26_7 := blk_frozen BK188.out 7; have hfz26_8 := blk_frozen BK188.out 8; have hfz26_9 := blk_frozen BK188.out 9; have hcz27_0 : w24.cell? ⟨gb189, 0, none⟩ = some (.int .i64 a1_0) := (blk_cell BK189.out 0).trans rfl; have hcz27_1 : w24.cell? ⟨gb189, 1, none⟩ = some (.string a1_1) := (blk_cell BK189.out 1).trans rfl; have hcz27_2 : w24.cell? ⟨gb189, 2, none⟩ = some (.string a1_2) := (blk_cell BK189.out 2).trans rfl; have hcz27_3 : w24.cell? ⟨gb189, 3, none⟩ = some (.slice A1_3 l1_3.length c1_3) := (blk_cell BK189.out 3).trans rfl; have hcz27_4 : w24.cell? ⟨gb189, 4, none⟩ = some (.int .i64 a1_4) := (blk_cell BK189.out 4).trans rfl; have hcz27_5 : w24.cell? ⟨gb189, 5, none⟩ = some (.int .i64 a1_5) := (blk_cell BK189.out 5).trans rfl; have hcz27_6 : w24.cell? ⟨gb189, 6, none⟩ = some (.string a1_6) := (blk_cell BK189.out 6).trans rfl; have hcz27_7 : w24.cell? ⟨gb189, 7, none⟩ = some (.string a1_7) := (blk_cell BK189.out 7).trans rfl; have hcz27_8 : w24.cell? ⟨gb189, 8, none⟩ = some (.int .i64 a1_8) := (blk_cell BK189.out 8).trans rfl; have hcz27_9 : w24.cell? ⟨gb189, 9, none⟩ = some (.int .i64 a1_9) := (blk_cell BK189.out 9).trans rfl; have hfz27_0 := blk_frozen BK189.out 0; have hfz27_1 := blk_frozen BK189.out 1; have hfz27_2 := blk_frozen BK189.out 2; have hfz27_3 := blk_frozen BK189.out 3; have hfz27_4 := blk_frozen BK189.out 4; have hfz27_5 := blk_frozen BK189.out 5; have hfz27_6 := blk_frozen BK189.out 6; have hfz27_7 := blk_frozen BK189.out 7; have hfz27_8 := blk_frozen BK189.out 8; have hfz27_9 := blk_frozen BK189.out 9; have hcv28 := Kd.C_string (P := Tryd.prog) (A := A0_3) (c := c0_3) Tryd.underlying35 Tryd.underlying5 Tryd.underlying9 (Kd.C_below HR0_3.out HB.out); have hcv29 := Kd.C_string (P := Tryd.prog) (A := A1_3) (c := c1_3) Tryd.underlying35 Tryd.underlying5 Tryd.underlying9 (Kd.C_below HR1_3.out HB.out)))
            go_ret
            exact ⟨by first | rfl | (simp [errW_none, errW_some] <;> rfl) | (simp [*, errW_none, errW_some] <;> rfl), by repeat (first | (with_reducible first | exact HB.out | apply below_alloc | apply pw_below_drewN | apply below_drew1 | refine below_set ?_ GE188.out | refine below_set ?_ GE189.out) | exact HB.out)⟩
        · rw [if_neg c6] at H
          have c6b0 : ((strOfNums l0_3).toList == (strOfNums l1_3).toList) = false := beq_eq_false_iff_ne.mpr c6
          have c6b1 : ((strOfNums l0_3).toList != (strOfNums l1_3).toList) = true := bne_iff_ne.mpr c6
          obtain rfl := Option.some.inj H
          go_enter Tryd.func15, Tryd.ntmps15
          go_wp2_with (first | ((with_reducible refine gate_dst (N := 2) rfl ?_); refine box_event ?hg (N := 2) ?hd (cs := #[.int .i64 a0_0, .string a0_1, .string a0_2, .slice A0_3 l0_3.length c0_3, .int .i64 a0_4, .int .i64 a0_5, .string a0_6, .string a0_7, .int .i64 a0_8, .int .i64 a0_9]) (t := 39) ?hr ?_; (case hd => rfl); (case hg => rfl); (case hr => first | (go_simp; done) | (go_simp; rfl)); intro gb188 hg w30 hbox hb; have n0_ := Aside0.mk (below_step (by repeat (first | (with_reducible first | exact HB.out | apply below_alloc | apply pw_below_drewN | apply below_drew1) | exact HB.out)) hb); have n1_ := Aside0.mk (hbox); have n2_ := Aside0.mk ((by rw [hg]; exact (below_size (by repeat (first | (with_reducible first | exact HB.out | apply below_alloc | apply pw_below_drewN | apply below_drew1) | exact HB.out))) : w.heap.size ≤ gb188)); have n3_ := Aside0.mk ((by rw [hg]; exact (below_size (by repeat (first | (with_reducible first | exact HB.out | apply below_alloc | apply pw_below_drewN | apply below_drew1) | exact HB.out))) : w.heap.size ≤ gb188)); clear HB; have HB := n0_; have BK188 := n1_; have GW188 := n2_; have GE188 := n3_; clear n0_ n1_ n2_ n3_; clear hb hbox hg) | ((with_reducible refine gate_dst (N := 3) rfl ?_); refine box_event ?hg (N := 3) ?hd (cs := #[.int .i64 a1_0, .string a1_1, .string a1_2, .slice A1_3 l1_3.length c1_3, .int .i64 a1_4, .int .i64 a1_5, .string a1_6, .string a1_7, .int .i64 a1_8, .int .i64 a1_9]) (t := 39) ?hr ?_; (case hd => rfl); (case hg => rfl); (case hr => first | (go_simp; done) | (go_simp; rfl)); intro gb189 hg w31 hbox hb; have n0_ := Aside0.mk (blk_below (g := gb188) (o := .cells #[.int .i64 a0_0, .string a0_1, .string a0_2, .slice A0_3 l0_3.length c0_3, .int .i64 a0_4, .int .i64 a0_5, .string a0_6, .string a0_7, .int .i64 a0_8, .int .i64 a0_9] 39 (0, 0)) (by (with_reducible repeat (first | refine blk_drewN ?_ _ | refine blk_drew ?_ | refine blk_alloc ?_ _)); exact BK188.out) hb); have n1_ := Aside0.mk (below_step (by repeat (first | (with_reducible first | exact HB.out | apply below_alloc | apply pw_below_drewN | apply below_drew1 | refine below_set ?_ GE188.out) | exact HB.out)) hb); have n2_ := Aside0.mk (hbox); have n3_ := Aside0.mk ((by rw [hg]; exact (below_size (by repeat (first | (with_reducible first | exact HB.out | apply below_alloc | apply pw_below_drewN | apply below_drew1 | refine below_set ?_ GE188.out) | exact HB.out))) : w.heap.size ≤ gb189)); have n4_ := Aside0.mk ((by rw [hg]; exact (below_size (by repeat (first | (with_reducible first | exact HB.out | apply below_alloc | apply pw_below_drewN | apply below_drew1 | refine below_set ?_ GE188.out) | exact HB.out))) : w.heap.size ≤ gb189)); have n5_ := Aside0.mk ((by rw [hg]; exact Nat.ne_of_lt (blk_lt (g := gb188) (o := .cells #[.int .i64 a0_0, .string a0_1, .string a0_2, .slice A0_3 l0_3.length c0_3, .int .i64 a0_4, .int .i64 a0_5, .string a0_6, .string a0_7, .int .i64 a0_8, .int .i64 a0_9] 39 (0, 0)) (by (with_reducible repeat (first | refine blk_drewN ?_ _ | refine blk_drew ?_ | refine blk_alloc ?_ _)); exact BK188.out)) : gb188 ≠ gb189)); have n6_ := Aside0.mk ((by rw [hg]; exact Nat.ne_of_gt (blk_lt (g := gb188) (o := .cells #[.int .i64 a0_0, .string a0_1, .string a0_2, .slice A0_3 l0_3.length c0_3, .int .i64 a0_4, .int .i64 a0_5, .string a0_6, .string a0_7, .int .i64 a0_8, .int .i64 a0_9] 39 (0, 0)) (by (with_reducible repeat (first | refine blk_drewN ?_ _ | refine blk_drew ?_ | refine blk_alloc ?_ _)); exact BK188.out)) : gb189 ≠ gb188)); clear BK188; clear HB; have BK188 := n0_; have HB := n1_; have BK189 := n2_; have GW189 := n3_; have GE189 := n4_; have NB188_189 := n5_; have NB189_188 := n6_; clear n0_ n1_ n2_ n3_ n4_ n5_ n6_; clear hb hbox hg; have hnb32 := NB188_189.out; have hnc32 := NB189_188.out; have hcz33_0 : w31.cell? ⟨gb188, 0, none⟩ = some (.int .i64 a0_0) := (blk_cell BK188.out 0).trans rfl; have hcz33_1 : w31.cell? ⟨gb188, 1, none⟩ = some (.string a0_1) := (blk_cell BK188.out 1).trans rfl; have hcz33_2 : w31.cell? ⟨gb188, 2, none⟩ = some (.string a0_2) := (blk_cell BK188.out 2).trans rfl; have hcz33_3 : w31.cell? ⟨gb188, 3, none⟩ = some (.slice A0_3 l0_3.length c0_3) := (blk_cell BK188.out 3).trans rfl; have hcz33_4 : w31.cell? ⟨gb188, 4, none⟩ = some (.int .i64 a0_4) := (blk_cell BK188.out 4).trans rfl; have hcz33_5 : w31.cell? ⟨gb188, 5, none⟩ = some (.int .i64 a0_5) := (blk_cell BK188.out 5).trans rfl; have hcz33_6 : w31.cell? ⟨gb188, 6, none⟩ = some (.string a0_6) := (blk_cell BK188.out 6).trans rfl; have hcz33_7 : w31.cell? ⟨gb188, 7, none⟩ = some (.string a0_7) := (blk_cell BK188.out 7).trans rfl; have hcz33_8 : w31.cell? ⟨gb188, 8, none⟩ = some (.int .i64 a0_8) := (blk_cell BK188.out 8).trans rfl; have hcz33_9 : w31.cell? ⟨gb188, 9, none⟩ = some (.int .i64 a0_9) := (blk_cell BK188.out 9).trans rfl; have hfz33_0 := blk_frozen BK188.out 0; have hfz33_1 := blk_frozen BK188.out 1; have hfz33_2 := blk_frozen BK188.out 2; have hfz33_3 := blk_frozen BK188.out 3; have hfz33_4 := blk_frozen BK188.out 4; have hfz33_5 := blk_frozen BK188.out 5; have hfz33_6 := blk_frozen BK188.out 6; have hfz33_7 := blk_frozen BK188.out 7; have hfz33_8 := blk_frozen BK188.out 8; have hfz33_9 := blk_frozen BK188.out 9; have hcz34_0 : w31.cell? ⟨gb189, 0, none⟩ = some (.int .i64 a1_0) := (blk_cell BK189.out 0).trans rfl; have hcz34_1 : w31.cell? ⟨gb189, 1, none⟩ = some (.string a1_1) := (blk_cell BK189.out 1).trans rfl; have hcz34_2 : w31.cell? ⟨gb189, 2, none⟩ = some (.string a1_2) := (blk_cell BK189.out 2).trans rfl; have hcz34_3 : w31.cell? ⟨gb189, 3, none⟩ = some (.slice A1_3 l1_3.length c1_3) := (blk_cell BK189.out 3).trans rfl; have hcz34_4 : w31.cell? ⟨gb189, 4, none⟩ = some (.int .i64 a1_4) := (blk_cell BK189.out 4).trans rfl; have hcz34_5 : w31.cell? ⟨gb189, 5, none⟩ = some (.int .i64 a1_5) := (blk_cell BK189.out 5).trans rfl; have hcz34_6 : w31.cell? ⟨gb189, 6, none⟩ = some (.string a1_6) := (blk_cell BK189.out 6).trans rfl; have hcz34_7 : w31.cell? ⟨gb189, 7, none⟩ = some (.string a1_7) := (blk_cell BK189.out 7).trans rfl; have hcz34_8 : w31.cell? ⟨gb189, 8, none⟩ = some (.int .i64 a1_8) := (blk_cell BK189.out 8).trans rfl; have hcz34_9 : w31.cell? ⟨gb189, 9, none⟩ = some (.int .i64 a1_9) := (blk_cell BK189.out 9).trans rfl; have hfz34_0 := blk_frozen BK189.out 0; have hfz34_1 := blk_frozen BK189.out 1; have hfz34_2 := blk_frozen BK189.out 2; have hfz34_3 := blk_frozen BK189.out 3; have hfz34_4 := blk_frozen BK189.out 4; have hfz34_5 := blk_frozen BK189.out 5; have hfz34_6 := blk_frozen BK189.out 6; have hfz34_7 := blk_frozen BK189.out 7; have hfz34_8 := blk_frozen BK189.out 8; have hfz34_9 := blk_frozen BK189.out 9; have hcv35 := Kd.C_string (P := Tryd.prog) (A := A0_3) (c := c0_3) Tryd.underlying35 Tryd.underlying5 Tryd.underlying9 (Kd.C_below HR0_3.out HB.out); have hcv36 := Kd.C_string (P := Tryd.prog) (A := A1_3) (c := c1_3) Tryd.underlying35 Tryd.underlying5 Tryd.underlying9 (Kd.C_below HR1_3.out HB.out)))
          go_ret
          exact ⟨by first | rfl | (simp [errW_none, errW_some] <;> rfl) | (simp [*, errW_none, errW_some] <;> rfl), by repeat (first | (with_reducible first | exact HB.out | apply below_alloc | apply pw_below_drewN | apply below_drew1 | refine below_set ?_ GE188.out | refine below_set ?_ GE189.out) | exact HB.out)⟩
      · rw [if_neg c5] at H
        have c5b0 : (a0_2.toList == a1_2.toList) = false := beq_eq_false_iff_ne.mpr c5
        have c5b1 : (a0_2.toList != a1_2.toList) = true := bne_iff_ne.mpr c5
        obtain rfl := Option.some.inj H
        go_enter Tryd.func15, Tryd.ntmps15
        go_wp2_with (first | ((with_reducible refine gate_dst (N := 2) rfl ?_); refine box_event ?hg (N := 2) ?hd (cs := #[.int .i64 a0_0, .string a0_1, .string a0_2, .slice A0_3 l0_3.length c0_3, .int .i64 a0_4, .int .i64 a0_5, .string a0_6, .string a0_7, .int .i64 a0_8, .int .i64 a0_9]) (t := 39) ?hr ?_; (case hd => rfl); (case hg => rfl); (case hr => first | (go_simp; done) | (go_simp; rfl)); intro gb188 hg w37 hbox hb; have n0_ := Aside0.mk (below_step (by repeat (first | (with_reducible first | exact HB.out | apply below_alloc | apply pw_below_drewN | apply below_drew1) | exact HB.out)) hb); have n1_ := Aside0.mk (hbox); have n2_ := Aside0.mk ((by rw [hg]; exact (below_size (by repeat (first | (with_reducible first | exact HB.out | apply below_alloc | apply pw_below_drewN | apply below_drew1) | exact HB.out))) : w.heap.size ≤ gb188)); have n3_ := Aside0.mk ((by rw [hg]; exact (below_size (by repeat (first | (with_reducible first | exact HB.out | apply below_alloc | apply pw_below_drewN | apply below_drew1) | exact HB.out))) : w.heap.size ≤ gb188)); clear HB; have HB := n0_; have BK188 := n1_; have GW188 := n2_; have GE188 := n3_; clear n0_ n1_ n2_ n3_; clear hb hbox hg) | ((with_reducible refine gate_dst (N := 3) rfl ?_); refine box_event ?hg (N := 3) ?hd (cs := #[.int .i64 a1_0, .string a1_1, .string a1_2, .slice A1_3 l1_3.length c1_3, .int .i64 a1_4, .int .i64 a1_5, .string a1_6, .string a1_7, .int .i64 a1_8, .int .i64 a1_9]) (t := 39) ?hr ?_; (case hd => rfl); (case hg => rfl); (case hr => first | (go_simp; done) | (go_simp; rfl)); intro gb189 hg w38 hbox hb; have n0_ := Aside0.mk (blk_below (g := gb188) (o := .cells #[.int .i64 a0_0, .string a0_1, .string a0_2, .slice A0_3 l0_3.length c0_3, .int .i64 a0_4, .int .i64 a0_5, .string a0_6, .string a0_7, .int .i64 a0_8, .int .i64 a0_9] 39 (0, 0)) (by (with_reducible repeat (first | refine blk_drewN ?_ _ | refine blk_drew ?_ | refine blk_alloc ?_ _)); exact BK188.out) hb); have n1_ := Aside0.mk (below_step (by repeat (first | (with_reducible first | exact HB.out | apply below_alloc | apply pw_below_drewN | apply below_drew1 | refine below_set ?_ GE188.out) | exact HB.out)) hb); have n2_ := Aside0.mk (hbox); have n3_ := Aside0.mk ((by rw [hg]; exact (below_size (by repeat (first | (with_reducible first | exact HB.out | apply below_alloc | apply pw_below_drewN | apply below_drew1 | refine below_set ?_ GE188.out) | exact HB.out))) : w.heap.size ≤ gb189)); have n4_ := Aside0.mk ((by rw [hg]; exact (below_size (by repeat (first | (with_reducible first | exact HB.out | apply below_alloc | apply pw_below_drewN | apply below_drew1 | refine below_set ?_ GE188.out) | exact HB.out))) : w.heap.size ≤ gb189)); have n5_ := Aside0.mk ((by rw [hg]; exact Nat.ne_of_lt (blk_lt (g := gb188) (o := .cells #[.int .i64 a0_0, .string a0_1, .string a0_2, .slice A0_3 l0_3.length c0_3, .int .i64 a0_4, .int .i64 a0_5, .string a0_6, .string a0_7, .int .i64 a0_8, .int .i64 a0_9] 39 (0, 0)) (by (with_reducible repeat (first | refine blk_drewN ?_ _ | refine blk_drew ?_ | refine blk_alloc ?_ _)); exact BK188.out)) : gb188 ≠ gb189)); have n6_ := Aside0.mk ((by rw [hg]; exact Nat.ne_of_gt (blk_lt (g := gb188) (o := .cells #[.int .i64 a0_0, .string a0_1, .string a0_2, .slice A0_3 l0_3.length c0_3, .int .i64 a0_4, .int .i64 a0_5, .string a0_6, .string a0_7, .int .i64 a0_8, .int .i64 a0_9] 39 (0, 0)) (by (with_reducible repeat (first | refine blk_drewN ?_ _ | refine blk_drew ?_ | refine blk_alloc ?_ _)); exact BK188.out)) : gb189 ≠ gb188)); clear BK188; clear HB; have BK188 := n0_; have HB := n1_; have BK189 := n2_; have GW189 := n3_; have GE189 := n4_; have NB188_189 := n5_; have NB189_188 := n6_; clear n0_ n1_ n2_ n3_ n4_ n5_ n6_; clear hb hbox hg; have hnb39 := NB188_189.out; have hnc39 := NB189_188.out; have hcz40_0 : w38.cell? ⟨gb188, 0, none⟩ = some (.int .i64 a0_0) := (blk_cell BK188.out 0).trans rfl; have hcz40_1 : w38.cell? ⟨gb188, 1, none⟩ = some (.string a0_1) := (blk_cell BK188.out 1).trans rfl; have hcz40_2 : w38.cell? ⟨gb188, 2, none⟩ = some (.string a0_2) := (blk_cell BK188.out 2).trans rfl; have hcz40_3 : w38.cell? ⟨gb188, 3, none⟩ = some (.slice A0_3 l0_3.length c0_3) := (blk_cell BK188.out 3).trans rfl; have hcz40_4 : w38.cell? ⟨gb188, 4, none⟩ = some (.int .i64 a0_4) := (blk_cell BK188.out 4).trans rfl; have hcz40_5 : w38.cell? ⟨gb188, 5, none⟩ = some (.int .i64 a0_5) := (blk_cell BK188.out 5).trans rfl; have hcz40_6 : w38.cell? ⟨gb188, 6, none⟩ = some (.string a0_6) := (blk_cell BK188.out 6).trans rfl; have hcz40_7 : w38.cell? ⟨gb188, 7, none⟩ = some (.string a0_7) := (blk_cell BK188.out 7).trans rfl; have hcz40_8 : w38.cell? ⟨gb188, 8, none⟩ = some (.int .i64 a0_8) := (blk_cell BK188.out 8).trans rfl; have hcz40_9 : w38.cell? ⟨gb188, 9, none⟩ = some (.int .i64 a0_9) := (blk_cell BK188.out 9).trans rfl; have hfz40_0 := blk_frozen BK188.out 0; have hfz40_1 := blk_frozen BK188.out 1; have hfz40_2 := blk_frozen BK188.out 2; have hfz40_3 := blk_frozen BK188.out 3; have hfz40_4 := blk_frozen BK188.out 4; have hfz40_5 := blk_frozen BK188.out 5; have hfz40_6 := blk_frozen BK188.out 6; have hfz40_7 := blk_frozen BK188.out 7; have hfz40_8 := blk_frozen BK188.out 8; have hfz40_9 := blk_frozen BK188.out 9; have hcz41_0 : w38.cell? ⟨gb189, 0, none⟩ = some (.int .i64 a1_0) := (blk_cell BK189.out 0).trans rfl; have hcz41_1 : w38.cell? ⟨gb189, 1, none⟩ = some (.string a1_1) := (blk_cell BK189.out 1).trans rfl; have hcz41_2 : w38.cell? ⟨gb189, 2, none⟩ = some (.string a1_2) := (blk_cell BK189.out 2).trans rfl; have hcz41_3 : w38.cell? ⟨gb189, 3, none⟩ = some (.slice A1_3 l1_3.length c1_3) := (blk_cell BK189.out 3).trans rfl; have hcz41_4 : w38.cell? ⟨gb189, 4, none⟩ = some (.int .i64 a1_4) := (blk_cell BK189.out 4).trans rfl; have hcz41_5 : w38.cell? ⟨gb189, 5, none⟩ = some (.int .i64 a1_5) := (blk_cell BK189.out 5).trans rfl; have hcz41_6 : w38.cell? ⟨gb189, 6, none⟩ = some (.string a1_6) := (blk_cell BK189.out 6).trans rfl; have hcz41_7 : w38.cell? ⟨gb189, 7, none⟩ = some (.string a1_7) := (blk_cell BK189.out 7).trans rfl; have hcz41_8 : w38.cell? ⟨gb189, 8, none⟩ = some (.int .i64 a1_8) := (blk_cell BK189.out 8).trans rfl; have hcz41_9 : w38.cell? ⟨gb189, 9, none⟩ = some (.int .i64 a1_9) := (blk_cell BK189.out 9).trans rfl; have hfz41_0 := blk_frozen BK189.out 0; have hfz41_1 := blk_frozen BK189.out 1; have hfz41_2 := blk_frozen BK189.out 2; have hfz41_3 := blk_frozen BK189.out 3; have hfz41_4 := blk_frozen BK189.out 4; have hfz41_5 := blk_frozen BK189.out 5; have hfz41_6 := blk_frozen BK189.out 6; have hfz41_7 := blk_frozen BK189.out 7; have hfz41_8 := blk_frozen BK189.out 8; have hfz41_9 := blk_frozen BK189.out 9))
        go_ret
        exact ⟨by first | rfl | (simp [errW_none, errW_some] <;> rfl) | (simp [*, errW_none, errW_some] <;> rfl), by repeat (first | (with_reducible first | exact HB.out | apply below_alloc | apply pw_below_drewN | apply below_drew1 | refine below_set ?_ GE188.out | refine below_set ?_ GE189.out) | exact HB.out)⟩
    · rw [if_neg c4] at H
      have c4b0 : (a0_1.toList == a1_1.toList) = false := beq_eq_false_iff_ne.mpr c4
      have c4b1 : (a0_1.toList != a1_1.toList) = true := bne_iff_ne.mpr c4
      obtain rfl := Option.some.inj H
      go_enter Tryd.func15, Tryd.ntmps15
      go_wp2_with (first | ((with_reducible refine gate_dst (N := 2) rfl ?_); refine box_event ?hg (N := 2) ?hd (cs := #[.int .i64 a0_0, .string a0_1, .string a0_2, .slice A0_3 l0_3.length c0_3, .int .i64 a0_4, .int .i64 a0_5, .string a0_6, .string a0_7, .int .i64 a0_8, .int .i64 a0_9]) (t := 39) ?hr ?_; (case hd => rfl); (case hg => rfl); (case hr => first | (go_simp; done) | (go_simp; rfl)); intro gb188 hg w42 hbox hb; have n0_ := Aside0.mk (below_step (by repeat (first | (with_reducible first | exact HB.out | apply below_alloc | apply pw_below_drewN | apply below_drew1) | exact HB.out)) hb); have n1_ := Aside0.mk (hbox); have n2_ := Aside0.mk ((by rw [hg]; exact (below_size (by repeat (first | (with_reducible first | exact HB.out | apply below_alloc | apply pw_below_drewN | apply below_drew1) | exact HB.out))) : w.heap.size ≤ gb188)); have n3_ := Aside0.mk ((by rw [hg]; exact (below_size (by repeat (first | (with_reducible first | exact HB.out | apply below_alloc | apply pw_below_drewN | apply below_drew1) | exact HB.out))) : w.heap.size ≤ gb188)); clear HB; have HB := n0_; have BK188 := n1_; have GW188 := n2_; have GE188 := n3_; clear n0_ n1_ n2_ n3_; clear hb hbox hg) | ((with_reducible refine gate_dst (N := 3) rfl ?_); refine box_event ?hg (N := 3) ?hd (cs := #[.int .i64 a1_0, .string a1_1, .string a1_2, .slice A1_3 l1_3.length c1_3, .int .i64 a1_4, .int .i64 a1_5, .string a1_6, .string a1_7, .int .i64 a1_8, .int .i64 a1_9]) (t := 39) ?hr ?_; (case hd => rfl); (case hg => rfl); (case hr => first | (go_simp; done) | (go_simp; rfl)); intro gb189 hg w43 hbox hb; have n0_ := Aside0.mk (blk_below (g := gb188) (o := .cells #[.int .i64 a0_0, .string a0_1, .string a0_2, .slice A0_3 l0_3.length c0_3, .int .i64 a0_4, .int .i64 a0_5, .string a0_6, .string a0_7, .int .i64 a0_8, .int .i64 a0_9] 39 (0, 0)) (by (with_reducible repeat (first | refine blk_drewN ?_ _ | refine blk_drew ?_ | refine blk_alloc ?_ _)); exact BK188.out) hb); have n1_ := Aside0.mk (below_step (by repeat (first | (with_reducible first | exact HB.out | apply below_alloc | apply pw_below_drewN | apply below_drew1 | refine below_set ?_ GE188.out) | exact HB.out)) hb); have n2_ := Aside0.mk (hbox); have n3_ := Aside0.mk ((by rw [hg]; exact (below_size (by repeat (first | (with_reducible first | exact HB.out | apply below_alloc | apply pw_below_drewN | apply below_drew1 | refine below_set ?_ GE188.out) | exact HB.out))) : w.heap.size ≤ gb189)); have n4_ := Aside0.mk ((by rw [hg]; exact (below_size (by repeat (first | (with_reducible first | exact HB.out | apply below_alloc | apply pw_below_drewN | apply below_drew1 | refine below_set ?_ GE188.out) | exact HB.out))) : w.heap.size ≤ gb189)); have n5_ := Aside0.mk ((by rw [hg]; exact Nat.ne_of_lt (blk_lt (g := gb188) (o := .cells #[.int .i64 a0_0, .string a0_1, .string a0_2, .slice A0_3 l0_3.length c0_3, .int .i64 a0_4, .int .i64 a0_5, .string a0_6, .string a0_7, .int .i64 a0_8, .int .i64 a0_9] 39 (0, 0)) (by (with_reducible repeat (first | refine blk_drewN ?_ _ | refine blk_drew ?_ | refine blk_alloc ?_ _)); exact BK188.out)) : gb188 ≠ gb189)); have n6_ := Aside0.mk ((by rw [hg]; exact Nat.ne_of_gt (blk_lt (g := gb188) (o := .cells #[.int .i64 a0_0, .string a0_1, .string a0_2, .slice A0_3 l0_3.length c0_3, .int .i64 a0_4, .int .i64 a0_5, .string a0_6, .string a0_7, .int .i64 a0_8, .int .i64 a0_9] 39 (0, 0)) (by (with_reducible repeat (first | refine blk_drewN ?_ _ | refine blk_drew ?_ | refine blk_alloc ?_ _)); exact BK188.out)) : gb189 ≠ gb188)); clear BK188; clear HB; have BK188 := n0_; have HB := n1_; have BK189 := n2_; have GW189 := n3_; have GE189 := n4_; have NB188_189 := n5_; have NB189_188 := n6_; clear n0_ n1_ n2_ n3_ n4_ n5_ n6_; clear hb hbox hg; have hnb44 := NB188_189.out; have hnc44 := NB189_188.out; have hcz45_0 : w43.cell? ⟨gb188, 0, none⟩ = some (.int .i64 a0_0) := (blk_cell BK188.out 0).trans rfl; have hcz45_1 : w43.cell? ⟨gb188, 1, none⟩ = some (.string a0_1) := (blk_cell BK188.out 1).trans rfl; have hcz45_2 : w43.cell? ⟨gb188, 2, none⟩ = some (.string a0_2) := (blk_cell BK188.out 2).trans rfl; have hcz45_3 : w43.cell? ⟨gb188, 3, none⟩ = some (.slice A0_3 l0_3.length c0_3) := (blk_cell BK188.out 3).trans rfl; have hcz45_4 : w43.cell? ⟨gb188, 4, none⟩ = some (.int .i64 a0_4) := (blk_cell BK188.out 4).trans rfl; have hcz45_5 : w43.cell? ⟨gb188, 5, none⟩ = some (.int .i64 a0_5) := (blk_cell BK188.out 5).trans rfl; have hcz45_6 : w43.cell? ⟨gb188, 6, none⟩ = some (.string a0_6) := (blk_cell BK188.out 6).trans rfl; have hcz45_7 : w43.cell? ⟨gb188, 7, none⟩ = some (.string a0_7) := (blk_cell BK188.out 7).trans rfl; have hcz45_8 : w43.cell? ⟨gb188, 8, none⟩ = some (.int .i64 a0_8) := (blk_cell BK188.out 8).trans rfl; have hcz45_9 : w43.cell? ⟨gb188, 9, none⟩ = some (.int .i64 a0_9) := (blk_cell BK188.out 9).trans rfl; have hfz45_0 := blk_frozen BK188.out 0; have hfz45_1 := blk_frozen BK188.out 1; have hfz45_2 := blk_frozen BK188.out 2; have hfz45_3 := blk_frozen BK188.out 3; have hfz45_4 := blk_frozen BK188.out 4; have hfz45_5 := blk_frozen BK188.out 5; have hfz45_6 := blk_frozen BK188.out 6; have hfz45_7 := blk_frozen BK188.out 7; have hfz45_8 := blk_frozen BK188.out 8; have hfz45_9 := blk_frozen BK188.out 9; have hcz46_0 : w43.cell? ⟨gb189, 0, none⟩ = some (.int .i64 a1_0) := (blk_cell BK189.out 0).trans rfl; have hcz46_1 : w43.cell? ⟨gb189, 1, none⟩ = some (.string a1_1) := (blk_cell BK189.out 1).trans rfl; have hcz46_2 : w43.cell? ⟨gb189, 2, none⟩ = some (.string a1_2) := (blk_cell BK189.out 2).trans rfl; have hcz46_3 : w43.cell? ⟨gb189, 3, none⟩ = some (.slice A1_3 l1_3.length c1_3) := (blk_cell BK189.out 3).trans rfl; have hcz46_4 : w43.cell? ⟨gb189, 4, none⟩ = some (.int .i64 a1_4) := (blk_cell BK189.out 4).trans rfl; have hcz46_5 : w43.cell? ⟨gb189, 5, none⟩ = some (.int .i64 a1_5) := (blk_cell BK189.out 5).trans rfl; have hcz46_6 : w43.cell? ⟨gb189, 6, none⟩ = some (.string a1_6) := (blk_cell BK189.out 6).trans rfl; have hcz46_7 : w43.cell? ⟨gb189, 7, none⟩ = some (.string a1_7) := (blk_cell BK189.out 7).trans rfl; have hcz46_8 : w43.cell? ⟨gb189, 8, none⟩ = some (.int .i64 a1_8) := (blk_cell BK189.out 8).trans rfl; have hcz46_9 : w43.cell? ⟨gb189, 9, none⟩ = some (.int .i64 a1_9) := (blk_cell BK189.out 9).trans rfl; have hfz46_0 := blk_frozen BK189.out 0; have hfz46_1 := blk_frozen BK189.out 1; have hfz46_2 := blk_frozen BK189.out 2; have hfz46_3 := blk_frozen BK189.out 3; have hfz46_4 := blk_frozen BK189.out 4; have hfz46_5 := blk_frozen BK189.out 5; have hfz46_6 := blk_frozen BK189.out 6; have hfz46_7 := blk_frozen BK189.out 7; have hfz46_8 := blk_frozen BK189.out 8; have hfz46_9 := blk_frozen BK189.out 9))
      go_ret
      exact ⟨by first | rfl | (simp [errW_none, errW_some] <;> rfl) | (simp [*, errW_none, errW_some] <;> rfl), by repeat (first | (with_reducible first | exact HB.out | apply below_alloc | apply pw_below_drewN | apply below_drew1 | refine below_set ?_ GE188.out | refine below_set ?_ GE189.out) | exact HB.out)⟩
  · rw [if_neg c3] at H
    have c3b0 : (a0_0 == a1_0) = false := beq_eq_false_iff_ne.mpr c3
    have c3b1 : (a0_0 != a1_0) = true := bne_iff_ne.mpr c3
    obtain rfl := Option.some.inj H
    go_enter Tryd.func15, Tryd.ntmps15
    go_wp2_with (first | ((with_reducible refine gate_dst (N := 2) rfl ?_); refine box_event ?hg (N := 2) ?hd (cs := #[.int .i64 a0_0, .string a0_1, .string a0_2, .slice A0_3 l0_3.length c0_3, .int .i64 a0_4, .int .i64 a0_5, .string a0_6, .string a0_7, .int .i64 a0_8, .int .i64 a0_9]) (t := 39) ?hr ?_; (case hd => rfl); (case hg => rfl); (case hr => first | (go_simp; done) | (go_simp; rfl)); intro gb188 hg w47 hbox hb; have n0_ := Aside0.mk (below_step (by repeat (first | (with_reducible first | exact HB.out | apply below_alloc | apply pw_below_drewN | apply below_drew1) | exact HB.out)) hb); have n1_ := Aside0.mk (hbox); have n2_ := Aside0.mk ((by rw [hg]; exact (below_size (by repeat (first | (with_reducible first | exact HB.out | apply below_alloc | apply pw_below_drewN | apply below_drew1) | exact HB.out))) : w.heap.size ≤ gb188)); have n3_ := Aside0.mk ((by rw [hg]; exact (below_size (by repeat (first | (with_reducible first | exact HB.out | apply below_alloc | apply pw_below_drewN | apply below_drew1) | exact HB.out))) : w.heap.size ≤ gb188)); clear HB; have HB := n0_; have BK188 := n1_; have GW188 := n2_; have GE188 := n3_; clear n0_ n1_ n2_ n3_; clear hb hbox hg) | ((with_reducible refine gate_dst (N := 3) rfl ?_); refine box_event ?hg (N := 3) ?hd (cs := #[.int .i64 a1_0, .string a1_1, .string a1_2, .slice A1_3 l1_3.length c1_3, .int .i64 a1_4, .int .i64 a1_5, .string a1_6, .string a1_7, .int .i64 a1_8, .int .i64 a1_9]) (t := 39) ?hr ?_; (case hd => rfl); (case hg => rfl); (case hr => first | (go_simp; done) | (go_simp; rfl)); intro gb189 hg w48 hbox hb; have n0_ := Aside0.mk (blk_below (g := gb188) (o := .cells #[.int .i64 a0_0, .string a0_1, .string a0_2, .slice A0_3 l0_3.length c0_3, .int .i64 a0_4, .int .i64 a0_5, .string a0_6, .string a0_7, .int .i64 a0_8, .int .i64 a0_9] 39 (0, 0)) (by (with_reducible repeat (first | refine blk_drewN ?_ _ | refine blk_drew ?_ | refine blk_alloc ?_ _)); exact BK188.out) hb); have n1_ := Aside0.mk (below_step (by repeat (first | (with_reducible first | exact HB.out | apply below_alloc | apply pw_below_drewN | apply below_drew1 | refine below_set ?_ GE188.out) | exact HB.out)) hb); have n2_ := Aside0.mk (hbox); have n3_ := Aside0.mk ((by rw [hg]; exact (below_size (by repeat (first | (with_reducible first | exact HB.out | apply below_alloc | apply pw_below_drewN | apply below_drew1 | refine below_set ?_ GE188.out) | exact HB.out))) : w.heap.size ≤ gb189)); have n4_ := Aside0.mk ((by rw [hg]; exact (below_size (by repeat (first | (with_reducible first | exact HB.out | apply below_alloc | apply pw_below_drewN | apply below_drew1 | refine below_set ?_ GE188.out) | exact HB.out))) : w.heap.size ≤ gb189)); have n5_ := Aside0.mk ((by rw [hg]; exact Nat.ne_of_lt (blk_lt (g := gb188) (o := .cells #[.int .i64 a0_0, .string a0_1, .string a0_2, .slice A0_3 l0_3.length c0_3, .int .i64 a0_4, .int .i64 a0_5, .string a0_6, .string a0_7, .int .i64 a0_8, .int .i64 a0_9] 39 (0, 0)) (by (with_reducible repeat (first | refine blk_drewN ?_ _ | refine blk_drew ?_ | refine blk_alloc ?_ _)); exact BK188.out)) : gb188 ≠ gb189)); have n6_ := Aside0.mk ((by rw [hg]; exact Nat.ne_of_gt (blk_lt (g := gb188) (o := .cells #[.int .i64 a0_0, .string a0_1, .string a0_2, .slice A0_3 l0_3.length c0_3, .int .i64 a0_4, .int .i64 a0_5, .string a0_6, .string a0_7, .int .i64 a0_8, .int .i64 a0_9] 39 (0, 0)) (by (with_reducible repeat (first | refine blk_drewN ?_ _ | refine blk_drew ?_ | refine blk_alloc ?_ _)); exact BK188.out)) : gb189 ≠ gb188)); clear BK188; clear HB; have BK188 := n0_; have HB := n1_; have BK189 := n2_; have GW189 := n3_; have GE189 := n4_; have NB188_189 := n5_; have NB189_188 := n6_; clear n0_ n1_ n2_ n3_ n4_ n5_ n6_; clear hb hbox hg; have hnb49 := NB188_189.out; have hnc49 := NB189_188.out; have hcz50_0 : w48.cell? ⟨gb188, 0, none⟩ = some (.int .i64 a0_0) := (blk_cell BK188.out 0).trans rfl; have hcz50_1 : w48.cell? ⟨gb188, 1, none⟩ = some (.string a0_1) := (blk_cell BK188.out 1).trans rfl; have hcz50_2 : w48.cell? ⟨gb188, 2, none⟩ = some (.string a0_2) := (blk_cell BK188.out 2).trans rfl; have hcz50_3 : w48.cell? ⟨gb188, 3, none⟩ = some (.slice A0_3 l0_3.length c0_3) := (blk_cell BK188.out 3).trans rfl; have hcz50_4 : w48.cell? ⟨gb188, 4, none⟩ = some (.int .i64 a0_4) := (blk_cell BK188.out 4).trans rfl; have hcz50_5 : w48.cell? ⟨gb188, 5, none⟩ = some (.int .i64 a0_5) := (blk_cell BK188.out 5).trans rfl; have hcz50_6 : w48.cell? ⟨gb188, 6, none⟩ = some (.string a0_6) := (blk_cell BK188.out 6).trans rfl; have hcz50_7 : w48.cell? ⟨gb188, 7, none⟩ = some (.string a0_7) := (blk_cell BK188.out 7).trans rfl; have hcz50_8 : w48.cell? ⟨gb188, 8, none⟩ = some (.int .i64 a0_8) := (blk_cell BK188.out 8).trans rfl; have hcz50_9 : w48.cell? ⟨gb188, 9, none⟩ = some (.int .i64 a0_9) := (blk_cell BK188.out 9).trans rfl; have hfz50_0 := blk_frozen BK188.out 0; have hfz50_1 := blk_frozen BK188.out 1; have hfz50_2 := blk_frozen BK188.out 2; have hfz50_3 := blk_frozen BK188.out 3; have hfz50_4 := blk_frozen BK188.out 4; have hfz50_5 := blk_frozen BK188.out 5; have hfz50_6 := blk_frozen BK188.out 6; have hfz50_7 := blk_frozen BK188.out 7; have hfz50_8 := blk_frozen BK188.out 8; have hfz50_9 := blk_frozen BK188.out 9; have hcz51_0 : w48.cell? ⟨gb189, 0, none⟩ = some (.int .i64 a1_0) := (blk_cell BK189.out 0).trans rfl; have hcz51_1 : w48.cell? ⟨gb189, 1, none⟩ = some (.string a1_1) := (blk_cell BK189.out 1).trans rfl; have hcz51_2 : w48.cell? ⟨gb189, 2, none⟩ = some (.string a1_2) := (blk_cell BK189.out 2).trans rfl; have hcz51_3 : w48.cell? ⟨gb189, 3, none⟩ = some (.slice A1_3 l1_3.length c1_3) := (blk_cell BK189.out 3).trans rfl; have hcz51_4 : w48.cell? ⟨gb189, 4, none⟩ = some (.int .i64 a1_4) := (blk_cell BK189.out 4).trans rfl; have hcz51_5 : w48.cell? ⟨gb189, 5, none⟩ = some (.int .i64 a1_5) := (blk_cell BK189.out 5).trans rfl; have hcz51_6 : w48.cell? ⟨gb189, 6, none⟩ = some (.string a1_6) := (blk_cell BK189.out 6).trans rfl; have hcz51_7 : w48.cell? ⟨gb189, 7, none⟩ = some (.string a1_7) := (blk_cell BK189.out 7).trans rfl; have hcz51_8 : w48.cell? ⟨gb189, 8, none⟩ = some (.int .i64 a1_8) := (blk_cell BK189.out 8).trans rfl; have hcz51_9 : w48.cell? ⟨gb189, 9, none⟩ = some (.int .i64 a1_9) := (blk_cell BK189.out 9).trans rfl; have hfz51_0 := blk_frozen BK189.out 0; have hfz51_1 := blk_frozen BK189.out 1; have hfz51_2 := blk_frozen BK189.out 2; have hfz51_3 := blk_frozen BK189.out 3; have hfz51_4 := blk_frozen BK189.out 4; have hfz51_5 := blk_frozen BK189.out 5; have hfz51_6 := blk_frozen BK189.out 6; have hfz51_7 := blk_frozen BK189.out 7; have hfz51_8 := blk_frozen BK189.out 8; have hfz51_9 := blk_frozen BK189.out 9))
    go_ret
    exact ⟨by first | rfl | (simp [errW_none, errW_some] <;> rfl) | (simp [*, errW_none, errW_some] <;> rfl), by repeat (first | (with_reducible first | exact HB.out | apply below_alloc | apply pw_below_drewN | apply below_drew1 | refine below_set ?_ GE188.out | refine below_set ?_ GE189.out) | exact HB.out)⟩

end Go.Proofs.YtghllfihmmlcnaaDoor.PScriptPrints
