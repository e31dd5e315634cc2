/- Printed by the kit's print.sh for ScriptPrints (its text x5), one step of number mended by hand: the reference's Verb, number, Path. -/
import Derived.Test.YtghllfihmmlcnaaDoorPScriptPrintsx0
namespace Go.Proofs.YtghllfihmmlcnaaDoor.PScriptPrints
open Go.RowKit Go.Proofs.YtghllfihmmlcnaaDoorW.PrintWords Go.Proofs.YtghllfihmmlcnaaDoorW.PrintLast Go.Proofs.YtghllfihmmlcnaaDoorW.PrintMore
attribute [local go_sem] max2_int min2_int max_two min_two max_three min_three max_four min_four   -- for this text's walks alone
set_option linter.unusedVariables false
set_option linter.unusedSimpArgs false

/-! ### strongboxref23_Verb: function 17 -/
def strongboxref23_Verb.f (a0 : Int) : Option (ByteArray × ByteArray) := if a0 = 1 then (some ((⟨#[109, 97, 107, 101]⟩ : ByteArray), (⟨#[98]⟩ : ByteArray))) else (if a0 = 2 then (some ((⟨#[114, 101, 109, 111, 118, 101]⟩ : ByteArray), (⟨#[98]⟩ : ByteArray))) else (if a0 = 3 then (some ((⟨#[98, 117, 99, 107, 101, 116, 115]⟩ : ByteArray), (⟨#[]⟩ : ByteArray))) else (if a0 = 4 then (some ((⟨#[112, 117, 116]⟩ : ByteArray), (⟨#[98, 107, 100]⟩ : ByteArray))) else (if a0 = 5 then (some ((⟨#[103, 101, 116]⟩ : ByteArray), (⟨#[98, 107, 110]⟩ : ByteArray))) else (if a0 = 6 then (some ((⟨#[104, 101, 97, 100]⟩ : ByteArray), (⟨#[98, 107, 110]⟩ : ByteArray))) else (if a0 = 7 then (some ((⟨#[100, 101, 108, 101, 116, 101]⟩ : ByteArray), (⟨#[98, 107]⟩ : ByteArray))) else (if a0 = 8 then (some ((⟨#[101, 114, 97, 115, 101]⟩ : ByteArray), (⟨#[98, 107, 110]⟩ : ByteArray))) else (if a0 = 9 then (some ((⟨#[111, 98, 106, 101, 99, 116, 115]⟩ : ByteArray), (⟨#[98, 112, 102, 109]⟩ : ByteArray))) else (if a0 = 10 then (some ((⟨#[118, 101, 114, 115, 105, 111, 110, 115]⟩ : ByteArray), (⟨#[98, 112, 102, 105, 109]⟩ : ByteArray))) else (if a0 = 11 then (some ((⟨#[104, 101, 97, 108]⟩ : ByteArray), (⟨#[]⟩ : ByteArray))) else (if a0 = 12 then (some ((⟨#[111, 102, 102, 108, 105, 110, 101]⟩ : ByteArray), (⟨#[110]⟩ : ByteArray))) else (if a0 = 13 then (some ((⟨#[111, 110, 108, 105, 110, 101]⟩ : ByteArray), (⟨#[110]⟩ : ByteArray))) else (if a0 = 14 then (some ((⟨#[119, 105, 112, 101]⟩ : ByteArray), (⟨#[110]⟩ : ByteArray))) else (if a0 = 15 then (some ((⟨#[102, 108, 105, 112]⟩ : ByteArray), (⟨#[110, 97, 100]⟩ : ByteArray))) else (if a0 = 16 then (some ((⟨#[102, 97, 105, 108]⟩ : ByteArray), (⟨#[110, 97]⟩ : ByteArray))) else (if a0 = 17 then (some ((⟨#[102, 117, 115, 101]⟩ : ByteArray), (⟨#[110]⟩ : ByteArray))) else (if a0 = 18 then (some ((⟨#[99, 114, 97, 115, 104]⟩ : ByteArray), (⟨#[97]⟩ : ByteArray))) else (if a0 = 19 then (some ((⟨#[115, 116, 97, 114, 116]⟩ : ByteArray), (⟨#[]⟩ : ByteArray))) else (some ((⟨#[]⟩ : ByteArray), (⟨#[]⟩ : ByteArray)))))))))))))))))))))
set_option maxHeartbeats 8000000 in
set_option maxRecDepth 100000 in
theorem strongboxref23_Verb.calls (a0 : Int) (r1 : ByteArray) (r2 : ByteArray) (w : World) (h : strongboxref23_Verb.f a0 = some (r1, r2)) :
    Calls Tryd.prog 17 #[.int .i64 a0] w fun e w' => e = .returned (.tuple #[.string r1, .string r2]) ∧ Drawn0 w w' := by
  have H : (if a0 = 1 then (some ((⟨#[109, 97, 107, 101]⟩ : ByteArray), (⟨#[98]⟩ : ByteArray))) else (if a0 = 2 then (some ((⟨#[114, 101, 109, 111, 118, 101]⟩ : ByteArray), (⟨#[98]⟩ : ByteArray))) else (if a0 = 3 then (some ((⟨#[98, 117, 99, 107, 101, 116, 115]⟩ : ByteArray), (⟨#[]⟩ : ByteArray))) else (if a0 = 4 then (some ((⟨#[112, 117, 116]⟩ : ByteArray), (⟨#[98, 107, 100]⟩ : ByteArray))) else (if a0 = 5 then (some ((⟨#[103, 101, 116]⟩ : ByteArray), (⟨#[98, 107, 110]⟩ : ByteArray))) else (if a0 = 6 then (some ((⟨#[104, 101, 97, 100]⟩ : ByteArray), (⟨#[98, 107, 110]⟩ : ByteArray))) else (if a0 = 7 then (some ((⟨#[100, 101, 108, 101, 116, 101]⟩ : ByteArray), (⟨#[98, 107]⟩ : ByteArray))) else (if a0 = 8 then (some ((⟨#[101, 114, 97, 115, 101]⟩ : ByteArray), (⟨#[98, 107, 110]⟩ : ByteArray))) else (if a0 = 9 then (some ((⟨#[111, 98, 106, 101, 99, 116, 115]⟩ : ByteArray), (⟨#[98, 112, 102, 109]⟩ : ByteArray))) else (if a0 = 10 then (some ((⟨#[118, 101, 114, 115, 105, 111, 110, 115]⟩ : ByteArray), (⟨#[98, 112, 102, 105, 109]⟩ : ByteArray))) else (if a0 = 11 then (some ((⟨#[104, 101, 97, 108]⟩ : ByteArray), (⟨#[]⟩ : ByteArray))) else (if a0 = 12 then (some ((⟨#[111, 102, 102, 108, 105, 110, 101]⟩ : ByteArray), (⟨#[110]⟩ : ByteArray))) else (if a0 = 13 then (some ((⟨#[111, 110, 108, 105, 110, 101]⟩ : ByteArray), (⟨#[110]⟩ : ByteArray))) else (if a0 = 14 then (some ((⟨#[119, 105, 112, 101]⟩ : ByteArray), (⟨#[110]⟩ : ByteArray))) else (if a0 = 15 then (some ((⟨#[102, 108, 105, 112]⟩ : ByteArray), (⟨#[110, 97, 100]⟩ : ByteArray))) else (if a0 = 16 then (some ((⟨#[102, 97, 105, 108]⟩ : ByteArray), (⟨#[110, 97]⟩ : ByteArray))) else (if a0 = 17 then (some ((⟨#[102, 117, 115, 101]⟩ : ByteArray), (⟨#[110]⟩ : ByteArray))) else (if a0 = 18 then (some ((⟨#[99, 114, 97, 115, 104]⟩ : ByteArray), (⟨#[97]⟩ : ByteArray))) else (if a0 = 19 then (some ((⟨#[115, 116, 97, 114, 116]⟩ : ByteArray), (⟨#[]⟩ : ByteArray))) else (some ((⟨#[]⟩ : ByteArray), (⟨#[]⟩ : ByteArray)))))))))))))))))))))) = some (r1, r2) := h
  clear h
  by_cases c2 : a0 = 1
  · rw [if_pos c2] at H
    have c2b0 : (a0 == 1) = true := beq_iff_eq.mpr c2
    have c2b1 : (a0 != 1) = false := bne_eq_false_iff_eq.mpr c2
    clear c2
    simp only [Option.some.injEq, Prod.mk.injEq] at H
    obtain ⟨rfl, rfl⟩ := H
    go_enter Tryd.func17, Tryd.ntmps17
    go_wp2
    go_ret2
    exact ⟨by first | rfl | (simp; done) | (simp [*]; done), by repeat (first | exact Drawn0.refl _ | apply Drawn0.step)⟩
  · rw [if_neg c2] at H
    have c2b0 : (a0 == 1) = false := beq_eq_false_iff_ne.mpr c2
    have c2b1 : (a0 != 1) = true := bne_iff_ne.mpr c2
    by_cases c3 : a0 = 2
    · rw [if_pos c3] at H
      have c3b0 : (a0 == 2) = true := beq_iff_eq.mpr c3
      have c3b1 : (a0 != 2) = false := bne_eq_false_iff_eq.mpr c3
      clear c3
      simp only [Option.some.injEq, Prod.mk.injEq] at H
      obtain ⟨rfl, rfl⟩ := H
      go_enter Tryd.func17, Tryd.ntmps17
      go_wp2
      go_ret2
      exact ⟨by first | rfl | (simp; done) | (simp [*]; done), by repeat (first | exact Drawn0.refl _ | apply Drawn0.step)⟩
    · rw [if_neg c3] at H
      have c3b0 : (a0 == 2) = false := beq_eq_false_iff_ne.mpr c3
      have c3b1 : (a0 != 2) = true := bne_iff_ne.mpr c3
      by_cases c4 : a0 = 3
      · rw [if_pos c4] at H
        have c4b0 : (a0 == 3) = true := beq_iff_eq.mpr c4
        have c4b1 : (a0 != 3) = false := bne_eq_false_iff_eq.mpr c4
        clear c4
        simp only [Option.some.injEq, Prod.mk.injEq] at H
        obtain ⟨rfl, rfl⟩ := H
        go_enter Tryd.func17, Tryd.ntmps17
        go_wp2
        go_ret2
        exact ⟨by first | rfl | (simp; done) | (simp [*]; done), by repeat (first | exact Drawn0.refl _ | apply Drawn0.step)⟩
      · rw [if_neg c4] at H
        have c4b0 : (a0 == 3) = false := beq_eq_false_iff_ne.mpr c4
        have c4b1 : (a0 != 3) = true := bne_iff_ne.mpr c4
        by_cases c5 : a0 = 4
        · rw [if_pos c5] at H
          have c5b0 : (a0 == 4) = true := beq_iff_eq.mpr c5
          have c5b1 : (a0 != 4) = false := bne_eq_false_iff_eq.mpr c5
          clear c5
          simp only [Option.some.injEq, Prod.mk.injEq] at H
          obtain ⟨rfl, rfl⟩ := H
          go_enter Tryd.func17, Tryd.ntmps17
          go_wp2
          go_ret2
          exact ⟨by first | rfl | (simp; done) | (simp [*]; done), by repeat (first | exact Drawn0.refl _ | apply Drawn0.step)⟩
        · rw [if_neg c5] at H
          have c5b0 : (a0 == 4) = false := beq_eq_false_iff_ne.mpr c5
          have c5b1 : (a0 != 4) = true := bne_iff_ne.mpr c5
          by_cases c6 : a0 = 5
          · rw [if_pos c6] at H
            have c6b0 : (a0 == 5) = true := beq_iff_eq.mpr c6
            have c6b1 : (a0 != 5) = false := bne_eq_false_iff_eq.mpr c6
            clear c6
            simp only [Option.some.injEq, Prod.mk.injEq] at H
            obtain ⟨rfl, rfl⟩ := H
            go_enter Tryd.func17, Tryd.ntmps17
            go_wp2
            go_ret2
            exact ⟨by first | rfl | (simp; done) | (simp [*]; done), by repeat (first | exact Drawn0.refl _ | apply Drawn0.step)⟩
          · rw [if_neg c6] at H
            have c6b0 : (a0 == 5) = false := beq_eq_false_iff_ne.mpr c6
            have c6b1 : (a0 != 5) = true := bne_iff_ne.mpr c6
            by_cases c7 : a0 = 6
            · rw [if_pos c7] at H
              have c7b0 : (a0 == 6) = true := beq_iff_eq.mpr c7
              have c7b1 : (a0 != 6) = false := bne_eq_false_iff_eq.mpr c7
              clear c7
              simp only [Option.some.injEq, Prod.mk.injEq] at H
              obtain ⟨rfl, rfl⟩ := H
              go_enter Tryd.func17, Tryd.ntmps17
              go_wp2
              go_ret2
              exact ⟨by first | rfl | (simp; done) | (simp [*]; done), by repeat (first | exact Drawn0.refl _ | apply Drawn0.step)⟩
            · rw [if_neg c7] at H
              have c7b0 : (a0 == 6) = false := beq_eq_false_iff_ne.mpr c7
              have c7b1 : (a0 != 6) = true := bne_iff_ne.mpr c7
              by_cases c8 : a0 = 7
              · rw [if_pos c8] at H
                have c8b0 : (a0 == 7) = true := beq_iff_eq.mpr c8
                have c8b1 : (a0 != 7) = false := bne_eq_false_iff_eq.mpr c8
                clear c8
                simp only [Option.some.injEq, Prod.mk.injEq] at H
                obtain ⟨rfl, rfl⟩ := H
                go_enter Tryd.func17, Tryd.ntmps17
                go_wp2
                go_ret2
                exact ⟨by first | rfl | (simp; done) | (simp [*]; done), by repeat (first | exact Drawn0.refl _ | apply Drawn0.step)⟩
              · rw [if_neg c8] at H
                have c8b0 : (a0 == 7) = false := beq_eq_false_iff_ne.mpr c8
                have c8b1 : (a0 != 7) = true := bne_iff_ne.mpr c8
                by_cases c9 : a0 = 8
                · rw [if_pos c9] at H
                  have c9b0 : (a0 == 8) = true := beq_iff_eq.mpr c9
                  have c9b1 : (a0 != 8) = false := bne_eq_false_iff_eq.mpr c9
                  clear c9
                  simp only [Option.some.injEq, Prod.mk.injEq] at H
                  obtain ⟨rfl, rfl⟩ := H
                  go_enter Tryd.func17, Tryd.ntmps17
                  go_wp2
                  go_ret2
                  exact ⟨by first | rfl | (simp; done) | (simp [*]; done), by repeat (first | exact Drawn0.refl _ | apply Drawn0.step)⟩
                · rw [if_neg c9] at H
                  have c9b0 : (a0 == 8) = false := beq_eq_false_iff_ne.mpr c9
                  have c9b1 : (a0 != 8) = true := bne_iff_ne.mpr c9
                  by_cases c10 : a0 = 9
                  · rw [if_pos c10] at H
                    have c10b0 : (a0 == 9) = true := beq_iff_eq.mpr c10
                    have c10b1 : (a0 != 9) = false := bne_eq_false_iff_eq.mpr c10
                    clear c10
                    simp only [Option.some.injEq, Prod.mk.injEq] at H
                    obtain ⟨rfl, rfl⟩ := H
                    go_enter Tryd.func17, Tryd.ntmps17
                    go_wp2
                    go_ret2
                    exact ⟨by first | rfl | (simp; done) | (simp [*]; done), by repeat (first | exact Drawn0.refl _ | apply Drawn0.step)⟩
                  · rw [if_neg c10] at H
                    have c10b0 : (a0 == 9) = false := beq_eq_false_iff_ne.mpr c10
                    have c10b1 : (a0 != 9) = true := bne_iff_ne.mpr c10
                    by_cases c11 : a0 = 10
                    · rw [if_pos c11] at H
                      have c11b0 : (a0 == 10) = true := beq_iff_eq.mpr c11
                      have c11b1 : (a0 != 10) = false := bne_eq_false_iff_eq.mpr c11
                      clear c11
                      simp only [Option.some.injEq, Prod.mk.injEq] at H
                      obtain ⟨rfl, rfl⟩ := H
                      go_enter Tryd.func17, Tryd.ntmps17
                      go_wp2
                      go_ret2
                      exact ⟨by first | rfl | (simp; done) | (simp [*]; done), by repeat (first | exact Drawn0.refl _ | apply Drawn0.step)⟩
                    · rw [if_neg c11] at H
                      have c11b0 : (a0 == 10) = false := beq_eq_false_iff_ne.mpr c11
                      have c11b1 : (a0 != 10) = true := bne_iff_ne.mpr c11
                      by_cases c12 : a0 = 11
                      · rw [if_pos c12] at H
                        have c12b0 : (a0 == 11) = true := beq_iff_eq.mpr c12
                        have c12b1 : (a0 != 11) = false := bne_eq_false_iff_eq.mpr c12
                        clear c12
                        simp only [Option.some.injEq, Prod.mk.injEq] at H
                        obtain ⟨rfl, rfl⟩ := H
                        go_enter Tryd.func17, Tryd.ntmps17
                        go_wp2
                        go_ret2
                        exact ⟨by first | rfl | (simp; done) | (simp [*]; done), by repeat (first | exact Drawn0.refl _ | apply Drawn0.step)⟩
                      · rw [if_neg c12] at H
                        have c12b0 : (a0 == 11) = false := beq_eq_false_iff_ne.mpr c12
                        have c12b1 : (a0 != 11) = true := bne_iff_ne.mpr c12
                        by_cases c13 : a0 = 12
                        · rw [if_pos c13] at H
                          have c13b0 : (a0 == 12) = true := beq_iff_eq.mpr c13
                          have c13b1 : (a0 != 12) = false := bne_eq_false_iff_eq.mpr c13
                          clear c13
                          simp only [Option.some.injEq, Prod.mk.injEq] at H
                          obtain ⟨rfl, rfl⟩ := H
                          go_enter Tryd.func17, Tryd.ntmps17
                          go_wp2
                          go_ret2
                          exact ⟨by first | rfl | (simp; done) | (simp [*]; done), by repeat (first | exact Drawn0.refl _ | apply Drawn0.step)⟩
                        · rw [if_neg c13] at H
                          have c13b0 : (a0 == 12) = false := beq_eq_false_iff_ne.mpr c13
                          have c13b1 : (a0 != 12) = true := bne_iff_ne.mpr c13
                          by_cases c14 : a0 = 13
                          · rw [if_pos c14] at H
                            have c14b0 : (a0 == 13) = true := beq_iff_eq.mpr c14
                            have c14b1 : (a0 != 13) = false := bne_eq_false_iff_eq.mpr c14
                            clear c14
                            simp only [Option.some.injEq, Prod.mk.injEq] at H
                            obtain ⟨rfl, rfl⟩ := H
                            go_enter Tryd.func17, Tryd.ntmps17
                            go_wp2
                            go_ret2
                            exact ⟨by first | rfl | (simp; done) | (simp [*]; done), by repeat (first | exact Drawn0.refl _ | apply Drawn0.step)⟩
                          · rw [if_neg c14] at H
                            have c14b0 : (a0 == 13) = false := beq_eq_false_iff_ne.mpr c14
                            have c14b1 : (a0 != 13) = true := bne_iff_ne.mpr c14
                            by_cases c15 : a0 = 14
                            · rw [if_pos c15] at H
                              have c15b0 : (a0 == 14) = true := beq_iff_eq.mpr c15
                              have c15b1 : (a0 != 14) = false := bne_eq_false_iff_eq.mpr c15
                              clear c15
                              simp only [Option.some.injEq, Prod.mk.injEq] at H
                              obtain ⟨rfl, rfl⟩ := H
                              go_enter Tryd.func17, Tryd.ntmps17
                              go_wp2
                              go_ret2
                              exact ⟨by first | rfl | (simp; done) | (simp [*]; done), by repeat (first | exact Drawn0.refl _ | apply Drawn0.step)⟩
                            · rw [if_neg c15] at H
                              have c15b0 : (a0 == 14) = false := beq_eq_false_iff_ne.mpr c15
                              have c15b1 : (a0 != 14) = true := bne_iff_ne.mpr c15
                              by_cases c16 : a0 = 15
                              · rw [if_pos c16] at H
                                have c16b0 : (a0 == 15) = true := beq_iff_eq.mpr c16
                                have c16b1 : (a0 != 15) = false := bne_eq_false_iff_eq.mpr c16
                                clear c16
                                simp only [Option.some.injEq, Prod.mk.injEq] at H
                                obtain ⟨rfl, rfl⟩ := H
                                go_enter Tryd.func17, Tryd.ntmps17
                                go_wp2
                                go_ret2
                                exact ⟨by first | rfl | (simp; done) | (simp [*]; done), by repeat (first | exact Drawn0.refl _ | apply Drawn0.step)⟩
                              · rw [if_neg c16] at H
                                have c16b0 : (a0 == 15) = false := beq_eq_false_iff_ne.mpr c16
                                have c16b1 : (a0 != 15) = true := bne_iff_ne.mpr c16
                                by_cases c17 : a0 = 16
                                · rw [if_pos c17] at H
                                  have c17b0 : (a0 == 16) = true := beq_iff_eq.mpr c17
                                  have c17b1 : (a0 != 16) = false := bne_eq_false_iff_eq.mpr c17
                                  clear c17
                                  simp only [Option.some.injEq, Prod.mk.injEq] at H
                                  obtain ⟨rfl, rfl⟩ := H
                                  go_enter Tryd.func17, Tryd.ntmps17
                                  go_wp2
                                  go_ret2
                                  exact ⟨by first | rfl | (simp; done) | (simp [*]; done), by repeat (first | exact Drawn0.refl _ | apply Drawn0.step)⟩
                                · rw [if_neg c17] at H
                                  have c17b0 : (a0 == 16) = false := beq_eq_false_iff_ne.mpr c17
                                  have c17b1 : (a0 != 16) = true := bne_iff_ne.mpr c17
                                  by_cases c18 : a0 = 17
                                  · rw [if_pos c18] at H
                                    have c18b0 : (a0 == 17) = true := beq_iff_eq.mpr c18
                                    have c18b1 : (a0 != 17) = false := bne_eq_false_iff_eq.mpr c18
                                    clear c18
                                    simp only [Option.some.injEq, Prod.mk.injEq] at H
                                    obtain ⟨rfl, rfl⟩ := H
                                    go_enter Tryd.func17, Tryd.ntmps17
                                    go_wp2
                                    go_ret2
                                    exact ⟨by first | rfl | (simp; done) | (simp [*]; done), by repeat (first | exact Drawn0.refl _ | apply Drawn0.step)⟩
                                  · rw [if_neg c18] at H
                                    have c18b0 : (a0 == 17) = false := beq_eq_false_iff_ne.mpr c18
                                    have c18b1 : (a0 != 17) = true := bne_iff_ne.mpr c18
                                    by_cases c19 : a0 = 18
                                    · rw [if_pos c19] at H
                                      have c19b0 : (a0 == 18) = true := beq_iff_eq.mpr c19
                                      have c19b1 : (a0 != 18) = false := bne_eq_false_iff_eq.mpr c19
                                      clear c19
                                      simp only [Option.some.injEq, Prod.mk.injEq] at H
                                      obtain ⟨rfl, rfl⟩ := H
                                      go_enter Tryd.func17, Tryd.ntmps17
                                      go_wp2
                                      go_ret2
                                      exact ⟨by first | rfl | (simp; done) | (simp [*]; done), by repeat (first | exact Drawn0.refl _ | apply Drawn0.step)⟩
                                    · rw [if_neg c19] at H
                                      have c19b0 : (a0 == 18) = false := beq_eq_false_iff_ne.mpr c19
                                      have c19b1 : (a0 != 18) = true := bne_iff_ne.mpr c19
                                      by_cases c20 : a0 = 19
                                      · rw [if_pos c20] at H
                                        have c20b0 : (a0 == 19) = true := beq_iff_eq.mpr c20
                                        have c20b1 : (a0 != 19) = false := bne_eq_false_iff_eq.mpr c20
                                        clear c20
                                        simp only [Option.some.injEq, Prod.mk.injEq] at H
                                        obtain ⟨rfl, rfl⟩ := H
                                        go_enter Tryd.func17, Tryd.ntmps17
                                        go_wp2
                                        go_ret2
                                        exact ⟨by first | rfl | (simp; done) | (simp [*]; done), by repeat (first | exact Drawn0.refl _ | apply Drawn0.step)⟩
                                      · rw [if_neg c20] at H
                                        have c20b0 : (a0 == 19) = false := beq_eq_false_iff_ne.mpr c20
                                        have c20b1 : (a0 != 19) = true := bne_iff_ne.mpr c20
                                        simp only [Option.some.injEq, Prod.mk.injEq] at H
                                        obtain ⟨rfl, rfl⟩ := H
                                        go_enter Tryd.func17, Tryd.ntmps17
                                        go_wp2
                                        go_ret2
                                        exact ⟨by first | rfl | (simp; done) | (simp [*]; done), by repeat (first | exact Drawn0.refl _ | apply Drawn0.step)⟩

/-! ### strongboxref23_number: function 23 -/
mutual
def strongboxref23_number.j0 : Nat → Int → Int → Option (ByteArray)
  | 0, _, _ => none
  | k + 1, x0, x3 => strongboxref23_number.l0 k x0 x3 (⟨#[]⟩ : ByteArray)
def strongboxref23_number.l0 : Nat → Int → Int → ByteArray → Option (ByteArray)
  | 0, _, _, _ => none
  | k + 1, x0, x3, x4 => if 0 ≤ (Int.tmod x3 10) then (if (Int.tmod x3 10) ≤ (IntKind.u64.wrap ((Int.tmod x3 10) + 1)) then (if (IntKind.u64.wrap ((Int.tmod x3 10) + 1)) ≤ 10 then (if ((⟨#[48, 49, 50, 51, 52, 53, 54, 55, 56, 57]⟩ : ByteArray).extract ((Int.tmod x3 10) : Int).toNat ((IntKind.u64.wrap ((Int.tmod x3 10) + 1)) : Int).toNat).size + x4.size ≤ 9223372036854775807 then (if (IntKind.u64.wrap (Int.tdiv x3 10)) = 0 then (if x0 < 0 then (if 1 + (((⟨#[48, 49, 50, 51, 52, 53, 54, 55, 56, 57]⟩ : ByteArray).extract ((Int.tmod x3 10) : Int).toNat ((IntKind.u64.wrap ((Int.tmod x3 10) + 1)) : Int).toNat) ++ x4).size ≤ 9223372036854775807 then (some ((⟨#[45]⟩ : ByteArray) ++ (((⟨#[48, 49, 50, 51, 52, 53, 54, 55, 56, 57]⟩ : ByteArray).extract ((Int.tmod x3 10) : Int).toNat ((IntKind.u64.wrap ((Int.tmod x3 10) + 1)) : Int).toNat) ++ x4))) else (none)) else (some (((⟨#[48, 49, 50, 51, 52, 53, 54, 55, 56, 57]⟩ : ByteArray).extract ((Int.tmod x3 10) : Int).toNat ((IntKind.u64.wrap ((Int.tmod x3 10) + 1)) : Int).toNat) ++ x4))) else (strongboxref23_number.l0 k x0 (IntKind.u64.wrap (Int.tdiv x3 10)) (((⟨#[48, 49, 50, 51, 52, 53, 54, 55, 56, 57]⟩ : ByteArray).extract ((Int.tmod x3 10) : Int).toNat ((IntKind.u64.wrap ((Int.tmod x3 10) + 1)) : Int).toNat) ++ x4))) else (none)) else (none)) else (none)) else (none)
end
def strongboxref23_number.f (k : Nat) (a0 : Int) : Option (ByteArray) := if a0 < 0 then (strongboxref23_number.j0 k a0 (IntKind.u64.wrap (-(IntKind.u64.wrap (a0))))) else (strongboxref23_number.j0 k a0 (IntKind.u64.wrap (a0)))
theorem strongboxref23_number.mono_l : ∀ k, (∀ y0 y1, LeO (strongboxref23_number.j0 k y0 y1) (strongboxref23_number.j0 (k + 1) y0 y1)) ∧ (∀ y0 y1 y2, LeO (strongboxref23_number.l0 k y0 y1 y2) (strongboxref23_number.l0 (k + 1) y0 y1 y2))
  | 0 => ⟨fun _ _ r h => by simp [strongboxref23_number.j0] at h, fun _ _ _ r h => by simp [strongboxref23_number.l0] at h⟩
  | k + 1 => by
    obtain ⟨ih0, ih1⟩ := strongboxref23_number.mono_l k
    refine ⟨?_, ?_⟩
    · intro y0 y1
      unfold strongboxref23_number.j0
      repeat' first
      | (with_reducible exact ih0 _ _)
      | (with_reducible exact ih1 _ _ _)
      | (with_reducible exact LeO.refl _)
      | (with_reducible exact LeO.none _)
      | (with_reducible refine LeO.ite ?_ ?_)
      | (with_reducible refine LeO.bind ?_ (fun _ => ?_))
      | exact ih0 _ _
      | exact ih1 _ _ _
      | exact LeO.none _
      | refine LeO.ite ?_ ?_
      | refine LeO.bind ?_ (fun _ => ?_)
    · intro y0 y1 y2
      unfold strongboxref23_number.l0
      repeat' first
      | (with_reducible exact ih0 _ _)
      | (with_reducible exact ih1 _ _ _)
      | (with_reducible exact LeO.refl _)
      | (with_reducible exact LeO.none _)
      | (with_reducible refine LeO.ite ?_ ?_)
      | (with_reducible refine LeO.bind ?_ (fun _ => ?_))
      | exact ih0 _ _
      | exact ih1 _ _ _
      | exact LeO.none _
      | refine LeO.ite ?_ ?_
      | refine LeO.bind ?_ (fun _ => ?_)
theorem strongboxref23_number.mono : ∀ a0 k, LeO (strongboxref23_number.f k a0) (strongboxref23_number.f (k + 1) a0) := by
  intro a0 k
  obtain ⟨ih0, ih1⟩ := strongboxref23_number.mono_l k
  unfold strongboxref23_number.f
  repeat' first
      | (with_reducible exact ih0 _ _)
      | (with_reducible exact ih1 _ _ _)
      | (with_reducible exact LeO.refl _)
      | (with_reducible exact LeO.none _)
      | (with_reducible refine LeO.ite ?_ ?_)
      | (with_reducible refine LeO.bind ?_ (fun _ => ?_))
      | exact ih0 _ _
      | exact ih1 _ _ _
      | exact LeO.none _
      | refine LeO.ite ?_ ?_
      | refine LeO.bind ?_ (fun _ => ?_)
set_option maxHeartbeats 8000000 in
set_option maxRecDepth 100000 in
theorem strongboxref23_number.calls (k : Nat) (a0 : Int) (r : ByteArray) (w : World) (h : strongboxref23_number.f k a0 = some r) :
    Calls Tryd.prog 23 #[.int .i64 a0] w fun e w' => e = .returned (.string r) ∧ Drawn0 w w' := by
  have H : (if a0 < 0 then (strongboxref23_number.j0 k a0 (IntKind.u64.wrap (-(IntKind.u64.wrap (a0))))) else (strongboxref23_number.j0 k a0 (IntKind.u64.wrap (a0)))) = some r := h
  clear h
  have HC2 := Aside0.mk H
  clear H
  go_enter Tryd.func23, Tryd.ntmps23
  go_upto_if 8 with (fail)
  go_cut [3] (fun v3 wc => ∃ (kq : Nat) (x3_1 : Int), v3 = .int .u64 x3_1 ∧ Aside0 (strongboxref23_number.j0 kq a0 x3_1 = some r) ∧ Aside0 (kq ≤ k) ∧ Drawn0 w wc)
  case first =>
    have H := HC2.out
    clear HC2
    by_cases c3 : a0 < 0
    · rw [if_pos c3] at H
      have c3b0 : decide (a0 < 0) = true := decide_eq_true c3
      clear c3
      (first | rw [c3b0] | (simp only [i64_w, i32_w]; rw [c3b0]) | skip)
      have H' := Aside0.mk H
      clear H
      go_wp2
      go_meet
      case rel => exact ⟨_, (IntKind.u64.wrap (-(IntKind.u64.wrap (a0)))), (by first | rfl | (simp; done) | (simp [*]; done)), H', ⟨by first | omega | exact Nat.le_refl _⟩, by repeat (first | exact Drawn0.refl _ | apply Drawn0.step)⟩
    · rw [if_neg c3] at H
      have c3b0 : decide (a0 < 0) = false := decide_eq_false c3
      clear c3
      (first | rw [c3b0] | (simp only [i64_w, i32_w]; rw [c3b0]) | skip)
      have H' := Aside0.mk H
      clear H
      go_wp2
      go_meet
      case rel => exact ⟨_, (IntKind.u64.wrap (a0)), (by first | rfl | (simp; done) | (simp [*]; done)), H', ⟨by first | omega | exact Nat.le_refl _⟩, by repeat (first | exact Drawn0.refl _ | apply Drawn0.step)⟩
  case rest =>
    clear HC2
    try clear c2
    try clear p2
    try clear c3
    try clear c3b0
    obtain ⟨kq, x3_1, rfl, HA, HJ1, ⟨mc1, rfl⟩⟩ := hcut
    cases kq with
    | zero => exact absurd HA.out (by simp [strongboxref23_number.j0])
    | succ kj1 =>
      have H := HA.out
      clear HA
      simp only [strongboxref23_number.j0] at H
      have H' := Aside0.mk H
      clear H
      go_wp2
      go_loopg [3, 4] kj1 (fun kq v3 v4 w' => ∃ (x3_2 : Int) (x4_2 : ByteArray), v3 = .int .u64 x3_2 ∧ v4 = .string x4_2 ∧ Aside0 (strongboxref23_number.l0 kq a0 x3_2 x4_2 = some r) ∧ Aside0 (kq ≤ kj1) ∧ Drawn0 w w')
      case atStart => exact ⟨(x3_1), ((⟨#[]⟩ : ByteArray)), (by first | rfl | (simp; done) | (simp [*]; done)), (by first | rfl | (simp; done) | (simp [*]; done)), H', ⟨Nat.le_refl _⟩, by repeat (first | exact Drawn0.refl _ | apply Drawn0.step)⟩
      case round =>
        clear H'
        try clear c1
        try clear c2
        try clear p2
        try clear c3
        try clear c3b0
        try clear p2
        obtain ⟨x3_2, x4_2, rfl, rfl, HA, HK2, ⟨m2, rfl⟩⟩ := hrel
        cases gk with
        | zero => exact absurd HA.out (by simp [strongboxref23_number.l0])
        | succ k2 =>
          have H := HA.out
          clear HA
          simp only [strongboxref23_number.l0] at H
          obtain ⟨ji4, hji4⟩ : ∃ j_ : Int, (Int.tmod x3_2 10) = j_ := ⟨_, rfl⟩
          replace H : (if 0 ≤ (ji4) then (if (ji4) ≤ (IntKind.u64.wrap ((ji4) + 1)) then (if (IntKind.u64.wrap ((ji4) + 1)) ≤ 10 then (if ((⟨#[48, 49, 50, 51, 52, 53, 54, 55, 56, 57]⟩ : ByteArray).extract ((ji4) : Int).toNat ((IntKind.u64.wrap ((ji4) + 1)) : Int).toNat).size + x4_2.size ≤ 9223372036854775807 then (if (IntKind.u64.wrap (Int.tdiv x3_2 10)) = 0 then (if a0 < 0 then (if 1 + (((⟨#[48, 49, 50, 51, 52, 53, 54, 55, 56, 57]⟩ : ByteArray).extract ((ji4) : Int).toNat ((IntKind.u64.wrap ((ji4) + 1)) : Int).toNat) ++ x4_2).size ≤ 9223372036854775807 then (some ((⟨#[45]⟩ : ByteArray) ++ (((⟨#[48, 49, 50, 51, 52, 53, 54, 55, 56, 57]⟩ : ByteArray).extract ((ji4) : Int).toNat ((IntKind.u64.wrap ((ji4) + 1)) : Int).toNat) ++ x4_2))) else (none)) else (some (((⟨#[48, 49, 50, 51, 52, 53, 54, 55, 56, 57]⟩ : ByteArray).extract ((ji4) : Int).toNat ((IntKind.u64.wrap ((ji4) + 1)) : Int).toNat) ++ x4_2))) else (strongboxref23_number.l0 k2 a0 (IntKind.u64.wrap (Int.tdiv x3_2 10)) (((⟨#[48, 49, 50, 51, 52, 53, 54, 55, 56, 57]⟩ : ByteArray).extract ((ji4) : Int).toNat ((IntKind.u64.wrap ((ji4) + 1)) : Int).toNat) ++ x4_2))) else (none)) else (none)) else (none)) else (none)) = some r := by first | (rw [hji4] at H; exact H) | (simp only [hji4] at H ⊢; exact H)
          by_cases c5 : 0 ≤ (ji4)
          · rw [if_pos c5] at H
            have c5b0 := eq_true c5
            have c5b1 : decide (0 ≤ (ji4)) = true := decide_eq_true c5
            clear c5
            by_cases c6 : (ji4) ≤ (IntKind.u64.wrap ((ji4) + 1))
            · rw [if_pos c6] at H
              have c6b0 := eq_true c6
              have c6b1 : decide ((ji4) ≤ (IntKind.u64.wrap ((ji4) + 1))) = true := decide_eq_true c6
              by_cases c7 : (IntKind.u64.wrap ((ji4) + 1)) ≤ 10
              · rw [if_pos c7] at H
                have c7b0 := eq_true c7
                have c7b1 : decide ((IntKind.u64.wrap ((ji4) + 1)) ≤ 10) = true := decide_eq_true c7
                by_cases c8 : ((⟨#[48, 49, 50, 51, 52, 53, 54, 55, 56, 57]⟩ : ByteArray).extract ((ji4) : Int).toNat ((IntKind.u64.wrap ((ji4) + 1)) : Int).toNat).size + x4_2.size ≤ 9223372036854775807
                · rw [if_pos c8] at H
                  have c8b0 := eq_true c8
                  have c8b1 : decide (((⟨#[48, 49, 50, 51, 52, 53, 54, 55, 56, 57]⟩ : ByteArray).extract ((ji4) : Int).toNat ((IntKind.u64.wrap ((ji4) + 1)) : Int).toNat).size + x4_2.size ≤ 9223372036854775807) = true := decide_eq_true c8
                  try have c8b2 : (9223372036854775807 < ((⟨#[48, 49, 50, 51, 52, 53, 54, 55, 56, 57]⟩ : ByteArray).extract ((ji4) : Int).toNat ((IntKind.u64.wrap ((ji4) + 1)) : Int).toNat).size + x4_2.size) = False := eq_false (Nat.not_lt.2 c8)
                  by_cases c9 : (IntKind.u64.wrap (Int.tdiv x3_2 10)) = 0
                  · rw [if_pos c9] at H
                    have c9b0 : ((IntKind.u64.wrap (Int.tdiv x3_2 10)) == 0) = true := beq_iff_eq.mpr c9
                    have c9b1 : ((IntKind.u64.wrap (Int.tdiv x3_2 10)) != 0) = false := bne_eq_false_iff_eq.mpr c9
                    clear c9
                    by_cases c10 : a0 < 0
                    · rw [if_pos c10] at H
                      have c10b0 : decide (a0 < 0) = true := decide_eq_true c10
                      clear c10
                      by_cases c11 : 1 + (((⟨#[48, 49, 50, 51, 52, 53, 54, 55, 56, 57]⟩ : ByteArray).extract ((ji4) : Int).toNat ((IntKind.u64.wrap ((ji4) + 1)) : Int).toNat) ++ x4_2).size ≤ 9223372036854775807
                      · rw [if_pos c11] at H
                        have c11b0 := eq_true c11
                        have c11b1 : decide (1 + (((⟨#[48, 49, 50, 51, 52, 53, 54, 55, 56, 57]⟩ : ByteArray).extract ((ji4) : Int).toNat ((IntKind.u64.wrap ((ji4) + 1)) : Int).toNat) ++ x4_2).size ≤ 9223372036854775807) = true := decide_eq_true c11
                        try have c11b2 : (9223372036854775807 < 1 + (((⟨#[48, 49, 50, 51, 52, 53, 54, 55, 56, 57]⟩ : ByteArray).extract ((ji4) : Int).toNat ((IntKind.u64.wrap ((ji4) + 1)) : Int).toNat) ++ x4_2).size) = False := eq_false (Nat.not_lt.2 c11)
                        obtain rfl := Option.some.inj H
                        have c11d : ¬ 9223372036854775807 < 1 + ((IntKind.u64.wrap (ji4 + 1)).toNat - ji4.toNat + x4_2.size) := by
                          rw [ByteArray.size_append, ByteArray.size_extract] at c11
                          have e10 : (⟨#[48, 49, 50, 51, 52, 53, 54, 55, 56, 57]⟩ : ByteArray).size = 10 := rfl
                          omega
                        go_wp2
                        all_goals try (exact absurd (by assumption) c11d)
                        go_ret
                        exact ⟨by first | rfl | (simp; done) | (simp only [← hji4] <;> (first | rfl | simp)) | (simp [*]; done), by repeat (first | exact Drawn0.refl _ | apply Drawn0.step)⟩
                      · rw [if_neg c11] at H
                        exact absurd H (by simp)
                    · rw [if_neg c10] at H
                      have c10b0 : decide (a0 < 0) = false := decide_eq_false c10
                      clear c10
                      obtain rfl := Option.some.inj H
                      go_wp2
                      go_ret
                      exact ⟨by first | rfl | (simp; done) | (simp only [← hji4] <;> (first | rfl | simp)) | (simp [*]; done), by repeat (first | exact Drawn0.refl _ | apply Drawn0.step)⟩
                  · rw [if_neg c9] at H
                    have c9b0 : ((IntKind.u64.wrap (Int.tdiv x3_2 10)) == 0) = false := beq_eq_false_iff_ne.mpr c9
                    have c9b1 : ((IntKind.u64.wrap (Int.tdiv x3_2 10)) != 0) = true := bne_iff_ne.mpr c9
                    have H' := Aside0.mk H
                    clear H
                    go_wp2
                    go_roundg k2
                    case measure => have := HJ1.out; have := HK2.out; omega
                    case rel => exact ⟨(IntKind.u64.wrap (Int.tdiv x3_2 10)), (((⟨#[48, 49, 50, 51, 52, 53, 54, 55, 56, 57]⟩ : ByteArray).extract ((ji4) : Int).toNat ((IntKind.u64.wrap ((ji4) + 1)) : Int).toNat) ++ x4_2), (by first | rfl | (simp; done) | (simp [*]; done)), (by first | rfl | (simp; done) | (simp only [← hji4] <;> (first | rfl | simp)) | (simp [*]; done)), H', ⟨by have := HJ1.out; have := HK2.out; omega⟩, by repeat (first | exact Drawn0.refl _ | apply Drawn0.step)⟩
                · rw [if_neg c8] at H
                  exact absurd H (by simp)
              · rw [if_neg c7] at H
                exact absurd H (by simp)
            · rw [if_neg c6] at H
              exact absurd H (by simp)
          · rw [if_neg c5] at H
            exact absurd H (by simp)

/-! ### strongboxref4_Path: function 44 -/
def strongboxref4_Path.l0 : Nat → ByteArray → ByteArray → Int → Option (ByteArray)
  | 0, _, _, _ => none
  | k + 1, x0, x3, x4 => if x4 < (x0.size : Int) then (if 0 ≤ x4 then (if 0 ≤ ((bt x0 x4) / 16) then (if ((bt x0 x4) / 16) ≤ ((((bt x0 x4) / 16) + 1) % 256) then (if ((((bt x0 x4) / 16) + 1) % 256) ≤ 16 then (if x3.size + ((⟨#[48, 49, 50, 51, 52, 53, 54, 55, 56, 57, 97, 98, 99, 100, 101, 102]⟩ : ByteArray).extract (((bt x0 x4) / 16) : Int).toNat (((((bt x0 x4) / 16) + 1) % 256) : Int).toNat).size ≤ 9223372036854775807 then (if 0 ≤ (Go.bits .and .u8 (bt x0 x4) 15) then (if (Go.bits .and .u8 (bt x0 x4) 15) ≤ (((Go.bits .and .u8 (bt x0 x4) 15) + 1) % 256) then (if (((Go.bits .and .u8 (bt x0 x4) 15) + 1) % 256) ≤ 16 then (if (x3 ++ ((⟨#[48, 49, 50, 51, 52, 53, 54, 55, 56, 57, 97, 98, 99, 100, 101, 102]⟩ : ByteArray).extract (((bt x0 x4) / 16) : Int).toNat (((((bt x0 x4) / 16) + 1) % 256) : Int).toNat)).size + ((⟨#[48, 49, 50, 51, 52, 53, 54, 55, 56, 57, 97, 98, 99, 100, 101, 102]⟩ : ByteArray).extract ((Go.bits .and .u8 (bt x0 x4) 15) : Int).toNat ((((Go.bits .and .u8 (bt x0 x4) 15) + 1) % 256) : Int).toNat).size ≤ 9223372036854775807 then (strongboxref4_Path.l0 k x0 ((x3 ++ ((⟨#[48, 49, 50, 51, 52, 53, 54, 55, 56, 57, 97, 98, 99, 100, 101, 102]⟩ : ByteArray).extract (((bt x0 x4) / 16) : Int).toNat (((((bt x0 x4) / 16) + 1) % 256) : Int).toNat)) ++ ((⟨#[48, 49, 50, 51, 52, 53, 54, 55, 56, 57, 97, 98, 99, 100, 101, 102]⟩ : ByteArray).extract ((Go.bits .and .u8 (bt x0 x4) 15) : Int).toNat ((((Go.bits .and .u8 (bt x0 x4) 15) + 1) % 256) : Int).toNat)) (wrap64 (x4 + 1))) else (none)) else (none)) else (none)) else (none)) else (none)) else (none)) else (none)) else (none)) else (none)) else (some x3)
def strongboxref4_Path.f (k : Nat) (a0 : ByteArray) : Option (ByteArray) := strongboxref4_Path.l0 k a0 (⟨#[]⟩ : ByteArray) 0
theorem strongboxref4_Path.mono_l : ∀ k, (∀ y0 y1 y2, LeO (strongboxref4_Path.l0 k y0 y1 y2) (strongboxref4_Path.l0 (k + 1) y0 y1 y2))
  | 0 => fun _ _ _ r h => by simp [strongboxref4_Path.l0] at h
  | k + 1 => by
    have ih0 := strongboxref4_Path.mono_l k
    · intro y0 y1 y2
      unfold strongboxref4_Path.l0
      repeat' first
      | (with_reducible exact ih0 _ _ _)
      | (with_reducible exact LeO.refl _)
      | (with_reducible exact LeO.none _)
      | (with_reducible refine LeO.ite ?_ ?_)
      | (with_reducible refine LeO.bind ?_ (fun _ => ?_))
      | exact ih0 _ _ _
      | exact LeO.none _
      | refine LeO.ite ?_ ?_
      | refine LeO.bind ?_ (fun _ => ?_)
theorem strongboxref4_Path.mono : ∀ a0 k, LeO (strongboxref4_Path.f k a0) (strongboxref4_Path.f (k + 1) a0) := by
  intro a0 k
  have ih0 := strongboxref4_Path.mono_l k
  unfold strongboxref4_Path.f
  repeat' first
      | (with_reducible exact ih0 _ _ _)
      | (with_reducible exact LeO.refl _)
      | (with_reducible exact LeO.none _)
      | (with_reducible refine LeO.ite ?_ ?_)
      | (with_reducible refine LeO.bind ?_ (fun _ => ?_))
      | exact ih0 _ _ _
      | exact LeO.none _
      | refine LeO.ite ?_ ?_
      | refine LeO.bind ?_ (fun _ => ?_)
set_option maxHeartbeats 8000000 in
set_option maxRecDepth 100000 in
theorem strongboxref4_Path.calls (k : Nat) (a0 : ByteArray) (r : ByteArray) (w : World) (h : strongboxref4_Path.f k a0 = some r) :
    Calls Tryd.prog 44 #[.string a0] w fun e w' => e = .returned (.string r) ∧ Drawn0 w w' := by
  have H : (strongboxref4_Path.l0 k a0 (⟨#[]⟩ : ByteArray) 0) = some r := h
  clear h
  have H' := Aside0.mk H
  clear H
  go_enter Tryd.func44, Tryd.ntmps44
  go_wp2
  repeat (go_quiet (fail); try go_wp2)
  go_loopg [3, 4] k (fun kq v3 v4 w' => ∃ (x3_1 : ByteArray) (x4_1 : Int), v3 = .string x3_1 ∧ v4 = .int .i64 x4_1 ∧ Aside0 (strongboxref4_Path.l0 kq a0 x3_1 x4_1 = some r) ∧ Aside0 (kq ≤ k) ∧ Drawn0 w w')
  case atStart => exact ⟨((⟨#[]⟩ : ByteArray)), (0), (by first | rfl | (simp; done) | (simp [*]; done)), (by first | rfl | (simp; done) | (simp [*]; done)), H', ⟨Nat.le_refl _⟩, by repeat (first | exact Drawn0.refl _ | apply Drawn0.step)⟩
  case round =>
    clear H'
    obtain ⟨x3_1, x4_1, rfl, rfl, HA, HK1, ⟨m1, rfl⟩⟩ := hrel
    cases gk with
    | zero => exact absurd HA.out (by simp [strongboxref4_Path.l0])
    | succ k1 =>
      have H := HA.out
      clear HA
      simp only [strongboxref4_Path.l0] at H
      by_cases c2 : x4_1 < (a0.size : Int)
      · rw [if_pos c2] at H
        have c2b0 : decide (x4_1 < (a0.size : Int)) = true := decide_eq_true c2
        clear c2
        by_cases c3 : 0 ≤ x4_1
        · rw [if_pos c3] at H
          have c3b0 : decide (0 ≤ x4_1) = true := decide_eq_true c3
          clear c3
          obtain ⟨ji6, hji6⟩ : ∃ j_ : Int, ((bt a0 x4_1) / 16) = j_ := ⟨_, rfl⟩
          replace H : (if 0 ≤ (ji6) then (if (ji6) ≤ (((ji6) + 1) % 256) then (if (((ji6) + 1) % 256) ≤ 16 then (if x3_1.size + ((⟨#[48, 49, 50, 51, 52, 53, 54, 55, 56, 57, 97, 98, 99, 100, 101, 102]⟩ : ByteArray).extract ((ji6) : Int).toNat ((((ji6) + 1) % 256) : Int).toNat).size ≤ 9223372036854775807 then (if 0 ≤ (Go.bits .and .u8 (bt a0 x4_1) 15) then (if (Go.bits .and .u8 (bt a0 x4_1) 15) ≤ (((Go.bits .and .u8 (bt a0 x4_1) 15) + 1) % 256) then (if (((Go.bits .and .u8 (bt a0 x4_1) 15) + 1) % 256) ≤ 16 then (if (x3_1 ++ ((⟨#[48, 49, 50, 51, 52, 53, 54, 55, 56, 57, 97, 98, 99, 100, 101, 102]⟩ : ByteArray).extract ((ji6) : Int).toNat ((((ji6) + 1) % 256) : Int).toNat)).size + ((⟨#[48, 49, 50, 51, 52, 53, 54, 55, 56, 57, 97, 98, 99, 100, 101, 102]⟩ : ByteArray).extract ((Go.bits .and .u8 (bt a0 x4_1) 15) : Int).toNat ((((Go.bits .and .u8 (bt a0 x4_1) 15) + 1) % 256) : Int).toNat).size ≤ 9223372036854775807 then (strongboxref4_Path.l0 k1 a0 ((x3_1 ++ ((⟨#[48, 49, 50, 51, 52, 53, 54, 55, 56, 57, 97, 98, 99, 100, 101, 102]⟩ : ByteArray).extract ((ji6) : Int).toNat ((((ji6) + 1) % 256) : Int).toNat)) ++ ((⟨#[48, 49, 50, 51, 52, 53, 54, 55, 56, 57, 97, 98, 99, 100, 101, 102]⟩ : ByteArray).extract ((Go.bits .and .u8 (bt a0 x4_1) 15) : Int).toNat ((((Go.bits .and .u8 (bt a0 x4_1) 15) + 1) % 256) : Int).toNat)) (wrap64 (x4_1 + 1))) else (none)) else (none)) else (none)) else (none)) else (none)) else (none)) else (none)) else (none)) = some r := by first | (rw [hji6] at H; exact H) | (simp only [hji6] at H ⊢; exact H)
          by_cases c7 : 0 ≤ (ji6)
          · rw [if_pos c7] at H
            have c7b0 := eq_true c7
            have c7b1 : decide (0 ≤ (ji6)) = true := decide_eq_true c7
            clear c7
            by_cases c8 : (ji6) ≤ (((ji6) + 1) % 256)
            · rw [if_pos c8] at H
              have c8b0 := eq_true c8
              have c8b1 : decide ((ji6) ≤ (((ji6) + 1) % 256)) = true := decide_eq_true c8
              by_cases c9 : (((ji6) + 1) % 256) ≤ 16
              · rw [if_pos c9] at H
                have c9b0 := eq_true c9
                have c9b1 : decide ((((ji6) + 1) % 256) ≤ 16) = true := decide_eq_true c9
                by_cases c10 : x3_1.size + ((⟨#[48, 49, 50, 51, 52, 53, 54, 55, 56, 57, 97, 98, 99, 100, 101, 102]⟩ : ByteArray).extract ((ji6) : Int).toNat ((((ji6) + 1) % 256) : Int).toNat).size ≤ 9223372036854775807
                · rw [if_pos c10] at H
                  have c10b0 := eq_true c10
                  have c10b1 : decide (x3_1.size + ((⟨#[48, 49, 50, 51, 52, 53, 54, 55, 56, 57, 97, 98, 99, 100, 101, 102]⟩ : ByteArray).extract ((ji6) : Int).toNat ((((ji6) + 1) % 256) : Int).toNat).size ≤ 9223372036854775807) = true := decide_eq_true c10
                  try have c10b2 : (9223372036854775807 < x3_1.size + ((⟨#[48, 49, 50, 51, 52, 53, 54, 55, 56, 57, 97, 98, 99, 100, 101, 102]⟩ : ByteArray).extract ((ji6) : Int).toNat ((((ji6) + 1) % 256) : Int).toNat).size) = False := eq_false (Nat.not_lt.2 c10)
                  by_cases c13 : 0 ≤ (Go.bits .and .u8 (bt a0 x4_1) 15)
                  · rw [if_pos c13] at H
                    have c13b0 := eq_true c13
                    have c13b1 : decide (0 ≤ (Go.bits .and .u8 (bt a0 x4_1) 15)) = true := decide_eq_true c13
                    clear c13
                    by_cases c14 : (Go.bits .and .u8 (bt a0 x4_1) 15) ≤ (((Go.bits .and .u8 (bt a0 x4_1) 15) + 1) % 256)
                    · rw [if_pos c14] at H
                      have c14b0 := eq_true c14
                      have c14b1 : decide ((Go.bits .and .u8 (bt a0 x4_1) 15) ≤ (((Go.bits .and .u8 (bt a0 x4_1) 15) + 1) % 256)) = true := decide_eq_true c14
                      by_cases c15 : (((Go.bits .and .u8 (bt a0 x4_1) 15) + 1) % 256) ≤ 16
                      · rw [if_pos c15] at H
                        have c15b0 := eq_true c15
                        have c15b1 : decide ((((Go.bits .and .u8 (bt a0 x4_1) 15) + 1) % 256) ≤ 16) = true := decide_eq_true c15
                        by_cases c16 : (x3_1 ++ ((⟨#[48, 49, 50, 51, 52, 53, 54, 55, 56, 57, 97, 98, 99, 100, 101, 102]⟩ : ByteArray).extract ((ji6) : Int).toNat ((((ji6) + 1) % 256) : Int).toNat)).size + ((⟨#[48, 49, 50, 51, 52, 53, 54, 55, 56, 57, 97, 98, 99, 100, 101, 102]⟩ : ByteArray).extract ((Go.bits .and .u8 (bt a0 x4_1) 15) : Int).toNat ((((Go.bits .and .u8 (bt a0 x4_1) 15) + 1) % 256) : Int).toNat).size ≤ 9223372036854775807
                        · rw [if_pos c16] at H
                          have c16b0 := eq_true c16
                          have c16b1 : decide ((x3_1 ++ ((⟨#[48, 49, 50, 51, 52, 53, 54, 55, 56, 57, 97, 98, 99, 100, 101, 102]⟩ : ByteArray).extract ((ji6) : Int).toNat ((((ji6) + 1) % 256) : Int).toNat)).size + ((⟨#[48, 49, 50, 51, 52, 53, 54, 55, 56, 57, 97, 98, 99, 100, 101, 102]⟩ : ByteArray).extract ((Go.bits .and .u8 (bt a0 x4_1) 15) : Int).toNat ((((Go.bits .and .u8 (bt a0 x4_1) 15) + 1) % 256) : Int).toNat).size ≤ 9223372036854775807) = true := decide_eq_true c16
                          try have c16b2 : (9223372036854775807 < (x3_1 ++ ((⟨#[48, 49, 50, 51, 52, 53, 54, 55, 56, 57, 97, 98, 99, 100, 101, 102]⟩ : ByteArray).extract ((ji6) : Int).toNat ((((ji6) + 1) % 256) : Int).toNat)).size + ((⟨#[48, 49, 50, 51, 52, 53, 54, 55, 56, 57, 97, 98, 99, 100, 101, 102]⟩ : ByteArray).extract ((Go.bits .and .u8 (bt a0 x4_1) 15) : Int).toNat ((((Go.bits .and .u8 (bt a0 x4_1) 15) + 1) % 256) : Int).toNat).size) = False := eq_false (Nat.not_lt.2 c16)
                          have H' := Aside0.mk H
                          clear H
                          have p4 : 0 ≤ (x4_1 : Int) := of_decide_eq_true (by first | (with_reducible assumption) | assumption)
                          have q4 : x4_1 < (a0.size : Int) := of_decide_eq_true (by first | (with_reducible assumption) | assumption)
                          have hx4 := bt_at a0 x4_1
                          replace p4 := eq_true p4
                          replace q4 := eq_true q4
                          have p5 : 0 ≤ (x4_1 : Int) := of_decide_eq_true (by first | (with_reducible assumption) | assumption)
                          have q5 : x4_1 < (a0.size : Int) := of_decide_eq_true (by first | (with_reducible assumption) | assumption)
                          have hx5 := bt_at a0 x4_1
                          replace p5 := eq_true p5
                          replace q5 := eq_true q5
                          have p11 : 0 ≤ (x4_1 : Int) := of_decide_eq_true (by first | (with_reducible assumption) | assumption)
                          have q11 : x4_1 < (a0.size : Int) := of_decide_eq_true (by first | (with_reducible assumption) | assumption)
                          have hx11 := bt_at a0 x4_1
                          replace p11 := eq_true p11
                          replace q11 := eq_true q11
                          have p12 : 0 ≤ (x4_1 : Int) := of_decide_eq_true (by first | (with_reducible assumption) | assumption)
                          have q12 : x4_1 < (a0.size : Int) := of_decide_eq_true (by first | (with_reducible assumption) | assumption)
                          have hx12 := bt_at a0 x4_1
                          replace p12 := eq_true p12
                          replace q12 := eq_true q12
                          go_wp2
                          repeat (go_quiet (fail); try go_wp2)
                          go_roundg k1
                          case measure => have := HK1.out; omega
                          case rel => exact ⟨((x3_1 ++ ((⟨#[48, 49, 50, 51, 52, 53, 54, 55, 56, 57, 97, 98, 99, 100, 101, 102]⟩ : ByteArray).extract ((ji6) : Int).toNat ((((ji6) + 1) % 256) : Int).toNat)) ++ ((⟨#[48, 49, 50, 51, 52, 53, 54, 55, 56, 57, 97, 98, 99, 100, 101, 102]⟩ : ByteArray).extract ((Go.bits .and .u8 (bt a0 x4_1) 15) : Int).toNat ((((Go.bits .and .u8 (bt a0 x4_1) 15) + 1) % 256) : Int).toNat)), (wrap64 (x4_1 + 1)), (by first | rfl | (simp; done) | (simp only [← hji6] <;> (first | rfl | simp)) | (simp [*]; done)), (by first | rfl | (simp; done) | (simp [*]; done)), H', ⟨by have := HK1.out; omega⟩, by repeat (first | exact Drawn0.refl _ | apply Drawn0.step)⟩
                        · rw [if_neg c16] at H
                          exact absurd H (by simp)
                      · rw [if_neg c15] at H
                        exact absurd H (by simp)
                    · rw [if_neg c14] at H
                      exact absurd H (by simp)
                  · rw [if_neg c13] at H
                    exact absurd H (by simp)
                · rw [if_neg c10] at H
                  exact absurd H (by simp)
              · rw [if_neg c9] at H
                exact absurd H (by simp)
            · rw [if_neg c8] at H
              exact absurd H (by simp)
          · rw [if_neg c7] at H
            exact absurd H (by simp)
        · rw [if_neg c3] at H
          exact absurd H (by simp)
      · rw [if_neg c2] at H
        have c2b0 : decide (x4_1 < (a0.size : Int)) = false := decide_eq_false c2
        clear c2
        obtain rfl := Option.some.inj H
        go_wp2
        repeat (go_quiet (fail); try go_wp2)
        go_ret
        exact ⟨by first | rfl | (simp; done) | (simp [*]; done), by repeat (first | exact Drawn0.refl _ | apply Drawn0.step)⟩

/-! ### strongboxref23_bytes: function 31 -/
def strongboxref23_bytes.f (k : Nat) (a0 : ByteArray) : Option (ByteArray) := if a0.toList = ([] : List UInt8) then (some (⟨#[46]⟩ : ByteArray)) else ((strongboxref4_Path.f k a0).bind fun t190 => (some t190))
theorem strongboxref23_bytes.mono : ∀ a0 k, LeO (strongboxref23_bytes.f k a0) (strongboxref23_bytes.f (k + 1) a0) := by
  intro a0 k
  unfold strongboxref23_bytes.f
  repeat' first
      | (with_reducible exact strongboxref4_Path.mono _ _)
      | (with_reducible exact LeO.refl _)
      | (with_reducible exact LeO.none _)
      | (with_reducible refine LeO.ite ?_ ?_)
      | (with_reducible refine LeO.bind ?_ (fun _ => ?_))
      | exact strongboxref4_Path.mono _ _
      | exact LeO.none _
      | refine LeO.ite ?_ ?_
      | refine LeO.bind ?_ (fun _ => ?_)
set_option maxHeartbeats 8000000 in
set_option maxRecDepth 100000 in
theorem strongboxref23_bytes.calls (k : Nat) (a0 : ByteArray) (r : ByteArray) (w : World) (h : strongboxref23_bytes.f k a0 = some r) :
    Calls Tryd.prog 31 #[.string a0] w fun e w' => e = .returned (.string r) ∧ Drawn0 w w' := by
  have H : (if a0.toList = ([] : List UInt8) then (some (⟨#[46]⟩ : ByteArray)) else ((strongboxref4_Path.f k a0).bind fun t190 => (some t190))) = some r := h
  clear h
  by_cases c2 : a0.toList = ([] : List UInt8)
  · rw [if_pos c2] at H
    have c2b0 : (a0.toList == ([] : List UInt8)) = true := beq_iff_eq.mpr c2
    have c2b1 : (a0.toList != ([] : List UInt8)) = false := bne_eq_false_iff_eq.mpr c2
    clear c2
    obtain rfl := Option.some.inj H
    go_enter Tryd.func31, Tryd.ntmps31
    go_wp2
    go_ret
    exact ⟨by first | rfl | (simp; done) | (simp [*]; done), by repeat (first | exact Drawn0.refl _ | apply Drawn0.step)⟩
  · rw [if_neg c2] at H
    have c2b0 : (a0.toList == ([] : List UInt8)) = false := beq_eq_false_iff_ne.mpr c2
    have c2b1 : (a0.toList != ([] : List UInt8)) = true := bne_iff_ne.mpr c2
    replace H := Option.bind_eq_some_iff.mp H
    obtain ⟨t190, A30, H⟩ := H
    replace H : (some t190) = some r := H
    have A3 := Aside0.mk A30
    clear A30
    obtain rfl := Option.some.inj H
    go_enter Tryd.func31, Tryd.ntmps31
    go_wp2_with (first | ((with_reducible refine gate_callee (f := 44) rfl ?_); refine goesL_ (some 6) rfl rfl Tryd.func44 (by kernel_rfl) rfl #[.string a0] rfl (by (try simp only [List.map_toArray, List.map_cons, List.map_nil]); first | done | rfl | (simp only [List.length_drop, List.length_take]; rfl)) ?_; (with_reducible refine (strongboxref4_Path.calls k a0 t190 _ A3.out).mono ?_); rintro e w' ⟨rfl, ⟨nd, rfl⟩⟩; refine ⟨_, rfl, ?_⟩))
    go_ret
    exact ⟨by first | rfl | (simp; done) | (simp [*]; done), by repeat (first | exact Drawn0.refl _ | apply Drawn0.step)⟩

end Go.Proofs.YtghllfihmmlcnaaDoor.PScriptPrints
