/- Printed by the kit's print.sh (its text PScriptPrintsx6): the reference's Text. -/
import Derived.Test.YtghllfihmmlcnaaDoorPScriptPrintsx0
import Derived.Test.YtghllfihmmlcnaaDoorPScriptPrintsx4
import Derived.Test.YtghllfihmmlcnaaDoorScrU5
namespace Go.Proofs.YtghllfihmmlcnaaDoor.PScriptPrints
open Go.RowKit Go.Proofs.YtghllfihmmlcnaaDoorW.PrintWords Go.Proofs.YtghllfihmmlcnaaDoorW.PrintLast Go.Proofs.YtghllfihmmlcnaaDoorW.PrintMore
attribute [local go_sem] max2_int min2_int max_two min_two max_three min_three max_four min_four   -- for this text's walks alone
set_option linter.unusedVariables false
set_option linter.unusedSimpArgs false

/-! ### strongboxref23_Text: function 14 -/
def strongboxref23_Text.l0 : Nat → ByteArray → ByteArray → Int → Int → ByteArray → ByteArray → List Int → Int → Int → ByteArray → ByteArray → Int → Int → Int → ByteArray → ByteArray → List Int → Int → Int → ByteArray → ByteArray → Int → Int → Option (ByteArray × Bool)
  | 0, _, _, _, _, _, _, _, _, _, _, _, _, _, _, _, _, _, _, _, _, _, _, _ => none
  | k + 1, x4, x5, x7, x192000, x192001, x192002, x192003, x192004, x192005, x192006, x192007, x192008, x192009, x195000, x195001, x195002, x195003, x195004, x195005, x195006, x195007, x195008, x195009 => if x7 < (x5.size : Int) then (if x4.size + 1 ≤ 9223372036854775807 then (if 0 ≤ x7 then (if (bt x5 x7) = 98 then ((strongboxref23_bytes.f k x192001).bind fun t196 => (if (x4 ++ (⟨#[32]⟩ : ByteArray)).size + t196.size ≤ 9223372036854775807 then (strongboxref23_Text.l0 k ((x4 ++ (⟨#[32]⟩ : ByteArray)) ++ t196) x5 (wrap64 (x7 + 1)) x192000 x192001 x192002 x192003 x192004 x192005 x192006 x192007 x192008 x192009 x195000 x192001 x195002 x195003 x195004 x195005 x195006 x195007 x195008 x195009) else (none))) else (if (bt x5 x7) = 107 then ((strongboxref23_bytes.f k x192002).bind fun t197 => (if (x4 ++ (⟨#[32]⟩ : ByteArray)).size + t197.size ≤ 9223372036854775807 then (strongboxref23_Text.l0 k ((x4 ++ (⟨#[32]⟩ : ByteArray)) ++ t197) x5 (wrap64 (x7 + 1)) x192000 x192001 x192002 x192003 x192004 x192005 x192006 x192007 x192008 x192009 x195000 x195001 x192002 x195003 x195004 x195005 x195006 x195007 x195008 x195009) else (none))) else (if (bt x5 x7) = 100 then ((strongboxref23_bytes.f k (strOfNums x192003)).bind fun t198 => (if (x4 ++ (⟨#[32]⟩ : ByteArray)).size + t198.size ≤ 9223372036854775807 then (strongboxref23_Text.l0 k ((x4 ++ (⟨#[32]⟩ : ByteArray)) ++ t198) x5 (wrap64 (x7 + 1)) x192000 x192001 x192002 x192003 x192004 x192005 x192006 x192007 x192008 x192009 x195000 x195001 x195002 x192003 x195004 x195005 x195006 x195007 x195008 x195009) else (none))) else (if (bt x5 x7) = 110 then ((strongboxref23_number.f k x192004).bind fun t199 => (if (x4 ++ (⟨#[32]⟩ : ByteArray)).size + t199.size ≤ 9223372036854775807 then (strongboxref23_Text.l0 k ((x4 ++ (⟨#[32]⟩ : ByteArray)) ++ t199) x5 (wrap64 (x7 + 1)) x192000 x192001 x192002 x192003 x192004 x192005 x192006 x192007 x192008 x192009 x195000 x195001 x195002 x195003 x192004 x195005 x195006 x195007 x195008 x195009) else (none))) else (if (bt x5 x7) = 97 then ((strongboxref23_number.f k x192005).bind fun t200 => (if (x4 ++ (⟨#[32]⟩ : ByteArray)).size + t200.size ≤ 9223372036854775807 then (strongboxref23_Text.l0 k ((x4 ++ (⟨#[32]⟩ : ByteArray)) ++ t200) x5 (wrap64 (x7 + 1)) x192000 x192001 x192002 x192003 x192004 x192005 x192006 x192007 x192008 x192009 x195000 x195001 x195002 x195003 x195004 x192005 x195006 x195007 x195008 x195009) else (none))) else (if (bt x5 x7) = 112 then ((strongboxref23_bytes.f k x192006).bind fun t201 => (if (x4 ++ (⟨#[32]⟩ : ByteArray)).size + t201.size ≤ 9223372036854775807 then (strongboxref23_Text.l0 k ((x4 ++ (⟨#[32]⟩ : ByteArray)) ++ t201) x5 (wrap64 (x7 + 1)) x192000 x192001 x192002 x192003 x192004 x192005 x192006 x192007 x192008 x192009 x195000 x195001 x195002 x195003 x195004 x195005 x192006 x195007 x195008 x195009) else (none))) else (if (bt x5 x7) = 102 then ((strongboxref23_bytes.f k x192007).bind fun t202 => (if (x4 ++ (⟨#[32]⟩ : ByteArray)).size + t202.size ≤ 9223372036854775807 then (strongboxref23_Text.l0 k ((x4 ++ (⟨#[32]⟩ : ByteArray)) ++ t202) x5 (wrap64 (x7 + 1)) x192000 x192001 x192002 x192003 x192004 x192005 x192006 x192007 x192008 x192009 x195000 x195001 x195002 x195003 x195004 x195005 x195006 x192007 x195008 x195009) else (none))) else (if (bt x5 x7) = 105 then ((strongboxref23_number.f k x192008).bind fun t203 => (if (x4 ++ (⟨#[32]⟩ : ByteArray)).size + t203.size ≤ 9223372036854775807 then (strongboxref23_Text.l0 k ((x4 ++ (⟨#[32]⟩ : ByteArray)) ++ t203) x5 (wrap64 (x7 + 1)) x192000 x192001 x192002 x192003 x192004 x192005 x192006 x192007 x192008 x192009 x195000 x195001 x195002 x195003 x195004 x195005 x195006 x195007 x192008 x195009) else (none))) else ((strongboxref23_number.f k x192009).bind fun t204 => (if (x4 ++ (⟨#[32]⟩ : ByteArray)).size + t204.size ≤ 9223372036854775807 then (strongboxref23_Text.l0 k ((x4 ++ (⟨#[32]⟩ : ByteArray)) ++ t204) x5 (wrap64 (x7 + 1)) x192000 x192001 x192002 x192003 x192004 x192005 x192006 x192007 x192008 x192009 x195000 x195001 x195002 x195003 x195004 x195005 x195006 x195007 x195008 x192009) else (none))))))))))) else (none)) else (none)) else ((strongboxref23_SameChoice.f x195000 x195001 x195002 x195003 x195004 x195005 x195006 x195007 x195008 x195009 x192000 x192001 x192002 x192003 x192004 x192005 x192006 x192007 x192008 x192009).bind fun t195 => (if t195 = true then (some (x4, true)) else (some ((⟨#[]⟩ : ByteArray), false))))
def strongboxref23_Text.f (k : Nat) (a0_0 : Int) (a0_1 : ByteArray) (a0_2 : ByteArray) (l0_3 : List Int) (a0_4 : Int) (a0_5 : Int) (a0_6 : ByteArray) (a0_7 : ByteArray) (a0_8 : Int) (a0_9 : Int) : Option (ByteArray × Bool) := (strongboxref23_Verb.f a0_0).bind fun bt192 => (if bt192.1.toList = ([] : List UInt8) then (some ((⟨#[]⟩ : ByteArray), false)) else (strongboxref23_Text.l0 k bt192.1 bt192.2 0 a0_0 a0_1 a0_2 l0_3 a0_4 a0_5 a0_6 a0_7 a0_8 a0_9 a0_0 (⟨#[]⟩ : ByteArray) (⟨#[]⟩ : ByteArray) ([] : List Int) 0 0 (⟨#[]⟩ : ByteArray) (⟨#[]⟩ : ByteArray) 0 0))
theorem strongboxref23_Text.mono_l : ∀ k, (∀ y0 y1 y2 y3 y4 y5 y6 y7 y8 y9 y10 y11 y12 y13 y14 y15 y16 y17 y18 y19 y20 y21 y22, LeO (strongboxref23_Text.l0 k y0 y1 y2 y3 y4 y5 y6 y7 y8 y9 y10 y11 y12 y13 y14 y15 y16 y17 y18 y19 y20 y21 y22) (strongboxref23_Text.l0 (k + 1) y0 y1 y2 y3 y4 y5 y6 y7 y8 y9 y10 y11 y12 y13 y14 y15 y16 y17 y18 y19 y20 y21 y22))
  | 0 => fun _ _ _ _ _ _ _ _ _ _ _ _ _ _ _ _ _ _ _ _ _ _ _ r h => by simp [strongboxref23_Text.l0] at h
  | k + 1 => by
    have ih0 := strongboxref23_Text.mono_l k
    · intro y0 y1 y2 y3 y4 y5 y6 y7 y8 y9 y10 y11 y12 y13 y14 y15 y16 y17 y18 y19 y20 y21 y22
      unfold strongboxref23_Text.l0
      repeat' first
      | (with_reducible exact ih0 _ _ _ _ _ _ _ _ _ _ _ _ _ _ _ _ _ _ _ _ _ _ _)
      | (with_reducible exact strongboxref23_bytes.mono _ _)
      | (with_reducible exact strongboxref23_number.mono _ _)
      | (with_reducible exact LeO.refl _)
      | (with_reducible exact LeO.none _)
      | (with_reducible refine LeO.ite ?_ ?_)
      | (with_reducible refine LeO.bind ?_ (fun _ => ?_))
      | exact ih0 _ _ _ _ _ _ _ _ _ _ _ _ _ _ _ _ _ _ _ _ _ _ _
      | exact strongboxref23_bytes.mono _ _
      | exact strongboxref23_number.mono _ _
      | exact LeO.none _
      | refine LeO.ite ?_ ?_
      | refine LeO.bind ?_ (fun _ => ?_)
theorem strongboxref23_Text.mono : ∀ a0 a1 a2 a3 a4 a5 a6 a7 a8 a9 k, LeO (strongboxref23_Text.f k a0 a1 a2 a3 a4 a5 a6 a7 a8 a9) (strongboxref23_Text.f (k + 1) a0 a1 a2 a3 a4 a5 a6 a7 a8 a9) := by
  intro a0 a1 a2 a3 a4 a5 a6 a7 a8 a9 k
  have ih0 := strongboxref23_Text.mono_l k
  unfold strongboxref23_Text.f
  repeat' first
      | (with_reducible exact ih0 _ _ _ _ _ _ _ _ _ _ _ _ _ _ _ _ _ _ _ _ _ _ _)
      | (with_reducible exact strongboxref23_bytes.mono _ _)
      | (with_reducible exact strongboxref23_number.mono _ _)
      | (with_reducible exact LeO.refl _)
      | (with_reducible exact LeO.none _)
      | (with_reducible refine LeO.ite ?_ ?_)
      | (with_reducible refine LeO.bind ?_ (fun _ => ?_))
      | exact ih0 _ _ _ _ _ _ _ _ _ _ _ _ _ _ _ _ _ _ _ _ _ _ _
      | exact strongboxref23_bytes.mono _ _
      | exact strongboxref23_number.mono _ _
      | exact LeO.none _
      | refine LeO.ite ?_ ?_
      | refine LeO.bind ?_ (fun _ => ?_)
def strongboxref23_Text.T10 : Bool × List (List Nat × List Nat) := (true, [([], []), ([], []), ([1], [1]), ([2], [2]), ([3], [3]), ([0, 4], [0, 4]), ([], []), ([6], [6]), ([7], [7]), ([5, 4, 0, 1, 2, 3, 4, 5], [0, 5]), ([0, 1, 2, 3, 4, 5, 6, 7, 8, 9], []), ([10, 0, 1, 2, 3, 4, 5, 6, 7, 8, 9], [10]), ([11, 8, 9, 0, 1, 2, 3, 4, 5, 6, 7, 8, 9], [8, 11])])
def strongboxref23_Text.B10 : List Nat := [0, 0, 2, 6, 14, 31, 0, 64, 192, 63, 1023, 2047, 4095]
theorem strongboxref23_Text.tab10 : rtab .any (opsOf Tryd.f14 10) = strongboxref23_Text.T10 := by kernel_rfl
theorem strongboxref23_Text.bits10 : waitsOk strongboxref23_Text.T10.2 strongboxref23_Text.B10 = true := by kernel_rfl
def strongboxref23_Text.T12 : Bool × List (List Nat × List Nat) := (true, [([], []), ([], []), ([1], [1]), ([2], [2]), ([0, 3], [0, 3]), ([], []), ([5], [5]), ([4, 3, 0, 1, 2, 3, 4], [0, 4]), ([0, 1, 2, 3, 4, 5, 6, 7], []), ([8, 6, 7, 0, 1, 2, 3, 4, 5, 6, 7], [6, 8])])
def strongboxref23_Text.B12 : List Nat := [0, 0, 2, 6, 15, 0, 32, 31, 255, 511]
theorem strongboxref23_Text.tab12 : rtab .any (opsOf Tryd.f14 12) = strongboxref23_Text.T12 := by kernel_rfl
theorem strongboxref23_Text.bits12 : waitsOk strongboxref23_Text.T12.2 strongboxref23_Text.B12 = true := by kernel_rfl
def strongboxref23_Text.T14 : Bool × List (List Nat × List Nat) := (true, [([], []), ([], []), ([1], [1]), ([2], [2]), ([0, 3], [0, 3]), ([], []), ([5], [5]), ([4, 3, 0, 1, 2, 3, 4], [0, 4]), ([0, 1, 2, 3, 4, 5, 6, 7], []), ([8, 6, 7, 0, 1, 2, 3, 4, 5, 6, 7], [6, 8])])
def strongboxref23_Text.B14 : List Nat := [0, 0, 2, 6, 15, 0, 32, 31, 255, 511]
theorem strongboxref23_Text.tab14 : rtab .any (opsOf Tryd.f14 14) = strongboxref23_Text.T14 := by kernel_rfl
theorem strongboxref23_Text.bits14 : waitsOk strongboxref23_Text.T14.2 strongboxref23_Text.B14 = true := by kernel_rfl
def strongboxref23_Text.T16 : Bool × List (List Nat × List Nat) := (true, [([], []), ([], []), ([1], [1]), ([2], [2]), ([3], [3]), ([0, 4], [0, 4]), ([], []), ([6], [6]), ([5, 4, 0, 1, 2, 3, 4, 5], [0, 5]), ([0, 1, 2, 3, 4, 5, 6, 7, 8], []), ([9, 7, 8, 0, 1, 2, 3, 4, 5, 6, 7, 8], [7, 9])])
def strongboxref23_Text.B16 : List Nat := [0, 0, 2, 6, 14, 31, 0, 64, 63, 511, 1023]
theorem strongboxref23_Text.tab16 : rtab .any (opsOf Tryd.f14 16) = strongboxref23_Text.T16 := by kernel_rfl
theorem strongboxref23_Text.bits16 : waitsOk strongboxref23_Text.T16.2 strongboxref23_Text.B16 = true := by kernel_rfl
def strongboxref23_Text.T18 : Bool × List (List Nat × List Nat) := (true, [([], []), ([], []), ([1], [1]), ([2], [2]), ([0, 3], [0, 3]), ([], []), ([5], [5]), ([4, 3, 0, 1, 2, 3, 4], [0, 4]), ([0, 1, 2, 3, 4, 5, 6, 7], []), ([8, 6, 7, 0, 1, 2, 3, 4, 5, 6, 7], [6, 8])])
def strongboxref23_Text.B18 : List Nat := [0, 0, 2, 6, 15, 0, 32, 31, 255, 511]
theorem strongboxref23_Text.tab18 : rtab .any (opsOf Tryd.f14 18) = strongboxref23_Text.T18 := by kernel_rfl
theorem strongboxref23_Text.bits18 : waitsOk strongboxref23_Text.T18.2 strongboxref23_Text.B18 = true := by kernel_rfl
def strongboxref23_Text.T20 : Bool × List (List Nat × List Nat) := (true, [([], []), ([], []), ([1], [1]), ([2], [2]), ([0, 3], [0, 3]), ([], []), ([5], [5]), ([4, 3, 0, 1, 2, 3, 4], [0, 4]), ([0, 1, 2, 3, 4, 5, 6, 7], []), ([8, 6, 7, 0, 1, 2, 3, 4, 5, 6, 7], [6, 8])])
def strongboxref23_Text.B20 : List Nat := [0, 0, 2, 6, 15, 0, 32, 31, 255, 511]
theorem strongboxref23_Text.tab20 : rtab .any (opsOf Tryd.f14 20) = strongboxref23_Text.T20 := by kernel_rfl
theorem strongboxref23_Text.bits20 : waitsOk strongboxref23_Text.T20.2 strongboxref23_Text.B20 = true := by kernel_rfl
def strongboxref23_Text.T22 : Bool × List (List Nat × List Nat) := (true, [([], []), ([], []), ([1], [1]), ([2], [2]), ([3], [3]), ([0, 4], [0, 4]), ([], []), ([6], [6]), ([7], [7]), ([5, 4, 0, 1, 2, 3, 4, 5], [0, 5]), ([0, 1, 2, 3, 4, 5, 6, 7, 8, 9], []), ([10, 0, 1, 2, 3, 4, 5, 6, 7, 8, 9], [10]), ([11, 8, 9, 0, 1, 2, 3, 4, 5, 6, 7, 8, 9], [8, 11])])
def strongboxref23_Text.B22 : List Nat := [0, 0, 2, 6, 14, 31, 0, 64, 192, 63, 1023, 2047, 4095]
theorem strongboxref23_Text.tab22 : rtab .any (opsOf Tryd.f14 22) = strongboxref23_Text.T22 := by kernel_rfl
theorem strongboxref23_Text.bits22 : waitsOk strongboxref23_Text.T22.2 strongboxref23_Text.B22 = true := by kernel_rfl
def strongboxref23_Text.T24 : Bool × List (List Nat × List Nat) := (true, [([], []), ([], []), ([1], [1]), ([2], [2]), ([3], [3]), ([0, 4], [0, 4]), ([], []), ([6], [6]), ([7], [7]), ([5, 4, 0, 1, 2, 3, 4, 5], [0, 5]), ([0, 1, 2, 3, 4, 5, 6, 7, 8, 9], []), ([10, 0, 1, 2, 3, 4, 5, 6, 7, 8, 9], [10]), ([11, 8, 9, 0, 1, 2, 3, 4, 5, 6, 7, 8, 9], [8, 11])])
def strongboxref23_Text.B24 : List Nat := [0, 0, 2, 6, 14, 31, 0, 64, 192, 63, 1023, 2047, 4095]
theorem strongboxref23_Text.tab24 : rtab .any (opsOf Tryd.f14 24) = strongboxref23_Text.T24 := by kernel_rfl
theorem strongboxref23_Text.bits24 : waitsOk strongboxref23_Text.T24.2 strongboxref23_Text.B24 = true := by kernel_rfl
def strongboxref23_Text.T26 : Bool × List (List Nat × List Nat) := (true, [([], []), ([], []), ([1], [1]), ([2], [2]), ([3], [3]), ([0, 4], [0, 4]), ([], []), ([6], [6]), ([7], [7]), ([5, 4, 0, 1, 2, 3, 4, 5], [0, 5]), ([0, 1, 2, 3, 4, 5, 6, 7, 8, 9], []), ([10, 0, 1, 2, 3, 4, 5, 6, 7, 8, 9], [10]), ([11, 8, 9, 0, 1, 2, 3, 4, 5, 6, 7, 8, 9], [8, 11])])
def strongboxref23_Text.B26 : List Nat := [0, 0, 2, 6, 14, 31, 0, 64, 192, 63, 1023, 2047, 4095]
theorem strongboxref23_Text.tab26 : rtab .any (opsOf Tryd.f14 26) = strongboxref23_Text.T26 := by kernel_rfl
theorem strongboxref23_Text.bits26 : waitsOk strongboxref23_Text.T26.2 strongboxref23_Text.B26 = true := by kernel_rfl
set_option maxHeartbeats 8000000 in
set_option maxRecDepth 100000 in
theorem strongboxref23_Text.calls (k : Nat) (a0_0 : Int) (a0_1 : ByteArray) (a0_2 : ByteArray) (P0_3_ : Nat → Prop) (A0_3 : Option Addr) (c0_3 : Nat) (l0_3 : List Int) (a0_4 : Int) (a0_5 : Int) (a0_6 : ByteArray) (a0_7 : ByteArray) (a0_8 : Int) (a0_9 : Int) (r1 : ByteArray) (r2 : Bool) (w : World) (hs0_3 : Kd.V (Kd.int .u8) 5 w w.heap.size (fun k_ => P0_3_ k_) (.slice A0_3 l0_3.length c0_3) l0_3) (h : strongboxref23_Text.f k a0_0 a0_1 a0_2 l0_3 a0_4 a0_5 a0_6 a0_7 a0_8 a0_9 = some (r1, r2)) :
    Calls Tryd.prog 14 #[.agg #[.int .i64 a0_0, .string a0_1, .string a0_2, .slice A0_3 l0_3.length c0_3, .int .i64 a0_4, .int .i64 a0_5, .string a0_6, .string a0_7, .int .i64 a0_8, .int .i64 a0_9]] w fun e w' => e = .returned (.tuple #[.string r1, .bool r2]) ∧ Below w.heap.size w w' := by
  have hu39 := Tryd.underlying39
  have HO0_3 := Aside0.mk (show Kd.V (Kd.int .u8) 5 w w.heap.size (fun k_ => (P0_3_ k_ ∨ w.heap.size ≤ k_)) (.slice A0_3 l0_3.length c0_3) l0_3 from Kd.V_mono hs0_3 (fun k_ hk => .inl hk))
  have HB := Aside0.mk (Below.refl w.heap.size w)
  have H : ((strongboxref23_Verb.f a0_0).bind fun bt192 => (if bt192.1.toList = ([] : List UInt8) then (some ((⟨#[]⟩ : ByteArray), false)) else (strongboxref23_Text.l0 k bt192.1 bt192.2 0 a0_0 a0_1 a0_2 l0_3 a0_4 a0_5 a0_6 a0_7 a0_8 a0_9 a0_0 (⟨#[]⟩ : ByteArray) (⟨#[]⟩ : ByteArray) ([] : List Int) 0 0 (⟨#[]⟩ : ByteArray) (⟨#[]⟩ : ByteArray) 0 0))) = some (r1, r2) := h
  clear h
  replace H := Option.bind_eq_some_iff.mp H
  obtain ⟨⟨t192, t193⟩, A20, H⟩ := H
  replace H : (if t192.toList = ([] : List UInt8) then (some ((⟨#[]⟩ : ByteArray), false)) else (strongboxref23_Text.l0 k t192 t193 0 a0_0 a0_1 a0_2 l0_3 a0_4 a0_5 a0_6 a0_7 a0_8 a0_9 a0_0 (⟨#[]⟩ : ByteArray) (⟨#[]⟩ : ByteArray) ([] : List Int) 0 0 (⟨#[]⟩ : ByteArray) (⟨#[]⟩ : ByteArray) 0 0)) = some (r1, r2) := H
  have A2 := Aside0.mk A20
  clear A20
  by_cases c3 : t192.toList = ([] : List UInt8)
  · rw [if_pos c3] at H
    have c3b0 : (t192.toList == ([] : List UInt8)) = true := beq_iff_eq.mpr c3
    have c3b1 : (t192.toList != ([] : List UInt8)) = false := bne_eq_false_iff_eq.mpr c3
    clear c3
    simp only [Option.some.injEq, Prod.mk.injEq] at H
    obtain ⟨rfl, rfl⟩ := H
    go_enter Tryd.func14, Tryd.ntmps14
    go_wp2_with (first | ((with_reducible refine gate_dst (N := 1) rfl ?_); refine box_event ?hg (N := 1) ?hd (cs := #[.int .i64 a0_0, .string a0_1, .string a0_2, .slice A0_3 l0_3.length c0_3, .int .i64 a0_4, .int .i64 a0_5, .string a0_6, .string a0_7, .int .i64 a0_8, .int .i64 a0_9]) (t := 39) ?hr ?_; (case hd => rfl); (case hg => rfl); (case hr => first | (go_simp; done) | (go_simp; rfl)); intro gb191 hg w4 hbox hb; have n0_ := Aside0.mk (Kd.V_below (Kd.V_elderB (by (with_reducible repeat (first | apply Kd.V_alloc | apply Kd.V_drewN | apply Kd.V_drew)); exact HO0_3.out) gb191 (Nat.le_of_eq hg.symm)) hb); have n1_ := Aside0.mk (below_step (by repeat (first | (with_reducible first | exact HB.out | apply below_alloc | apply pw_below_drewN | apply below_drew1) | exact HB.out)) hb); have n2_ := Aside0.mk (hbox); have n3_ := Aside0.mk ((by rw [hg]; exact (below_size (by repeat (first | (with_reducible first | exact HB.out | apply below_alloc | apply pw_below_drewN | apply below_drew1) | exact HB.out))) : w.heap.size ≤ gb191)); have n4_ := Aside0.mk ((by rw [hg]; exact (below_size (by repeat (first | (with_reducible first | exact HB.out | apply below_alloc | apply pw_below_drewN | apply below_drew1) | exact HB.out))) : w.heap.size ≤ gb191)); clear HO0_3; clear HB; have HO0_3 := n0_; have HB := n1_; have BK191 := n2_; have GW191 := n3_; have GE191 := n4_; clear n0_ n1_ n2_ n3_ n4_; clear hb hbox hg; have hcz5_0 : w4.cell? ⟨gb191, 0, none⟩ = some (.int .i64 a0_0) := (blk_cell BK191.out 0).trans rfl; have hcz5_1 : w4.cell? ⟨gb191, 1, none⟩ = some (.string a0_1) := (blk_cell BK191.out 1).trans rfl; have hcz5_2 : w4.cell? ⟨gb191, 2, none⟩ = some (.string a0_2) := (blk_cell BK191.out 2).trans rfl; have hcz5_3 : w4.cell? ⟨gb191, 3, none⟩ = some (.slice A0_3 l0_3.length c0_3) := (blk_cell BK191.out 3).trans rfl; have hcz5_4 : w4.cell? ⟨gb191, 4, none⟩ = some (.int .i64 a0_4) := (blk_cell BK191.out 4).trans rfl; have hcz5_5 : w4.cell? ⟨gb191, 5, none⟩ = some (.int .i64 a0_5) := (blk_cell BK191.out 5).trans rfl; have hcz5_6 : w4.cell? ⟨gb191, 6, none⟩ = some (.string a0_6) := (blk_cell BK191.out 6).trans rfl; have hcz5_7 : w4.cell? ⟨gb191, 7, none⟩ = some (.string a0_7) := (blk_cell BK191.out 7).trans rfl; have hcz5_8 : w4.cell? ⟨gb191, 8, none⟩ = some (.int .i64 a0_8) := (blk_cell BK191.out 8).trans rfl; have hcz5_9 : w4.cell? ⟨gb191, 9, none⟩ = some (.int .i64 a0_9) := (blk_cell BK191.out 9).trans rfl; have hfz5_0 := blk_frozen BK191.out 0; have hfz5_1 := blk_frozen BK191.out 1; have hfz5_2 := blk_frozen BK191.out 2; have hfz5_3 := blk_frozen BK191.out 3; have hfz5_4 := blk_frozen BK191.out 4; have hfz5_5 := blk_frozen BK191.out 5; have hfz5_6 := blk_frozen BK191.out 6; have hfz5_7 := blk_frozen BK191.out 7; have hfz5_8 := blk_frozen BK191.out 8; have hfz5_9 := blk_frozen BK191.out 9) | ((with_reducible refine gate_callee (f := 17) rfl ?_); refine goesL_ (some 11) rfl rfl Tryd.func17 (by kernel_rfl) rfl #[.int .i64 a0_0] rfl (by (try simp only [List.map_toArray, List.map_cons, List.map_nil]); first | done | rfl | (simp only [List.length_drop, List.length_take]; rfl)) ?_; (with_reducible refine (strongboxref23_Verb.calls a0_0 t192 t193 _ A2.out).mono ?_); rintro e w' ⟨rfl, ⟨nd, rfl⟩⟩; refine ⟨_, rfl, ?_⟩))
    go_ret2
    exact ⟨by first | rfl | (simp [errW_none, errW_some] <;> rfl) | (simp [*, errW_none, errW_some] <;> rfl), by repeat (first | (with_reducible first | exact HB.out | apply below_alloc | apply pw_below_drewN | apply below_drew1 | refine below_set ?_ GE191.out) | exact HB.out)⟩
  · rw [if_neg c3] at H
    have c3b0 : (t192.toList == ([] : List UInt8)) = false := beq_eq_false_iff_ne.mpr c3
    have c3b1 : (t192.toList != ([] : List UInt8)) = true := bne_iff_ne.mpr c3
    have H' := Aside0.mk H
    clear H
    go_enter Tryd.func14, Tryd.ntmps14
    go_wp2_with (first | ((with_reducible refine gate_dst (N := 1) rfl ?_); refine box_event ?hg (N := 1) ?hd (cs := #[.int .i64 a0_0, .string a0_1, .string a0_2, .slice A0_3 l0_3.length c0_3, .int .i64 a0_4, .int .i64 a0_5, .string a0_6, .string a0_7, .int .i64 a0_8, .int .i64 a0_9]) (t := 39) ?hr ?_; (case hd => rfl); (case hg => rfl); (case hr => first | (go_simp; done) | (go_simp; rfl)); intro gb191 hg w6 hbox hb; have n0_ := Aside0.mk (Kd.V_below (Kd.V_elderB (by (with_reducible repeat (first | apply Kd.V_alloc | apply Kd.V_drewN | apply Kd.V_drew)); exact HO0_3.out) gb191 (Nat.le_of_eq hg.symm)) hb); have n1_ := Aside0.mk (below_step (by repeat (first | (with_reducible first | exact HB.out | apply below_alloc | apply pw_below_drewN | apply below_drew1) | exact HB.out)) hb); have n2_ := Aside0.mk (hbox); have n3_ := Aside0.mk ((by rw [hg]; exact (below_size (by repeat (first | (with_reducible first | exact HB.out | apply below_alloc | apply pw_below_drewN | apply below_drew1) | exact HB.out))) : w.heap.size ≤ gb191)); have n4_ := Aside0.mk ((by rw [hg]; exact (below_size (by repeat (first | (with_reducible first | exact HB.out | apply below_alloc | apply pw_below_drewN | apply below_drew1) | exact HB.out))) : w.heap.size ≤ gb191)); clear HO0_3; clear HB; have HO0_3 := n0_; have HB := n1_; have BK191 := n2_; have GW191 := n3_; have GE191 := n4_; clear n0_ n1_ n2_ n3_ n4_; clear hb hbox hg; have hcz7_0 : w6.cell? ⟨gb191, 0, none⟩ = some (.int .i64 a0_0) := (blk_cell BK191.out 0).trans rfl; have hcz7_1 : w6.cell? ⟨gb191, 1, none⟩ = some (.string a0_1) := (blk_cell BK191.out 1).trans rfl; have hcz7_2 : w6.cell? ⟨gb191, 2, none⟩ = some (.string a0_2) := (blk_cell BK191.out 2).trans rfl; have hcz7_3 : w6.cell? ⟨gb191, 3, none⟩ = some (.slice A0_3 l0_3.length c0_3) := (blk_cell BK191.out 3).trans rfl; have hcz7_4 : w6.cell? ⟨gb191, 4, none⟩ = some (.int .i64 a0_4) := (blk_cell BK191.out 4).trans rfl; have hcz7_5 : w6.cell? ⟨gb191, 5, none⟩ = some (.int .i64 a0_5) := (blk_cell BK191.out 5).trans rfl; have hcz7_6 : w6.cell? ⟨gb191, 6, none⟩ = some (.string a0_6) := (blk_cell BK191.out 6).trans rfl; have hcz7_7 : w6.cell? ⟨gb191, 7, none⟩ = some (.string a0_7) := (blk_cell BK191.out 7).trans rfl; have hcz7_8 : w6.cell? ⟨gb191, 8, none⟩ = some (.int .i64 a0_8) := (blk_cell BK191.out 8).trans rfl; have hcz7_9 : w6.cell? ⟨gb191, 9, none⟩ = some (.int .i64 a0_9) := (blk_cell BK191.out 9).trans rfl; have hfz7_0 := blk_frozen BK191.out 0; have hfz7_1 := blk_frozen BK191.out 1; have hfz7_2 := blk_frozen BK191.out 2; have hfz7_3 := blk_frozen BK191.out 3; have hfz7_4 := blk_frozen BK191.out 4; have hfz7_5 := blk_frozen BK191.out 5; have hfz7_6 := blk_frozen BK191.out 6; have hfz7_7 := blk_frozen BK191.out 7; have hfz7_8 := blk_frozen BK191.out 8; have hfz7_9 := blk_frozen BK191.out 9) | ((with_reducible refine gate_callee (f := 17) rfl ?_); refine goesL_ (some 11) rfl rfl Tryd.func17 (by kernel_rfl) rfl #[.int .i64 a0_0] rfl (by (try simp only [List.map_toArray, List.map_cons, List.map_nil]); first | done | rfl | (simp only [List.length_drop, List.length_take]; rfl)) ?_; (with_reducible refine (strongboxref23_Verb.calls a0_0 t192 t193 _ A2.out).mono ?_); rintro e w' ⟨rfl, ⟨nd, rfl⟩⟩; refine ⟨_, rfl, ?_⟩; (try (rw [drewN_self w6]; generalize hq_ : World.drewN w6 _ = w6; have n0_ : Aside0 (Kd.V (Kd.int .u8) 5 w6 w.heap.size (fun k_ => (P0_3_ k_ ∨ w.heap.size ≤ k_) ∧ k_ ≠ gb191) (.slice A0_3 l0_3.length c0_3) l0_3) := ⟨by rw [← hq_]; exact (by (with_reducible repeat (first | apply Kd.V_alloc | apply Kd.V_drewN | apply Kd.V_drew)); exact HO0_3.out)⟩; have n1_ : Aside0 (w6.heap[gb191]? = some (.cells #[.int .i64 a0_0, .string a0_1, .string a0_2, .slice A0_3 l0_3.length c0_3, .int .i64 a0_4, .int .i64 a0_5, .string a0_6, .string a0_7, .int .i64 a0_8, .int .i64 a0_9] 39 (0, 0))) := ⟨by rw [← hq_]; exact (by (with_reducible repeat (first | refine blk_drewN ?_ _ | refine blk_drew ?_ | refine blk_alloc ?_ _)); exact BK191.out)⟩; have n2_ : Aside0 (Below w.heap.size w w6) := ⟨by rw [← hq_]; exact (by repeat (first | (with_reducible first | exact HB.out | apply below_alloc | apply pw_below_drewN | apply below_drew1 | refine below_set ?_ GE191.out) | exact HB.out))⟩; clear HO0_3 BK191 HB hq_; have HO0_3 := n0_; have BK191 := n1_; have HB := n2_; clear n0_ n1_ n2_; have hcz7_0 : w6.cell? ⟨gb191, 0, none⟩ = some (.int .i64 a0_0) := (blk_cell BK191.out 0).trans rfl; have hcz7_1 : w6.cell? ⟨gb191, 1, none⟩ = some (.string a0_1) := (blk_cell BK191.out 1).trans rfl; have hcz7_2 : w6.cell? ⟨gb191, 2, none⟩ = some (.string a0_2) := (blk_cell BK191.out 2).trans rfl; have hcz7_3 : w6.cell? ⟨gb191, 3, none⟩ = some (.slice A0_3 l0_3.length c0_3) := (blk_cell BK191.out 3).trans rfl; have hcz7_4 : w6.cell? ⟨gb191, 4, none⟩ = some (.int .i64 a0_4) := (blk_cell BK191.out 4).trans rfl; have hcz7_5 : w6.cell? ⟨gb191, 5, none⟩ = some (.int .i64 a0_5) := (blk_cell BK191.out 5).trans rfl; have hcz7_6 : w6.cell? ⟨gb191, 6, none⟩ = some (.string a0_6) := (blk_cell BK191.out 6).trans rfl; have hcz7_7 : w6.cell? ⟨gb191, 7, none⟩ = some (.string a0_7) := (blk_cell BK191.out 7).trans rfl; have hcz7_8 : w6.cell? ⟨gb191, 8, none⟩ = some (.int .i64 a0_8) := (blk_cell BK191.out 8).trans rfl; have hcz7_9 : w6.cell? ⟨gb191, 9, none⟩ = some (.int .i64 a0_9) := (blk_cell BK191.out 9).trans rfl))) | ((with_reducible refine gate_dst (N := 6) rfl ?_); refine box_event ?hg (N := 6) ?hd (cs := #[.int .i64 0, .string (⟨#[]⟩ : ByteArray), .string (⟨#[]⟩ : ByteArray), .slice none 0 0, .int .i64 0, .int .i64 0, .string (⟨#[]⟩ : ByteArray), .string (⟨#[]⟩ : ByteArray), .int .i64 0, .int .i64 0]) (t := 39) ?hr ?_; (case hd => rfl); (case hg => rfl); (case hr => first | (go_simp; done) | (go_simp; rfl)); intro gb194 hg w8 hbox hb; have n0_ := Aside0.mk (Kd.V_below (Kd.V_elderB (by (with_reducible repeat (first | apply Kd.V_alloc | apply Kd.V_drewN | apply Kd.V_drew)); exact HO0_3.out) gb194 (Nat.le_of_eq hg.symm)) hb); have n1_ := Aside0.mk (blk_below (g := gb191) (o := .cells #[.int .i64 a0_0, .string a0_1, .string a0_2, .slice A0_3 l0_3.length c0_3, .int .i64 a0_4, .int .i64 a0_5, .string a0_6, .string a0_7, .int .i64 a0_8, .int .i64 a0_9] 39 (0, 0)) (by (with_reducible repeat (first | refine blk_drewN ?_ _ | refine blk_drew ?_ | refine blk_alloc ?_ _)); exact BK191.out) hb); have n2_ := Aside0.mk (below_step (by repeat (first | (with_reducible first | exact HB.out | apply below_alloc | apply pw_below_drewN | apply below_drew1 | refine below_set ?_ GE191.out) | exact HB.out)) hb); have n3_ := Aside0.mk (hbox); have n4_ := Aside0.mk ((by rw [hg]; exact (below_size (by repeat (first | (with_reducible first | exact HB.out | apply below_alloc | apply pw_below_drewN | apply below_drew1 | refine below_set ?_ GE191.out) | exact HB.out))) : w.heap.size ≤ gb194)); have n5_ := Aside0.mk ((by rw [hg]; exact (below_size (by repeat (first | (with_reducible first | exact HB.out | apply below_alloc | apply pw_below_drewN | apply below_drew1 | refine below_set ?_ GE191.out) | exact HB.out))) : w.heap.size ≤ gb194)); have n6_ := Aside0.mk ((by rw [hg]; exact Nat.ne_of_lt (blk_lt (g := gb191) (o := .cells #[.int .i64 a0_0, .string a0_1, .string a0_2, .slice A0_3 l0_3.length c0_3, .int .i64 a0_4, .int .i64 a0_5, .string a0_6, .string a0_7, .int .i64 a0_8, .int .i64 a0_9] 39 (0, 0)) (by (with_reducible repeat (first | refine blk_drewN ?_ _ | refine blk_drew ?_ | refine blk_alloc ?_ _)); exact BK191.out)) : gb191 ≠ gb194)); have n7_ := Aside0.mk ((by rw [hg]; exact Nat.ne_of_gt (blk_lt (g := gb191) (o := .cells #[.int .i64 a0_0, .string a0_1, .string a0_2, .slice A0_3 l0_3.length c0_3, .int .i64 a0_4, .int .i64 a0_5, .string a0_6, .string a0_7, .int .i64 a0_8, .int .i64 a0_9] 39 (0, 0)) (by (with_reducible repeat (first | refine blk_drewN ?_ _ | refine blk_drew ?_ | refine blk_alloc ?_ _)); exact BK191.out)) : gb194 ≠ gb191)); clear HO0_3; clear BK191; clear HB; have HO0_3 := n0_; have BK191 := n1_; have HB := n2_; have BK194 := n3_; have GW194 := n4_; have GE194 := n5_; have NB191_194 := n6_; have NB194_191 := n7_; clear n0_ n1_ n2_ n3_ n4_ n5_ n6_ n7_; clear hb hbox hg; have hnb9 := NB194_191.out; have hnc9 := NB191_194.out; have hcz10_0 : w8.cell? ⟨gb194, 0, none⟩ = some (.int .i64 0) := (blk_cell BK194.out 0).trans rfl; have hcz10_1 : w8.cell? ⟨gb194, 1, none⟩ = some (.string (⟨#[]⟩ : ByteArray)) := (blk_cell BK194.out 1).trans rfl; have hcz10_2 : w8.cell? ⟨gb194, 2, none⟩ = some (.string (⟨#[]⟩ : ByteArray)) := (blk_cell BK194.out 2).trans rfl; have hcz10_3 : w8.cell? ⟨gb194, 3, none⟩ = some (.slice none 0 0) := (blk_cell BK194.out 3).trans rfl; have hcz10_4 : w8.cell? ⟨gb194, 4, none⟩ = some (.int .i64 0) := (blk_cell BK194.out 4).trans rfl; have hcz10_5 : w8.cell? ⟨gb194, 5, none⟩ = some (.int .i64 0) := (blk_cell BK194.out 5).trans rfl; have hcz10_6 : w8.cell? ⟨gb194, 6, none⟩ = some (.string (⟨#[]⟩ : ByteArray)) := (blk_cell BK194.out 6).trans rfl; have hcz10_7 : w8.cell? ⟨gb194, 7, none⟩ = some (.string (⟨#[]⟩ : ByteArray)) := (blk_cell BK194.out 7).trans rfl; have hcz10_8 : w8.cell? ⟨gb194, 8, none⟩ = some (.int .i64 0) := (blk_cell BK194.out 8).trans rfl; have hcz10_9 : w8.cell? ⟨gb194, 9, none⟩ = some (.int .i64 0) := (blk_cell BK194.out 9).trans rfl; have hfz10_0 := blk_frozen BK194.out 0; have hfz10_1 := blk_frozen BK194.out 1; have hfz10_2 := blk_frozen BK194.out 2; have hfz10_3 := blk_frozen BK194.out 3; have hfz10_4 := blk_frozen BK194.out 4; have hfz10_5 := blk_frozen BK194.out 5; have hfz10_6 := blk_frozen BK194.out 6; have hfz10_7 := blk_frozen BK194.out 7; have hfz10_8 := blk_frozen BK194.out 8; have hfz10_9 := blk_frozen BK194.out 9))
    go_loopg [4, 7] k (fun kq v4 v7 w' => ∃ (x4_1 : ByteArray) (x7_1 : Int) (x195001_1 : ByteArray) (x195002_1 : ByteArray) (x195003_1 : List Int) (x195004_1 : Int) (x195005_1 : Int) (x195006_1 : ByteArray) (x195007_1 : ByteArray) (x195008_1 : Int) (x195009_1 : Int) (u195003 : Value), v4 = .string x4_1 ∧ v7 = .int .i64 x7_1 ∧ Aside0 (strongboxref23_Text.l0 kq x4_1 t193 x7_1 a0_0 a0_1 a0_2 l0_3 a0_4 a0_5 a0_6 a0_7 a0_8 a0_9 a0_0 x195001_1 x195002_1 x195003_1 x195004_1 x195005_1 x195006_1 x195007_1 x195008_1 x195009_1 = some (r1, r2)) ∧ Aside0 (kq ≤ k) ∧ Aside0 (Kd.V (Kd.int .u8) 5 w' w.heap.size (fun k_ => (P0_3_ k_ ∨ w.heap.size ≤ k_) ∧ k_ ≠ gb191 ∧ k_ ≠ gb194) (.slice A0_3 l0_3.length c0_3) l0_3) ∧ Aside0 (Kd.V (Kd.int .u8) 5 w' w.heap.size (fun k_ => (P0_3_ k_ ∨ w.heap.size ≤ k_) ∧ k_ ≠ gb191 ∧ k_ ≠ gb194) u195003 x195003_1) ∧ Aside0 (w'.heap[gb191]? = some (.cells #[.int .i64 a0_0, .string a0_1, .string a0_2, (.slice A0_3 l0_3.length c0_3), .int .i64 a0_4, .int .i64 a0_5, .string a0_6, .string a0_7, .int .i64 a0_8, .int .i64 a0_9] 39 (0, 0))) ∧ Aside0 (w'.heap[gb194]? = some (.cells #[.int .i64 a0_0, .string x195001_1, .string x195002_1, u195003, .int .i64 x195004_1, .int .i64 x195005_1, .string x195006_1, .string x195007_1, .int .i64 x195008_1, .int .i64 x195009_1] 39 (0, 0))) ∧ Aside0 (Below w.heap.size w w'))
    case atStart => exact ⟨(t192), (0), ((⟨#[]⟩ : ByteArray)), ((⟨#[]⟩ : ByteArray)), (([] : List Int)), (0), (0), ((⟨#[]⟩ : ByteArray)), ((⟨#[]⟩ : ByteArray)), (0), (0), (.slice none 0 0), (by first | rfl | (simp; done) | (simp [*]; done)), (by first | rfl | (simp; done) | (simp [*]; done)), H', ⟨Nat.le_refl _⟩, ⟨by (with_reducible repeat (first | apply Kd.V_alloc | apply Kd.V_drewN | apply Kd.V_drew)); exact Kd.V_mono (Kd.V_far (p := ⟨gb194, 9, none⟩) (Kd.V_far (p := ⟨gb194, 8, none⟩) (Kd.V_far (p := ⟨gb194, 7, none⟩) (Kd.V_far (p := ⟨gb194, 6, none⟩) (Kd.V_far (p := ⟨gb194, 5, none⟩) (Kd.V_far (p := ⟨gb194, 4, none⟩) (Kd.V_far (p := ⟨gb194, 3, none⟩) (Kd.V_far (p := ⟨gb194, 2, none⟩) (Kd.V_far (p := ⟨gb194, 1, none⟩) (Kd.V_far (p := ⟨gb194, 0, none⟩) (Kd.V_mono HO0_3.out (fun k_ hk => (⟨hk, hk.2⟩ : _ ∧ k_ ≠ gb194))) (fun _ hk => hk.2) (.int .i64 a0_0)) (fun _ hk => hk.2) (.string (⟨#[]⟩ : ByteArray))) (fun _ hk => hk.2) (.string (⟨#[]⟩ : ByteArray))) (fun _ hk => hk.2) (.slice none 0 0)) (fun _ hk => hk.2) (.int .i64 0)) (fun _ hk => hk.2) (.int .i64 0)) (fun _ hk => hk.2) (.string (⟨#[]⟩ : ByteArray))) (fun _ hk => hk.2) (.string (⟨#[]⟩ : ByteArray))) (fun _ hk => hk.2) (.int .i64 0)) (fun _ hk => hk.2) (.int .i64 0)) (fun _ hk => ⟨hk.1.1.1, ⟨hk.1.1.2, hk.1.2⟩⟩)⟩, ⟨Kd.V_nil _ _ _ _ _⟩, ⟨by (with_reducible repeat (first | refine blk_drewN ?_ _ | refine blk_drew ?_ | refine blk_alloc ?_ _)); refine blk_far ?_ NB191_194.out _; (with_reducible repeat (first | refine blk_drewN ?_ _ | refine blk_drew ?_ | refine blk_alloc ?_ _)); refine blk_far ?_ NB191_194.out _; (with_reducible repeat (first | refine blk_drewN ?_ _ | refine blk_drew ?_ | refine blk_alloc ?_ _)); refine blk_far ?_ NB191_194.out _; (with_reducible repeat (first | refine blk_drewN ?_ _ | refine blk_drew ?_ | refine blk_alloc ?_ _)); refine blk_far ?_ NB191_194.out _; (with_reducible repeat (first | refine blk_drewN ?_ _ | refine blk_drew ?_ | refine blk_alloc ?_ _)); refine blk_far ?_ NB191_194.out _; (with_reducible repeat (first | refine blk_drewN ?_ _ | refine blk_drew ?_ | refine blk_alloc ?_ _)); refine blk_far ?_ NB191_194.out _; (with_reducible repeat (first | refine blk_drewN ?_ _ | refine blk_drew ?_ | refine blk_alloc ?_ _)); refine blk_far ?_ NB191_194.out _; (with_reducible repeat (first | refine blk_drewN ?_ _ | refine blk_drew ?_ | refine blk_alloc ?_ _)); refine blk_far ?_ NB191_194.out _; (with_reducible repeat (first | refine blk_drewN ?_ _ | refine blk_drew ?_ | refine blk_alloc ?_ _)); refine blk_far ?_ NB191_194.out _; (with_reducible repeat (first | refine blk_drewN ?_ _ | refine blk_drew ?_ | refine blk_alloc ?_ _)); refine blk_far ?_ NB191_194.out _; (with_reducible repeat (first | refine blk_drewN ?_ _ | refine blk_drew ?_ | refine blk_alloc ?_ _)); exact BK191.out⟩, ⟨by (with_reducible repeat (first | refine blk_drewN ?_ _ | refine blk_drew ?_ | refine blk_alloc ?_ _)); refine blk_put (cs := #[.int .i64 a0_0, .string (⟨#[]⟩ : ByteArray), .string (⟨#[]⟩ : ByteArray), .slice none 0 0, .int .i64 0, .int .i64 0, .string (⟨#[]⟩ : ByteArray), .string (⟨#[]⟩ : ByteArray), .int .i64 0, .int .i64 0]) ?_ 9 _ rfl; (with_reducible repeat (first | refine blk_drewN ?_ _ | refine blk_drew ?_ | refine blk_alloc ?_ _)); refine blk_put (cs := #[.int .i64 a0_0, .string (⟨#[]⟩ : ByteArray), .string (⟨#[]⟩ : ByteArray), .slice none 0 0, .int .i64 0, .int .i64 0, .string (⟨#[]⟩ : ByteArray), .string (⟨#[]⟩ : ByteArray), .int .i64 0, .int .i64 0]) ?_ 8 _ rfl; (with_reducible repeat (first | refine blk_drewN ?_ _ | refine blk_drew ?_ | refine blk_alloc ?_ _)); refine blk_put (cs := #[.int .i64 a0_0, .string (⟨#[]⟩ : ByteArray), .string (⟨#[]⟩ : ByteArray), .slice none 0 0, .int .i64 0, .int .i64 0, .string (⟨#[]⟩ : ByteArray), .string (⟨#[]⟩ : ByteArray), .int .i64 0, .int .i64 0]) ?_ 7 _ rfl; (with_reducible repeat (first | refine blk_drewN ?_ _ | refine blk_drew ?_ | refine blk_alloc ?_ _)); refine blk_put (cs := #[.int .i64 a0_0, .string (⟨#[]⟩ : ByteArray), .string (⟨#[]⟩ : ByteArray), .slice none 0 0, .int .i64 0, .int .i64 0, .string (⟨#[]⟩ : ByteArray), .string (⟨#[]⟩ : ByteArray), .int .i64 0, .int .i64 0]) ?_ 6 _ rfl; (with_reducible repeat (first | refine blk_drewN ?_ _ | refine blk_drew ?_ | refine blk_alloc ?_ _)); refine blk_put (cs := #[.int .i64 a0_0, .string (⟨#[]⟩ : ByteArray), .string (⟨#[]⟩ : ByteArray), .slice none 0 0, .int .i64 0, .int .i64 0, .string (⟨#[]⟩ : ByteArray), .string (⟨#[]⟩ : ByteArray), .int .i64 0, .int .i64 0]) ?_ 5 _ rfl; (with_reducible repeat (first | refine blk_drewN ?_ _ | refine blk_drew ?_ | refine blk_alloc ?_ _)); refine blk_put (cs := #[.int .i64 a0_0, .string (⟨#[]⟩ : ByteArray), .string (⟨#[]⟩ : ByteArray), .slice none 0 0, .int .i64 0, .int .i64 0, .string (⟨#[]⟩ : ByteArray), .string (⟨#[]⟩ : ByteArray), .int .i64 0, .int .i64 0]) ?_ 4 _ rfl; (with_reducible repeat (first | refine blk_drewN ?_ _ | refine blk_drew ?_ | refine blk_alloc ?_ _)); refine blk_put (cs := #[.int .i64 a0_0, .string (⟨#[]⟩ : ByteArray), .string (⟨#[]⟩ : ByteArray), .slice none 0 0, .int .i64 0, .int .i64 0, .string (⟨#[]⟩ : ByteArray), .string (⟨#[]⟩ : ByteArray), .int .i64 0, .int .i64 0]) ?_ 3 _ rfl; (with_reducible repeat (first | refine blk_drewN ?_ _ | refine blk_drew ?_ | refine blk_alloc ?_ _)); refine blk_put (cs := #[.int .i64 a0_0, .string (⟨#[]⟩ : ByteArray), .string (⟨#[]⟩ : ByteArray), .slice none 0 0, .int .i64 0, .int .i64 0, .string (⟨#[]⟩ : ByteArray), .string (⟨#[]⟩ : ByteArray), .int .i64 0, .int .i64 0]) ?_ 2 _ rfl; (with_reducible repeat (first | refine blk_drewN ?_ _ | refine blk_drew ?_ | refine blk_alloc ?_ _)); refine blk_put (cs := #[.int .i64 a0_0, .string (⟨#[]⟩ : ByteArray), .string (⟨#[]⟩ : ByteArray), .slice none 0 0, .int .i64 0, .int .i64 0, .string (⟨#[]⟩ : ByteArray), .string (⟨#[]⟩ : ByteArray), .int .i64 0, .int .i64 0]) ?_ 1 _ rfl; (with_reducible repeat (first | refine blk_drewN ?_ _ | refine blk_drew ?_ | refine blk_alloc ?_ _)); refine blk_put (cs := #[.int .i64 0, .string (⟨#[]⟩ : ByteArray), .string (⟨#[]⟩ : ByteArray), .slice none 0 0, .int .i64 0, .int .i64 0, .string (⟨#[]⟩ : ByteArray), .string (⟨#[]⟩ : ByteArray), .int .i64 0, .int .i64 0]) ?_ 0 _ rfl; (with_reducible repeat (first | refine blk_drewN ?_ _ | refine blk_drew ?_ | refine blk_alloc ?_ _)); exact BK194.out⟩, ⟨by repeat (first | (with_reducible first | exact HB.out | apply below_alloc | apply pw_below_drewN | apply below_drew1 | refine below_set ?_ GE191.out | refine below_set ?_ GE194.out) | exact HB.out)⟩⟩
    case round =>
      clear H'
      try clear c1
      try clear p2
      try clear c3
      try clear c3b0
      try clear c3b1
      try clear c9
      try clear hcz10_0
      try clear hcz10_1
      try clear hcz10_2
      try clear hcz10_3
      try clear hcz10_4
      try clear hcz10_5
      try clear hcz10_6
      try clear hcz10_7
      try clear hcz10_8
      try clear hcz10_9
      try clear hcz5_0
      try clear hcz5_1
      try clear hcz5_2
      try clear hcz5_3
      try clear hcz5_4
      try clear hcz5_5
      try clear hcz5_6
      try clear hcz5_7
      try clear hcz5_8
      try clear hcz5_9
      try clear hcz7_0
      try clear hcz7_1
      try clear hcz7_2
      try clear hcz7_3
      try clear hcz7_4
      try clear hcz7_5
      try clear hcz7_6
      try clear hcz7_7
      try clear hcz7_8
      try clear hcz7_9
      try clear hfz10_0
      try clear hfz10_1
      try clear hfz10_2
      try clear hfz10_3
      try clear hfz10_4
      try clear hfz10_5
      try clear hfz10_6
      try clear hfz10_7
      try clear hfz10_8
      try clear hfz10_9
      try clear hfz5_0
      try clear hfz5_1
      try clear hfz5_2
      try clear hfz5_3
      try clear hfz5_4
      try clear hfz5_5
      try clear hfz5_6
      try clear hfz5_7
      try clear hfz5_8
      try clear hfz5_9
      try clear hfz7_0
      try clear hfz7_1
      try clear hfz7_2
      try clear hfz7_3
      try clear hfz7_4
      try clear hfz7_5
      try clear hfz7_6
      try clear hfz7_7
      try clear hfz7_8
      try clear hfz7_9
      obtain ⟨x4_1, x7_1, x195001_1, x195002_1, x195003_1, x195004_1, x195005_1, x195006_1, x195007_1, x195008_1, x195009_1, u195003, rfl, rfl, HA, HK1, HO_192003, HO_195003, BK191, BK194, HB⟩ := hrel
      cases gk with
      | zero => exact absurd HA.out (by simp [strongboxref23_Text.l0])
      | succ k1 =>
        have H := HA.out
        clear HA
        simp only [strongboxref23_Text.l0] at H
        by_cases c11 : x7_1 < (t193.size : Int)
        · rw [if_pos c11] at H
          have c11b0 : decide (x7_1 < (t193.size : Int)) = true := decide_eq_true c11
          clear c11
          by_cases c12 : x4_1.size + 1 ≤ 9223372036854775807
          · rw [if_pos c12] at H
            have c12b0 := eq_true c12
            have c12b1 : decide (x4_1.size + 1 ≤ 9223372036854775807) = true := decide_eq_true c12
            try have c12b2 : (9223372036854775807 < x4_1.size + 1) = False := eq_false (Nat.not_lt.2 c12)
            by_cases c13 : 0 ≤ x7_1
            · rw [if_pos c13] at H
              have c13b0 : decide (0 ≤ x7_1) = true := decide_eq_true c13
              clear c13
              by_cases c15 : (bt t193 x7_1) = 98
              · rw [if_pos c15] at H
                have c15b0 : ((bt t193 x7_1) == 98) = true := beq_iff_eq.mpr c15
                have c15b1 : ((bt t193 x7_1) != 98) = false := bne_eq_false_iff_eq.mpr c15
                clear c15
                replace H := Option.bind_eq_some_iff.mp H
                obtain ⟨t196, A160, H⟩ := H
                replace H : (if (x4_1 ++ (⟨#[32]⟩ : ByteArray)).size + t196.size ≤ 9223372036854775807 then (strongboxref23_Text.l0 k1 ((x4_1 ++ (⟨#[32]⟩ : ByteArray)) ++ t196) t193 (wrap64 (x7_1 + 1)) a0_0 a0_1 a0_2 l0_3 a0_4 a0_5 a0_6 a0_7 a0_8 a0_9 a0_0 a0_1 x195002_1 x195003_1 x195004_1 x195005_1 x195006_1 x195007_1 x195008_1 x195009_1) else (none)) = some (r1, r2) := H
                have A16 := Aside0.mk A160
                clear A160
                by_cases c17 : (x4_1 ++ (⟨#[32]⟩ : ByteArray)).size + t196.size ≤ 9223372036854775807
                · rw [if_pos c17] at H
                  have c17b0 := eq_true c17
                  have c17b1 : decide ((x4_1 ++ (⟨#[32]⟩ : ByteArray)).size + t196.size ≤ 9223372036854775807) = true := decide_eq_true c17
                  try have c17b2 : (9223372036854775807 < (x4_1 ++ (⟨#[32]⟩ : ByteArray)).size + t196.size) = False := eq_false (Nat.not_lt.2 c17)
                  have c17b3 : (9223372036854775807 < x4_1.size + 1 + t196.size) = False := eq_false (by have h_ := c17; rw [ByteArray.size_append] at h_; exact Nat.not_lt.2 h_)
                  have H' := Aside0.mk H
                  clear H
                  have p14 : 0 ≤ (x7_1 : Int) := of_decide_eq_true (by first | (with_reducible assumption) | assumption)
                  have q14 : x7_1 < (t193.size : Int) := of_decide_eq_true (by first | (with_reducible assumption) | assumption)
                  have hx14 := bt_at t193 x7_1
                  replace p14 := eq_true p14
                  replace q14 := eq_true q14
                  try go_wp2
                  have n0_ := Aside0.mk (Kd.V_drew HO_192003.out)
                  have n1_ := Aside0.mk (Kd.V_drew HO_195003.out)
                  have n2_ := Aside0.mk (blk_drew BK191.out)
                  have n3_ := Aside0.mk (blk_drew BK194.out)
                  have n4_ := Aside0.mk (below_drew1 HB.out)
                  clear HO_192003
                  clear HO_195003
                  clear BK191
                  clear BK194
                  clear HB
                  have HO_192003 := n0_
                  have HO_195003 := n1_
                  have BK191 := n2_
                  have BK194 := n3_
                  have HB := n4_
                  clear n0_ n1_ n2_ n3_ n4_
                  refine start_ (n := 10) (S := fun w' => w'.cell? ⟨gb191, 0, none⟩ = some (.int .i64 a0_0) ∧ w'.cell? ⟨gb191, 1, none⟩ = some (.string a0_1) ∧ w'.cell? ⟨gb191, 2, none⟩ = some (.string a0_2) ∧ w'.cell? ⟨gb191, 3, none⟩ = some (.slice A0_3 l0_3.length c0_3) ∧ w'.cell? ⟨gb191, 4, none⟩ = some (.int .i64 a0_4) ∧ w'.cell? ⟨gb191, 5, none⟩ = some (.int .i64 a0_5) ∧ w'.cell? ⟨gb191, 6, none⟩ = some (.string a0_6) ∧ w'.cell? ⟨gb191, 7, none⟩ = some (.string a0_7) ∧ w'.cell? ⟨gb191, 8, none⟩ = some (.int .i64 a0_8) ∧ w'.cell? ⟨gb191, 9, none⟩ = some (.int .i64 a0_9)) (ds := []) #[false, false, false, false, false, false, false, false, false, false] (by kernel_rfl) rfl rfl ⟨(blk_cell BK191.out 0).trans rfl, (blk_cell BK191.out 1).trans rfl, (blk_cell BK191.out 2).trans rfl, (blk_cell BK191.out 3).trans rfl, (blk_cell BK191.out 4).trans rfl, (blk_cell BK191.out 5).trans rfl, (blk_cell BK191.out 6).trans rfl, (blk_cell BK191.out 7).trans rfl, (blk_cell BK191.out 8).trans rfl, (blk_cell BK191.out 9).trans rfl⟩ (fun hHeld => ?_); refine with_tabW strongboxref23_Text.tab12 strongboxref23_Text.bits12 (fun HT_ HW_ => ?_)
                  generalize wr.drew = w18 at HO_192003 HO_195003 BK191 BK194 HB hHeld ⊢
                  refine pure_ (i := 0) (N := some 43) (v := ?_) (a' := ?_) #[true, false, false, false, false, false, false, false, false, false] rfl rfl (any_of HT_.out (by kernel_rfl)) (fun _ _ _ h => h) (Or.inl ⟨by rfl, ?_⟩) ?_ ?_
                  rotate_left
                  · intro w'
                    go_simp
                    with_reducible rfl
                  rotate_left
                  · simp only [Act.put, List.setIfInBounds_toArray, List.set_cons_zero, List.set_cons_succ, i64_w, i32_w]
                    rfl
                  refine pure_ (i := 1) (N := some 44) (v := ?_) (a' := ?_) #[true, true, false, false, false, false, false, false, false, false] rfl rfl (any_of HT_.out (by kernel_rfl)) (fun _ _ _ h => h) (Or.inl ⟨by rfl, ?_⟩) ?_ ?_
                  rotate_left
                  · intro w'
                    go_simp
                    with_reducible rfl
                  rotate_left
                  · simp only [Act.put, List.setIfInBounds_toArray, List.set_cons_zero, List.set_cons_succ, i64_w, i32_w]
                    rfl
                  refine pure_ (i := 5) (N := some 48) (v := ?_) (a' := ?_) #[true, true, false, false, false, true, false, false, false, false] rfl rfl (any_of HT_.out (by kernel_rfl)) (fun _ _ _ h => h) (Or.inl ⟨by rfl, ?_⟩) ?_ ?_
                  rotate_left
                  · intro w'
                    go_simp
                    with_reducible rfl
                  rotate_left
                  · simp only [Act.put, List.setIfInBounds_toArray, List.set_cons_zero, List.set_cons_succ, i64_w, i32_w]
                    rfl
                  refine take_ (i := 2) (N := some 45) (v := ?_) (a' := ?_) #[true, true, true, false, false, true, false, false, false, false] rfl rfl (take_ofW HT_.out HW_.out (by kernel_rfl)) (fun _ _ _ h => h) (Or.inl ⟨by rfl, ?_⟩) hHeld ?_ ?_
                  rotate_left
                  · rintro w' ⟨s0, s1, s2, s3, s4, s5, s6, s7, s8, s9⟩
                    go_simp
                    with_reducible rfl
                  rotate_left
                  · simp only [Act.put, List.setIfInBounds_toArray, List.set_cons_zero, List.set_cons_succ, i64_w, i32_w]
                    rfl
                  refine take_ (i := 6) (N := some 49) (v := ?_) (a' := ?_) #[true, true, true, false, false, true, true, false, false, false] rfl rfl (take_ofW HT_.out HW_.out (by kernel_rfl)) (fun _ _ _ h => h) (Or.inl ⟨by rfl, ?_⟩) hHeld ?_ ?_
                  rotate_left
                  · rintro w' ⟨s0, s1, s2, s3, s4, s5, s6, s7, s8, s9⟩
                    go_simp
                    with_reducible rfl
                  rotate_left
                  · simp only [Act.put, List.setIfInBounds_toArray, List.set_cons_zero, List.set_cons_succ, i64_w, i32_w]
                    rfl
                  refine one_ (i := 3) (N := some 46) #[true, true, true, true, false, true, true, false, false, false] rfl rfl (one_of HT_.out (by kernel_rfl)) (by decide) (fun K hK => ?_)
                  refine goes_ Tryd.func31 (by kernel_rfl) rfl #[.string a0_1] (by rfl) rfl rfl (by (try simp only [List.map_toArray, List.map_cons, List.map_nil]); first | done | rfl | (simp only [List.length_drop, List.length_take]; rfl)) ?_
                  with_reducible refine (strongboxref23_bytes.calls k1 a0_1 t196 _ A16.out).mono ?_
                  rintro e w' ⟨rfl, ⟨nd, rfl⟩⟩
                  refine ⟨_, rfl, ?_⟩
                  refine hK.out _ _ ⟨(blk_cell BK191.out 0).trans rfl, (blk_cell BK191.out 1).trans rfl, (blk_cell BK191.out 2).trans rfl, (blk_cell BK191.out 3).trans rfl, (blk_cell BK191.out 4).trans rfl, (blk_cell BK191.out 5).trans rfl, (blk_cell BK191.out 6).trans rfl, (blk_cell BK191.out 7).trans rfl, (blk_cell BK191.out 8).trans rfl, (blk_cell BK191.out 9).trans rfl⟩ (fun hHeld => ?_)
                  clear hK K
                  refine norm_ (a' := ?_) ?_ ?_
                  rotate_left
                  · show Act.put _ (some 46) _ = _
                    simp only [Act.put, List.setIfInBounds_toArray, List.set_cons_zero, List.set_cons_succ, i64_w, i32_w]
                    rfl
                  refine pure_ (i := 4) (N := some 47) (v := ?_) (a' := ?_) #[true, true, true, true, true, true, true, false, false, false] rfl rfl (any_of HT_.out (by kernel_rfl)) (fun _ _ _ h => h) (Or.inl ⟨by rfl, ?_⟩) ?_ ?_
                  rotate_left
                  · intro w'
                    go_simp
                    with_reducible rfl
                  rotate_left
                  · simp only [Act.put, List.setIfInBounds_toArray, List.set_cons_zero, List.set_cons_succ, i64_w, i32_w]
                    rfl
                  refine pure_ (i := 7) (N := some 4) (v := ?_) (a' := ?_) #[true, true, true, true, true, true, true, true, false, false] rfl rfl (any_of HT_.out (by kernel_rfl)) (fun _ _ _ h => h) (Or.inl ⟨by rfl, ?_⟩) ?_ ?_
                  rotate_left
                  · intro w'
                    go_simp
                    with_reducible rfl
                  rotate_left
                  · simp only [Act.put, List.setIfInBounds_toArray, List.set_cons_zero, List.set_cons_succ, i64_w, i32_w]
                    rfl
                  refine pure_ (i := 8) (N := some 50) (v := ?_) (a' := ?_) #[true, true, true, true, true, true, true, true, true, false] rfl rfl (any_of HT_.out (by kernel_rfl)) (fun _ _ _ h => h) (Or.inl ⟨by rfl, ?_⟩) ?_ ?_
                  rotate_left
                  · intro w'
                    go_simp
                    with_reducible rfl
                  rotate_left
                  · simp only [Act.put, List.setIfInBounds_toArray, List.set_cons_zero, List.set_cons_succ, i64_w, i32_w]
                    rfl
                  refine one_ (i := 9) (N := none) #[true, true, true, true, true, true, true, true, true, true] rfl rfl (one_of HT_.out (by kernel_rfl)) (by decide) (fun K hK => ?_)
                  have hs19 : w18.cell? ⟨gb194, 1, none⟩ = some (.string x195001_1) := (blk_cell BK194.out 1).trans rfl
                  have hfs19 := blk_frozen BK194.out 1
                  have hns19_0 := NB191_194.out
                  have hms19_0 := NB194_191.out
                  refine skip_ (w1 := ?_) (by rfl) rfl ?_ ?_
                  rotate_left
                  · go_simp
                    rfl
                  refine hK.out _ _ ⟨((cell_far (p := ⟨gb194, _, none⟩) NB191_194.out _).trans (hHeld.1)), ((cell_far (p := ⟨gb194, _, none⟩) NB191_194.out _).trans (hHeld.2.1)), ((cell_far (p := ⟨gb194, _, none⟩) NB191_194.out _).trans (hHeld.2.2.1)), ((cell_far (p := ⟨gb194, _, none⟩) NB191_194.out _).trans (hHeld.2.2.2.1)), ((cell_far (p := ⟨gb194, _, none⟩) NB191_194.out _).trans (hHeld.2.2.2.2.1)), ((cell_far (p := ⟨gb194, _, none⟩) NB191_194.out _).trans (hHeld.2.2.2.2.2.1)), ((cell_far (p := ⟨gb194, _, none⟩) NB191_194.out _).trans (hHeld.2.2.2.2.2.2.1)), ((cell_far (p := ⟨gb194, _, none⟩) NB191_194.out _).trans (hHeld.2.2.2.2.2.2.2.1)), ((cell_far (p := ⟨gb194, _, none⟩) NB191_194.out _).trans (hHeld.2.2.2.2.2.2.2.2.1)), ((cell_far (p := ⟨gb194, _, none⟩) NB191_194.out _).trans (hHeld.2.2.2.2.2.2.2.2.2))⟩ (fun hHeld => ?_)
                  clear hK K
                  refine done_ (done_of HT_.out (by kernel_rfl)) ?_
                  try go_wp2
                  go_roundg k1
                  case measure => have := HK1.out; omega
                  case rel => exact ⟨((x4_1 ++ (⟨#[32]⟩ : ByteArray)) ++ t196), (wrap64 (x7_1 + 1)), (a0_1), (x195002_1), (x195003_1), (x195004_1), (x195005_1), (x195006_1), (x195007_1), (x195008_1), (x195009_1), (u195003), (by first | rfl | (simp; done) | (simp [*]; done)), (by first | rfl | (simp; done) | (simp [*]; done)), H', ⟨by have := HK1.out; omega⟩, ⟨by (with_reducible repeat (first | apply Kd.V_alloc | apply Kd.V_drewN | apply Kd.V_drew)); exact Kd.V_mono (Kd.V_far (p := ⟨gb194, 1, none⟩) (Kd.V_mono HO_192003.out (fun k_ hk => (⟨hk, hk.2.2⟩ : _ ∧ k_ ≠ gb194))) (fun _ hk => hk.2) (.string a0_1)) (fun _ hk => ⟨hk.1.1, ⟨hk.1.2.1, hk.1.2.2⟩⟩)⟩, ⟨by (with_reducible repeat (first | apply Kd.V_alloc | apply Kd.V_drewN | apply Kd.V_drew)); exact Kd.V_mono (Kd.V_far (p := ⟨gb194, 1, none⟩) (Kd.V_mono HO_195003.out (fun k_ hk => (⟨hk, hk.2.2⟩ : _ ∧ k_ ≠ gb194))) (fun _ hk => hk.2) (.string a0_1)) (fun _ hk => ⟨hk.1.1, ⟨hk.1.2.1, hk.1.2.2⟩⟩)⟩, ⟨by (with_reducible repeat (first | refine blk_drewN ?_ _ | refine blk_drew ?_ | refine blk_alloc ?_ _)); refine blk_far ?_ NB191_194.out _; (with_reducible repeat (first | refine blk_drewN ?_ _ | refine blk_drew ?_ | refine blk_alloc ?_ _)); exact BK191.out⟩, ⟨by (with_reducible repeat (first | refine blk_drewN ?_ _ | refine blk_drew ?_ | refine blk_alloc ?_ _)); refine blk_put (cs := #[.int .i64 a0_0, .string x195001_1, .string x195002_1, u195003, .int .i64 x195004_1, .int .i64 x195005_1, .string x195006_1, .string x195007_1, .int .i64 x195008_1, .int .i64 x195009_1]) ?_ 1 _ rfl; (with_reducible repeat (first | refine blk_drewN ?_ _ | refine blk_drew ?_ | refine blk_alloc ?_ _)); exact BK194.out⟩, ⟨by repeat (first | (with_reducible first | exact HB.out | apply below_alloc | apply pw_below_drewN | apply below_drew1 | refine below_set ?_ GE191.out | refine below_set ?_ GE194.out) | exact HB.out)⟩⟩
                · rw [if_neg c17] at H
                  exact absurd H (by simp)
              · rw [if_neg c15] at H
                have c15b0 : ((bt t193 x7_1) == 98) = false := beq_eq_false_iff_ne.mpr c15
                have c15b1 : ((bt t193 x7_1) != 98) = true := bne_iff_ne.mpr c15
                by_cases c20 : (bt t193 x7_1) = 107
                · rw [if_pos c20] at H
                  have c20b0 : ((bt t193 x7_1) == 107) = true := beq_iff_eq.mpr c20
                  have c20b1 : ((bt t193 x7_1) != 107) = false := bne_eq_false_iff_eq.mpr c20
                  clear c20
                  replace H := Option.bind_eq_some_iff.mp H
                  obtain ⟨t197, A210, H⟩ := H
                  replace H : (if (x4_1 ++ (⟨#[32]⟩ : ByteArray)).size + t197.size ≤ 9223372036854775807 then (strongboxref23_Text.l0 k1 ((x4_1 ++ (⟨#[32]⟩ : ByteArray)) ++ t197) t193 (wrap64 (x7_1 + 1)) a0_0 a0_1 a0_2 l0_3 a0_4 a0_5 a0_6 a0_7 a0_8 a0_9 a0_0 x195001_1 a0_2 x195003_1 x195004_1 x195005_1 x195006_1 x195007_1 x195008_1 x195009_1) else (none)) = some (r1, r2) := H
                  have A21 := Aside0.mk A210
                  clear A210
                  by_cases c22 : (x4_1 ++ (⟨#[32]⟩ : ByteArray)).size + t197.size ≤ 9223372036854775807
                  · rw [if_pos c22] at H
                    have c22b0 := eq_true c22
                    have c22b1 : decide ((x4_1 ++ (⟨#[32]⟩ : ByteArray)).size + t197.size ≤ 9223372036854775807) = true := decide_eq_true c22
                    try have c22b2 : (9223372036854775807 < (x4_1 ++ (⟨#[32]⟩ : ByteArray)).size + t197.size) = False := eq_false (Nat.not_lt.2 c22)
                    have c22b3 : (9223372036854775807 < x4_1.size + 1 + t197.size) = False := eq_false (by have h_ := c22; rw [ByteArray.size_append] at h_; exact Nat.not_lt.2 h_)
                    have H' := Aside0.mk H
                    clear H
                    have p14 : 0 ≤ (x7_1 : Int) := of_decide_eq_true (by first | (with_reducible assumption) | assumption)
                    have q14 : x7_1 < (t193.size : Int) := of_decide_eq_true (by first | (with_reducible assumption) | assumption)
                    have hx14 := bt_at t193 x7_1
                    replace p14 := eq_true p14
                    replace q14 := eq_true q14
                    try go_wp2
                    have n0_ := Aside0.mk (Kd.V_drew HO_192003.out)
                    have n1_ := Aside0.mk (Kd.V_drew HO_195003.out)
                    have n2_ := Aside0.mk (blk_drew BK191.out)
                    have n3_ := Aside0.mk (blk_drew BK194.out)
                    have n4_ := Aside0.mk (below_drew1 HB.out)
                    clear HO_192003
                    clear HO_195003
                    clear BK191
                    clear BK194
                    clear HB
                    have HO_192003 := n0_
                    have HO_195003 := n1_
                    have BK191 := n2_
                    have BK194 := n3_
                    have HB := n4_
                    clear n0_ n1_ n2_ n3_ n4_
                    refine start_ (n := 10) (S := fun w' => w'.cell? ⟨gb191, 0, none⟩ = some (.int .i64 a0_0) ∧ w'.cell? ⟨gb191, 1, none⟩ = some (.string a0_1) ∧ w'.cell? ⟨gb191, 2, none⟩ = some (.string a0_2) ∧ w'.cell? ⟨gb191, 3, none⟩ = some (.slice A0_3 l0_3.length c0_3) ∧ w'.cell? ⟨gb191, 4, none⟩ = some (.int .i64 a0_4) ∧ w'.cell? ⟨gb191, 5, none⟩ = some (.int .i64 a0_5) ∧ w'.cell? ⟨gb191, 6, none⟩ = some (.string a0_6) ∧ w'.cell? ⟨gb191, 7, none⟩ = some (.string a0_7) ∧ w'.cell? ⟨gb191, 8, none⟩ = some (.int .i64 a0_8) ∧ w'.cell? ⟨gb191, 9, none⟩ = some (.int .i64 a0_9)) (ds := []) #[false, false, false, false, false, false, false, false, false, false] (by kernel_rfl) rfl rfl ⟨(blk_cell BK191.out 0).trans rfl, (blk_cell BK191.out 1).trans rfl, (blk_cell BK191.out 2).trans rfl, (blk_cell BK191.out 3).trans rfl, (blk_cell BK191.out 4).trans rfl, (blk_cell BK191.out 5).trans rfl, (blk_cell BK191.out 6).trans rfl, (blk_cell BK191.out 7).trans rfl, (blk_cell BK191.out 8).trans rfl, (blk_cell BK191.out 9).trans rfl⟩ (fun hHeld => ?_); refine with_tabW strongboxref23_Text.tab14 strongboxref23_Text.bits14 (fun HT_ HW_ => ?_)
                    generalize wr.drew = w23 at HO_192003 HO_195003 BK191 BK194 HB hHeld ⊢
                    refine pure_ (i := 0) (N := some 53) (v := ?_) (a' := ?_) #[true, false, false, false, false, false, false, false, false, false] rfl rfl (any_of HT_.out (by kernel_rfl)) (fun _ _ _ h => h) (Or.inl ⟨by rfl, ?_⟩) ?_ ?_
                    rotate_left
                    · intro w'
                      go_simp
                      with_reducible rfl
                    rotate_left
                    · simp only [Act.put, List.setIfInBounds_toArray, List.set_cons_zero, List.set_cons_succ, i64_w, i32_w]
                      rfl
                    refine pure_ (i := 1) (N := some 54) (v := ?_) (a' := ?_) #[true, true, false, false, false, false, false, false, false, false] rfl rfl (any_of HT_.out (by kernel_rfl)) (fun _ _ _ h => h) (Or.inl ⟨by rfl, ?_⟩) ?_ ?_
                    rotate_left
                    · intro w'
                      go_simp
                      with_reducible rfl
                    rotate_left
                    · simp only [Act.put, List.setIfInBounds_toArray, List.set_cons_zero, List.set_cons_succ, i64_w, i32_w]
                      rfl
                    refine pure_ (i := 5) (N := some 58) (v := ?_) (a' := ?_) #[true, true, false, false, false, true, false, false, false, false] rfl rfl (any_of HT_.out (by kernel_rfl)) (fun _ _ _ h => h) (Or.inl ⟨by rfl, ?_⟩) ?_ ?_
                    rotate_left
                    · intro w'
                      go_simp
                      with_reducible rfl
                    rotate_left
                    · simp only [Act.put, List.setIfInBounds_toArray, List.set_cons_zero, List.set_cons_succ, i64_w, i32_w]
                      rfl
                    refine take_ (i := 2) (N := some 55) (v := ?_) (a' := ?_) #[true, true, true, false, false, true, false, false, false, false] rfl rfl (take_ofW HT_.out HW_.out (by kernel_rfl)) (fun _ _ _ h => h) (Or.inl ⟨by rfl, ?_⟩) hHeld ?_ ?_
                    rotate_left
                    · rintro w' ⟨s0, s1, s2, s3, s4, s5, s6, s7, s8, s9⟩
                      go_simp
                      with_reducible rfl
                    rotate_left
                    · simp only [Act.put, List.setIfInBounds_toArray, List.set_cons_zero, List.set_cons_succ, i64_w, i32_w]
                      rfl
                    refine take_ (i := 6) (N := some 59) (v := ?_) (a' := ?_) #[true, true, true, false, false, true, true, false, false, false] rfl rfl (take_ofW HT_.out HW_.out (by kernel_rfl)) (fun _ _ _ h => h) (Or.inl ⟨by rfl, ?_⟩) hHeld ?_ ?_
                    rotate_left
                    · rintro w' ⟨s0, s1, s2, s3, s4, s5, s6, s7, s8, s9⟩
                      go_simp
                      with_reducible rfl
                    rotate_left
                    · simp only [Act.put, List.setIfInBounds_toArray, List.set_cons_zero, List.set_cons_succ, i64_w, i32_w]
                      rfl
                    refine one_ (i := 3) (N := some 56) #[true, true, true, true, false, true, true, false, false, false] rfl rfl (one_of HT_.out (by kernel_rfl)) (by decide) (fun K hK => ?_)
                    refine goes_ Tryd.func31 (by kernel_rfl) rfl #[.string a0_2] (by rfl) rfl rfl (by (try simp only [List.map_toArray, List.map_cons, List.map_nil]); first | done | rfl | (simp only [List.length_drop, List.length_take]; rfl)) ?_
                    with_reducible refine (strongboxref23_bytes.calls k1 a0_2 t197 _ A21.out).mono ?_
                    rintro e w' ⟨rfl, ⟨nd, rfl⟩⟩
                    refine ⟨_, rfl, ?_⟩
                    refine hK.out _ _ ⟨(blk_cell BK191.out 0).trans rfl, (blk_cell BK191.out 1).trans rfl, (blk_cell BK191.out 2).trans rfl, (blk_cell BK191.out 3).trans rfl, (blk_cell BK191.out 4).trans rfl, (blk_cell BK191.out 5).trans rfl, (blk_cell BK191.out 6).trans rfl, (blk_cell BK191.out 7).trans rfl, (blk_cell BK191.out 8).trans rfl, (blk_cell BK191.out 9).trans rfl⟩ (fun hHeld => ?_)
                    clear hK K
                    refine norm_ (a' := ?_) ?_ ?_
                    rotate_left
                    · show Act.put _ (some 56) _ = _
                      simp only [Act.put, List.setIfInBounds_toArray, List.set_cons_zero, List.set_cons_succ, i64_w, i32_w]
                      rfl
                    refine pure_ (i := 4) (N := some 57) (v := ?_) (a' := ?_) #[true, true, true, true, true, true, true, false, false, false] rfl rfl (any_of HT_.out (by kernel_rfl)) (fun _ _ _ h => h) (Or.inl ⟨by rfl, ?_⟩) ?_ ?_
                    rotate_left
                    · intro w'
                      go_simp
                      with_reducible rfl
                    rotate_left
                    · simp only [Act.put, List.setIfInBounds_toArray, List.set_cons_zero, List.set_cons_succ, i64_w, i32_w]
                      rfl
                    refine pure_ (i := 7) (N := some 4) (v := ?_) (a' := ?_) #[true, true, true, true, true, true, true, true, false, false] rfl rfl (any_of HT_.out (by kernel_rfl)) (fun _ _ _ h => h) (Or.inl ⟨by rfl, ?_⟩) ?_ ?_
                    rotate_left
                    · intro w'
                      go_simp
                      with_reducible rfl
                    rotate_left
                    · simp only [Act.put, List.setIfInBounds_toArray, List.set_cons_zero, List.set_cons_succ, i64_w, i32_w]
                      rfl
                    refine pure_ (i := 8) (N := some 60) (v := ?_) (a' := ?_) #[true, true, true, true, true, true, true, true, true, false] rfl rfl (any_of HT_.out (by kernel_rfl)) (fun _ _ _ h => h) (Or.inl ⟨by rfl, ?_⟩) ?_ ?_
                    rotate_left
                    · intro w'
                      go_simp
                      with_reducible rfl
                    rotate_left
                    · simp only [Act.put, List.setIfInBounds_toArray, List.set_cons_zero, List.set_cons_succ, i64_w, i32_w]
                      rfl
                    refine one_ (i := 9) (N := none) #[true, true, true, true, true, true, true, true, true, true] rfl rfl (one_of HT_.out (by kernel_rfl)) (by decide) (fun K hK => ?_)
                    have hs24 : w23.cell? ⟨gb194, 2, none⟩ = some (.string x195002_1) := (blk_cell BK194.out 2).trans rfl
                    have hfs24 := blk_frozen BK194.out 2
                    have hns24_0 := NB191_194.out
                    have hms24_0 := NB194_191.out
                    refine skip_ (w1 := ?_) (by rfl) rfl ?_ ?_
                    rotate_left
                    · go_simp
                      rfl
                    refine hK.out _ _ ⟨((cell_far (p := ⟨gb194, _, none⟩) NB191_194.out _).trans (hHeld.1)), ((cell_far (p := ⟨gb194, _, none⟩) NB191_194.out _).trans (hHeld.2.1)), ((cell_far (p := ⟨gb194, _, none⟩) NB191_194.out _).trans (hHeld.2.2.1)), ((cell_far (p := ⟨gb194, _, none⟩) NB191_194.out _).trans (hHeld.2.2.2.1)), ((cell_far (p := ⟨gb194, _, none⟩) NB191_194.out _).trans (hHeld.2.2.2.2.1)), ((cell_far (p := ⟨gb194, _, none⟩) NB191_194.out _).trans (hHeld.2.2.2.2.2.1)), ((cell_far (p := ⟨gb194, _, none⟩) NB191_194.out _).trans (hHeld.2.2.2.2.2.2.1)), ((cell_far (p := ⟨gb194, _, none⟩) NB191_194.out _).trans (hHeld.2.2.2.2.2.2.2.1)), ((cell_far (p := ⟨gb194, _, none⟩) NB191_194.out _).trans (hHeld.2.2.2.2.2.2.2.2.1)), ((cell_far (p := ⟨gb194, _, none⟩) NB191_194.out _).trans (hHeld.2.2.2.2.2.2.2.2.2))⟩ (fun hHeld => ?_)
                    clear hK K
                    refine done_ (done_of HT_.out (by kernel_rfl)) ?_
                    try go_wp2
                    go_roundg k1
                    case measure => have := HK1.out; omega
                    case rel => exact ⟨((x4_1 ++ (⟨#[32]⟩ : ByteArray)) ++ t197), (wrap64 (x7_1 + 1)), (x195001_1), (a0_2), (x195003_1), (x195004_1), (x195005_1), (x195006_1), (x195007_1), (x195008_1), (x195009_1), (u195003), (by first | rfl | (simp; done) | (simp [*]; done)), (by first | rfl | (simp; done) | (simp [*]; done)), H', ⟨by have := HK1.out; omega⟩, ⟨by (with_reducible repeat (first | apply Kd.V_alloc | apply Kd.V_drewN | apply Kd.V_drew)); exact Kd.V_mono (Kd.V_far (p := ⟨gb194, 2, none⟩) (Kd.V_mono HO_192003.out (fun k_ hk => (⟨hk, hk.2.2⟩ : _ ∧ k_ ≠ gb194))) (fun _ hk => hk.2) (.string a0_2)) (fun _ hk => ⟨hk.1.1, ⟨hk.1.2.1, hk.1.2.2⟩⟩)⟩, ⟨by (with_reducible repeat (first | apply Kd.V_alloc | apply Kd.V_drewN | apply Kd.V_drew)); exact Kd.V_mono (Kd.V_far (p := ⟨gb194, 2, none⟩) (Kd.V_mono HO_195003.out (fun k_ hk => (⟨hk, hk.2.2⟩ : _ ∧ k_ ≠ gb194))) (fun _ hk => hk.2) (.string a0_2)) (fun _ hk => ⟨hk.1.1, ⟨hk.1.2.1, hk.1.2.2⟩⟩)⟩, ⟨by (with_reducible repeat (first | refine blk_drewN ?_ _ | refine blk_drew ?_ | refine blk_alloc ?_ _)); refine blk_far ?_ NB191_194.out _; (with_reducible repeat (first | refine blk_drewN ?_ _ | refine blk_drew ?_ | refine blk_alloc ?_ _)); exact BK191.out⟩, ⟨by (with_reducible repeat (first | refine blk_drewN ?_ _ | refine blk_drew ?_ | refine blk_alloc ?_ _)); refine blk_put (cs := #[.int .i64 a0_0, .string x195001_1, .string x195002_1, u195003, .int .i64 x195004_1, .int .i64 x195005_1, .string x195006_1, .string x195007_1, .int .i64 x195008_1, .int .i64 x195009_1]) ?_ 2 _ rfl; (with_reducible repeat (first | refine blk_drewN ?_ _ | refine blk_drew ?_ | refine blk_alloc ?_ _)); exact BK194.out⟩, ⟨by repeat (first | (with_reducible first | exact HB.out | apply below_alloc | apply pw_below_drewN | apply below_drew1 | refine below_set ?_ GE191.out | refine below_set ?_ GE194.out) | exact HB.out)⟩⟩
                  · rw [if_neg c22] at H
                    exact absurd H (by simp)
                · rw [if_neg c20] at H
                  have c20b0 : ((bt t193 x7_1) == 107) = false := beq_eq_false_iff_ne.mpr c20
                  have c20b1 : ((bt t193 x7_1) != 107) = true := bne_iff_ne.mpr c20
                  by_cases c25 : (bt t193 x7_1) = 100
                  · rw [if_pos c25] at H
                    have c25b0 : ((bt t193 x7_1) == 100) = true := beq_iff_eq.mpr c25
                    have c25b1 : ((bt t193 x7_1) != 100) = false := bne_eq_false_iff_eq.mpr c25
                    clear c25
                    replace H := Option.bind_eq_some_iff.mp H
                    obtain ⟨t198, A260, H⟩ := H
                    replace H : (if (x4_1 ++ (⟨#[32]⟩ : ByteArray)).size + t198.size ≤ 9223372036854775807 then (strongboxref23_Text.l0 k1 ((x4_1 ++ (⟨#[32]⟩ : ByteArray)) ++ t198) t193 (wrap64 (x7_1 + 1)) a0_0 a0_1 a0_2 l0_3 a0_4 a0_5 a0_6 a0_7 a0_8 a0_9 a0_0 x195001_1 x195002_1 l0_3 x195004_1 x195005_1 x195006_1 x195007_1 x195008_1 x195009_1) else (none)) = some (r1, r2) := H
                    have A26 := Aside0.mk A260
                    clear A260
                    by_cases c27 : (x4_1 ++ (⟨#[32]⟩ : ByteArray)).size + t198.size ≤ 9223372036854775807
                    · rw [if_pos c27] at H
                      have c27b0 := eq_true c27
                      have c27b1 : decide ((x4_1 ++ (⟨#[32]⟩ : ByteArray)).size + t198.size ≤ 9223372036854775807) = true := decide_eq_true c27
                      try have c27b2 : (9223372036854775807 < (x4_1 ++ (⟨#[32]⟩ : ByteArray)).size + t198.size) = False := eq_false (Nat.not_lt.2 c27)
                      have c27b3 : (9223372036854775807 < x4_1.size + 1 + t198.size) = False := eq_false (by have h_ := c27; rw [ByteArray.size_append] at h_; exact Nat.not_lt.2 h_)
                      have H' := Aside0.mk H
                      clear H
                      have p14 : 0 ≤ (x7_1 : Int) := of_decide_eq_true (by first | (with_reducible assumption) | assumption)
                      have q14 : x7_1 < (t193.size : Int) := of_decide_eq_true (by first | (with_reducible assumption) | assumption)
                      have hx14 := bt_at t193 x7_1
                      replace p14 := eq_true p14
                      replace q14 := eq_true q14
                      try go_wp2
                      have n0_ := Aside0.mk (Kd.V_drew HO_192003.out)
                      have n1_ := Aside0.mk (Kd.V_drew HO_195003.out)
                      have n2_ := Aside0.mk (blk_drew BK191.out)
                      have n3_ := Aside0.mk (blk_drew BK194.out)
                      have n4_ := Aside0.mk (below_drew1 HB.out)
                      clear HO_192003
                      clear HO_195003
                      clear BK191
                      clear BK194
                      clear HB
                      have HO_192003 := n0_
                      have HO_195003 := n1_
                      have BK191 := n2_
                      have BK194 := n3_
                      have HB := n4_
                      clear n0_ n1_ n2_ n3_ n4_
                      have hcv29 := Kd.C_string (P := Tryd.prog) (c := c0_3) Tryd.underlying35 Tryd.underlying5 Tryd.underlying9 (Kd.V_reads' HO_192003.out).2.2
                      refine start_ (n := 11) (S := fun w' => w'.cell? ⟨gb191, 0, none⟩ = some (.int .i64 a0_0) ∧ w'.cell? ⟨gb191, 1, none⟩ = some (.string a0_1) ∧ w'.cell? ⟨gb191, 2, none⟩ = some (.string a0_2) ∧ w'.cell? ⟨gb191, 3, none⟩ = some (.slice A0_3 l0_3.length c0_3) ∧ w'.cell? ⟨gb191, 4, none⟩ = some (.int .i64 a0_4) ∧ w'.cell? ⟨gb191, 5, none⟩ = some (.int .i64 a0_5) ∧ w'.cell? ⟨gb191, 6, none⟩ = some (.string a0_6) ∧ w'.cell? ⟨gb191, 7, none⟩ = some (.string a0_7) ∧ w'.cell? ⟨gb191, 8, none⟩ = some (.int .i64 a0_8) ∧ w'.cell? ⟨gb191, 9, none⟩ = some (.int .i64 a0_9) ∧ (convert 35 9 (.slice A0_3 l0_3.length c0_3)).run Tryd.prog w' = .ok (.string (strOfNums l0_3)) w') (ds := []) #[false, false, false, false, false, false, false, false, false, false, false] (by kernel_rfl) rfl rfl ⟨(blk_cell BK191.out 0).trans rfl, (blk_cell BK191.out 1).trans rfl, (blk_cell BK191.out 2).trans rfl, (blk_cell BK191.out 3).trans rfl, (blk_cell BK191.out 4).trans rfl, (blk_cell BK191.out 5).trans rfl, (blk_cell BK191.out 6).trans rfl, (blk_cell BK191.out 7).trans rfl, (blk_cell BK191.out 8).trans rfl, (blk_cell BK191.out 9).trans rfl, hcv29⟩ (fun hHeld => ?_); refine with_tabW strongboxref23_Text.tab16 strongboxref23_Text.bits16 (fun HT_ HW_ => ?_)
                      generalize wr.drew = w28 at HO_192003 HO_195003 BK191 BK194 HB hHeld ⊢
                      refine pure_ (i := 0) (N := some 63) (v := ?_) (a' := ?_) #[true, false, false, false, false, false, false, false, false, false, false] rfl rfl (any_of HT_.out (by kernel_rfl)) (fun _ _ _ h => h) (Or.inl ⟨by rfl, ?_⟩) ?_ ?_
                      rotate_left
                      · intro w'
                        go_simp
                        with_reducible rfl
                      rotate_left
                      · simp only [Act.put, List.setIfInBounds_toArray, List.set_cons_zero, List.set_cons_succ, i64_w, i32_w]
                        rfl
                      refine pure_ (i := 1) (N := some 64) (v := ?_) (a' := ?_) #[true, true, false, false, false, false, false, false, false, false, false] rfl rfl (any_of HT_.out (by kernel_rfl)) (fun _ _ _ h => h) (Or.inl ⟨by rfl, ?_⟩) ?_ ?_
                      rotate_left
                      · intro w'
                        go_simp
                        with_reducible rfl
                      rotate_left
                      · simp only [Act.put, List.setIfInBounds_toArray, List.set_cons_zero, List.set_cons_succ, i64_w, i32_w]
                        rfl
                      refine pure_ (i := 6) (N := some 69) (v := ?_) (a' := ?_) #[true, true, false, false, false, false, true, false, false, false, false] rfl rfl (any_of HT_.out (by kernel_rfl)) (fun _ _ _ h => h) (Or.inl ⟨by rfl, ?_⟩) ?_ ?_
                      rotate_left
                      · intro w'
                        go_simp
                        with_reducible rfl
                      rotate_left
                      · simp only [Act.put, List.setIfInBounds_toArray, List.set_cons_zero, List.set_cons_succ, i64_w, i32_w]
                        rfl
                      refine take_ (i := 2) (N := some 65) (v := ?_) (a' := ?_) #[true, true, true, false, false, false, true, false, false, false, false] rfl rfl (take_ofW HT_.out HW_.out (by kernel_rfl)) (fun _ _ _ h => h) (Or.inl ⟨by rfl, ?_⟩) hHeld ?_ ?_
                      rotate_left
                      · rintro w' ⟨s0, s1, s2, s3, s4, s5, s6, s7, s8, s9, s10⟩
                        go_simp
                        with_reducible rfl
                      rotate_left
                      · simp only [Act.put, List.setIfInBounds_toArray, List.set_cons_zero, List.set_cons_succ, i64_w, i32_w]
                        rfl
                      refine take_ (i := 3) (N := some 66) (v := ?_) (a' := ?_) #[true, true, true, true, false, false, true, false, false, false, false] rfl rfl (take_ofW HT_.out HW_.out (by kernel_rfl)) (fun _ _ _ h => h) (Or.inl ⟨by rfl, ?_⟩) hHeld ?_ ?_
                      rotate_left
                      · rintro w' ⟨s0, s1, s2, s3, s4, s5, s6, s7, s8, s9, s10⟩
                        (try rw [s10]); go_simp; (try rw [s10])
                        with_reducible rfl
                      rotate_left
                      · simp only [Act.put, List.setIfInBounds_toArray, List.set_cons_zero, List.set_cons_succ, i64_w, i32_w]
                        rfl
                      refine take_ (i := 7) (N := some 70) (v := ?_) (a' := ?_) #[true, true, true, true, false, false, true, true, false, false, false] rfl rfl (take_ofW HT_.out HW_.out (by kernel_rfl)) (fun _ _ _ h => h) (Or.inl ⟨by rfl, ?_⟩) hHeld ?_ ?_
                      rotate_left
                      · rintro w' ⟨s0, s1, s2, s3, s4, s5, s6, s7, s8, s9, s10⟩
                        go_simp
                        with_reducible rfl
                      rotate_left
                      · simp only [Act.put, List.setIfInBounds_toArray, List.set_cons_zero, List.set_cons_succ, i64_w, i32_w]
                        rfl
                      refine one_ (i := 4) (N := some 67) #[true, true, true, true, true, false, true, true, false, false, false] rfl rfl (one_of HT_.out (by kernel_rfl)) (by decide) (fun K hK => ?_)
                      refine goes_ Tryd.func31 (by kernel_rfl) rfl #[.string (strOfNums l0_3)] (by rfl) rfl rfl (by (try simp only [List.map_toArray, List.map_cons, List.map_nil]); first | done | rfl | (simp only [List.length_drop, List.length_take]; rfl)) ?_
                      with_reducible refine (strongboxref23_bytes.calls k1 (strOfNums l0_3) t198 _ A26.out).mono ?_
                      rintro e w' ⟨rfl, ⟨nd, rfl⟩⟩
                      refine ⟨_, rfl, ?_⟩
                      refine hK.out _ _ ⟨(blk_cell BK191.out 0).trans rfl, (blk_cell BK191.out 1).trans rfl, (blk_cell BK191.out 2).trans rfl, (blk_cell BK191.out 3).trans rfl, (blk_cell BK191.out 4).trans rfl, (blk_cell BK191.out 5).trans rfl, (blk_cell BK191.out 6).trans rfl, (blk_cell BK191.out 7).trans rfl, (blk_cell BK191.out 8).trans rfl, (blk_cell BK191.out 9).trans rfl, Kd.C_string (P := Tryd.prog) (c := c0_3) Tryd.underlying35 Tryd.underlying5 Tryd.underlying9 (Kd.V_reads' (by (with_reducible repeat (first | apply Kd.V_alloc | apply Kd.V_drewN | apply Kd.V_drew)); exact HO_192003.out)).2.2⟩ (fun hHeld => ?_)
                      clear hK K
                      refine norm_ (a' := ?_) ?_ ?_
                      rotate_left
                      · show Act.put _ (some 67) _ = _
                        simp only [Act.put, List.setIfInBounds_toArray, List.set_cons_zero, List.set_cons_succ, i64_w, i32_w]
                        rfl
                      refine pure_ (i := 5) (N := some 68) (v := ?_) (a' := ?_) #[true, true, true, true, true, true, true, true, false, false, false] rfl rfl (any_of HT_.out (by kernel_rfl)) (fun _ _ _ h => h) (Or.inl ⟨by rfl, ?_⟩) ?_ ?_
                      rotate_left
                      · intro w'
                        go_simp
                        with_reducible rfl
                      rotate_left
                      · simp only [Act.put, List.setIfInBounds_toArray, List.set_cons_zero, List.set_cons_succ, i64_w, i32_w]
                        rfl
                      refine pure_ (i := 8) (N := some 4) (v := ?_) (a' := ?_) #[true, true, true, true, true, true, true, true, true, false, false] rfl rfl (any_of HT_.out (by kernel_rfl)) (fun _ _ _ h => h) (Or.inl ⟨by rfl, ?_⟩) ?_ ?_
                      rotate_left
                      · intro w'
                        go_simp
                        with_reducible rfl
                      rotate_left
                      · simp only [Act.put, List.setIfInBounds_toArray, List.set_cons_zero, List.set_cons_succ, i64_w, i32_w]
                        rfl
                      refine pure_ (i := 9) (N := some 71) (v := ?_) (a' := ?_) #[true, true, true, true, true, true, true, true, true, true, false] rfl rfl (any_of HT_.out (by kernel_rfl)) (fun _ _ _ h => h) (Or.inl ⟨by rfl, ?_⟩) ?_ ?_
                      rotate_left
                      · intro w'
                        go_simp
                        with_reducible rfl
                      rotate_left
                      · simp only [Act.put, List.setIfInBounds_toArray, List.set_cons_zero, List.set_cons_succ, i64_w, i32_w]
                        rfl
                      refine one_ (i := 10) (N := none) #[true, true, true, true, true, true, true, true, true, true, true] rfl rfl (one_of HT_.out (by kernel_rfl)) (by decide) (fun K hK => ?_)
                      have hs30 : w28.cell? ⟨gb194, 3, none⟩ = some (u195003) := (blk_cell BK194.out 3).trans rfl
                      have hfs30 := blk_frozen BK194.out 3
                      have hns30_0 := NB191_194.out
                      have hms30_0 := NB194_191.out
                      refine skip_ (w1 := ?_) (by rfl) rfl ?_ ?_
                      rotate_left
                      · go_simp
                        rfl
                      refine hK.out _ _ ⟨((cell_far (p := ⟨gb194, _, none⟩) NB191_194.out _).trans (hHeld.1)), ((cell_far (p := ⟨gb194, _, none⟩) NB191_194.out _).trans (hHeld.2.1)), ((cell_far (p := ⟨gb194, _, none⟩) NB191_194.out _).trans (hHeld.2.2.1)), ((cell_far (p := ⟨gb194, _, none⟩) NB191_194.out _).trans (hHeld.2.2.2.1)), ((cell_far (p := ⟨gb194, _, none⟩) NB191_194.out _).trans (hHeld.2.2.2.2.1)), ((cell_far (p := ⟨gb194, _, none⟩) NB191_194.out _).trans (hHeld.2.2.2.2.2.1)), ((cell_far (p := ⟨gb194, _, none⟩) NB191_194.out _).trans (hHeld.2.2.2.2.2.2.1)), ((cell_far (p := ⟨gb194, _, none⟩) NB191_194.out _).trans (hHeld.2.2.2.2.2.2.2.1)), ((cell_far (p := ⟨gb194, _, none⟩) NB191_194.out _).trans (hHeld.2.2.2.2.2.2.2.2.1)), ((cell_far (p := ⟨gb194, _, none⟩) NB191_194.out _).trans (hHeld.2.2.2.2.2.2.2.2.2.1)), Kd.C_string (P := Tryd.prog) (c := c0_3) Tryd.underlying35 Tryd.underlying5 Tryd.underlying9 (Kd.V_reads' (Kd.V_far (p := ⟨gb194, 3, none⟩) (Kd.V_drewN HO_192003.out nd) (fun _ hk => hk.2.2) (.slice A0_3 l0_3.length c0_3))).2.2⟩ (fun hHeld => ?_)
                      clear hK K
                      refine done_ (done_of HT_.out (by kernel_rfl)) ?_
                      try go_wp2
                      go_roundg k1
                      case measure => have := HK1.out; omega
                      case rel => exact ⟨((x4_1 ++ (⟨#[32]⟩ : ByteArray)) ++ t198), (wrap64 (x7_1 + 1)), (x195001_1), (x195002_1), (l0_3), (x195004_1), (x195005_1), (x195006_1), (x195007_1), (x195008_1), (x195009_1), (.slice A0_3 l0_3.length c0_3), (by first | rfl | (simp; done) | (simp [*]; done)), (by first | rfl | (simp; done) | (simp [*]; done)), H', ⟨by have := HK1.out; omega⟩, ⟨by (with_reducible repeat (first | apply Kd.V_alloc | apply Kd.V_drewN | apply Kd.V_drew)); exact Kd.V_mono (Kd.V_far (p := ⟨gb194, 3, none⟩) (Kd.V_mono HO_192003.out (fun k_ hk => (⟨hk, hk.2.2⟩ : _ ∧ k_ ≠ gb194))) (fun _ hk => hk.2) (.slice A0_3 l0_3.length c0_3)) (fun _ hk => ⟨hk.1.1, ⟨hk.1.2.1, hk.1.2.2⟩⟩)⟩, ⟨by (with_reducible repeat (first | apply Kd.V_alloc | apply Kd.V_drewN | apply Kd.V_drew)); exact Kd.V_mono (Kd.V_far (p := ⟨gb194, 3, none⟩) (Kd.V_mono HO_192003.out (fun k_ hk => (⟨hk, hk.2.2⟩ : _ ∧ k_ ≠ gb194))) (fun _ hk => hk.2) (.slice A0_3 l0_3.length c0_3)) (fun _ hk => ⟨hk.1.1, ⟨hk.1.2.1, hk.1.2.2⟩⟩)⟩, ⟨by (with_reducible repeat (first | refine blk_drewN ?_ _ | refine blk_drew ?_ | refine blk_alloc ?_ _)); refine blk_far ?_ NB191_194.out _; (with_reducible repeat (first | refine blk_drewN ?_ _ | refine blk_drew ?_ | refine blk_alloc ?_ _)); exact BK191.out⟩, ⟨by (with_reducible repeat (first | refine blk_drewN ?_ _ | refine blk_drew ?_ | refine blk_alloc ?_ _)); refine blk_put (cs := #[.int .i64 a0_0, .string x195001_1, .string x195002_1, u195003, .int .i64 x195004_1, .int .i64 x195005_1, .string x195006_1, .string x195007_1, .int .i64 x195008_1, .int .i64 x195009_1]) ?_ 3 _ rfl; (with_reducible repeat (first | refine blk_drewN ?_ _ | refine blk_drew ?_ | refine blk_alloc ?_ _)); exact BK194.out⟩, ⟨by repeat (first | (with_reducible first | exact HB.out | apply below_alloc | apply pw_below_drewN | apply below_drew1 | refine below_set ?_ GE191.out | refine below_set ?_ GE194.out) | exact HB.out)⟩⟩
                    · rw [if_neg c27] at H
                      exact absurd H (by simp)
                  · rw [if_neg c25] at H
                    have c25b0 : ((bt t193 x7_1) == 100) = false := beq_eq_false_iff_ne.mpr c25
                    have c25b1 : ((bt t193 x7_1) != 100) = true := bne_iff_ne.mpr c25
                    by_cases c31 : (bt t193 x7_1) = 110
                    · rw [if_pos c31] at H
                      have c31b0 : ((bt t193 x7_1) == 110) = true := beq_iff_eq.mpr c31
                      have c31b1 : ((bt t193 x7_1) != 110) = false := bne_eq_false_iff_eq.mpr c31
                      clear c31
                      replace H := Option.bind_eq_some_iff.mp H
                      obtain ⟨t199, A320, H⟩ := H
                      replace H : (if (x4_1 ++ (⟨#[32]⟩ : ByteArray)).size + t199.size ≤ 9223372036854775807 then (strongboxref23_Text.l0 k1 ((x4_1 ++ (⟨#[32]⟩ : ByteArray)) ++ t199) t193 (wrap64 (x7_1 + 1)) a0_0 a0_1 a0_2 l0_3 a0_4 a0_5 a0_6 a0_7 a0_8 a0_9 a0_0 x195001_1 x195002_1 x195003_1 a0_4 x195005_1 x195006_1 x195007_1 x195008_1 x195009_1) else (none)) = some (r1, r2) := H
                      have A32 := Aside0.mk A320
                      clear A320
                      by_cases c33 : (x4_1 ++ (⟨#[32]⟩ : ByteArray)).size + t199.size ≤ 9223372036854775807
                      · rw [if_pos c33] at H
                        have c33b0 := eq_true c33
                        have c33b1 : decide ((x4_1 ++ (⟨#[32]⟩ : ByteArray)).size + t199.size ≤ 9223372036854775807) = true := decide_eq_true c33
                        try have c33b2 : (9223372036854775807 < (x4_1 ++ (⟨#[32]⟩ : ByteArray)).size + t199.size) = False := eq_false (Nat.not_lt.2 c33)
                        have c33b3 : (9223372036854775807 < x4_1.size + 1 + t199.size) = False := eq_false (by have h_ := c33; rw [ByteArray.size_append] at h_; exact Nat.not_lt.2 h_)
                        have H' := Aside0.mk H
                        clear H
                        have p14 : 0 ≤ (x7_1 : Int) := of_decide_eq_true (by first | (with_reducible assumption) | assumption)
                        have q14 : x7_1 < (t193.size : Int) := of_decide_eq_true (by first | (with_reducible assumption) | assumption)
                        have hx14 := bt_at t193 x7_1
                        replace p14 := eq_true p14
                        replace q14 := eq_true q14
                        try go_wp2
                        have n0_ := Aside0.mk (Kd.V_drew HO_192003.out)
                        have n1_ := Aside0.mk (Kd.V_drew HO_195003.out)
                        have n2_ := Aside0.mk (blk_drew BK191.out)
                        have n3_ := Aside0.mk (blk_drew BK194.out)
                        have n4_ := Aside0.mk (below_drew1 HB.out)
                        clear HO_192003
                        clear HO_195003
                        clear BK191
                        clear BK194
                        clear HB
                        have HO_192003 := n0_
                        have HO_195003 := n1_
                        have BK191 := n2_
                        have BK194 := n3_
                        have HB := n4_
                        clear n0_ n1_ n2_ n3_ n4_
                        refine start_ (n := 10) (S := fun w' => w'.cell? ⟨gb191, 0, none⟩ = some (.int .i64 a0_0) ∧ w'.cell? ⟨gb191, 1, none⟩ = some (.string a0_1) ∧ w'.cell? ⟨gb191, 2, none⟩ = some (.string a0_2) ∧ w'.cell? ⟨gb191, 3, none⟩ = some (.slice A0_3 l0_3.length c0_3) ∧ w'.cell? ⟨gb191, 4, none⟩ = some (.int .i64 a0_4) ∧ w'.cell? ⟨gb191, 5, none⟩ = some (.int .i64 a0_5) ∧ w'.cell? ⟨gb191, 6, none⟩ = some (.string a0_6) ∧ w'.cell? ⟨gb191, 7, none⟩ = some (.string a0_7) ∧ w'.cell? ⟨gb191, 8, none⟩ = some (.int .i64 a0_8) ∧ w'.cell? ⟨gb191, 9, none⟩ = some (.int .i64 a0_9)) (ds := []) #[false, false, false, false, false, false, false, false, false, false] (by kernel_rfl) rfl rfl ⟨(blk_cell BK191.out 0).trans rfl, (blk_cell BK191.out 1).trans rfl, (blk_cell BK191.out 2).trans rfl, (blk_cell BK191.out 3).trans rfl, (blk_cell BK191.out 4).trans rfl, (blk_cell BK191.out 5).trans rfl, (blk_cell BK191.out 6).trans rfl, (blk_cell BK191.out 7).trans rfl, (blk_cell BK191.out 8).trans rfl, (blk_cell BK191.out 9).trans rfl⟩ (fun hHeld => ?_); refine with_tabW strongboxref23_Text.tab18 strongboxref23_Text.bits18 (fun HT_ HW_ => ?_)
                        generalize wr.drew = w34 at HO_192003 HO_195003 BK191 BK194 HB hHeld ⊢
                        refine pure_ (i := 0) (N := some 74) (v := ?_) (a' := ?_) #[true, false, false, false, false, false, false, false, false, false] rfl rfl (any_of HT_.out (by kernel_rfl)) (fun _ _ _ h => h) (Or.inl ⟨by rfl, ?_⟩) ?_ ?_
                        rotate_left
                        · intro w'
                          go_simp
                          with_reducible rfl
                        rotate_left
                        · simp only [Act.put, List.setIfInBounds_toArray, List.set_cons_zero, List.set_cons_succ, i64_w, i32_w]
                          rfl
                        refine pure_ (i := 1) (N := some 75) (v := ?_) (a' := ?_) #[true, true, false, false, false, false, false, false, false, false] rfl rfl (any_of HT_.out (by kernel_rfl)) (fun _ _ _ h => h) (Or.inl ⟨by rfl, ?_⟩) ?_ ?_
                        rotate_left
                        · intro w'
                          go_simp
                          with_reducible rfl
                        rotate_left
                        · simp only [Act.put, List.setIfInBounds_toArray, List.set_cons_zero, List.set_cons_succ, i64_w, i32_w]
                          rfl
                        refine pure_ (i := 5) (N := some 79) (v := ?_) (a' := ?_) #[true, true, false, false, false, true, false, false, false, false] rfl rfl (any_of HT_.out (by kernel_rfl)) (fun _ _ _ h => h) (Or.inl ⟨by rfl, ?_⟩) ?_ ?_
                        rotate_left
                        · intro w'
                          go_simp
                          with_reducible rfl
                        rotate_left
                        · simp only [Act.put, List.setIfInBounds_toArray, List.set_cons_zero, List.set_cons_succ, i64_w, i32_w]
                          rfl
                        refine take_ (i := 2) (N := some 76) (v := ?_) (a' := ?_) #[true, true, true, false, false, true, false, false, false, false] rfl rfl (take_ofW HT_.out HW_.out (by kernel_rfl)) (fun _ _ _ h => h) (Or.inl ⟨by rfl, ?_⟩) hHeld ?_ ?_
                        rotate_left
                        · rintro w' ⟨s0, s1, s2, s3, s4, s5, s6, s7, s8, s9⟩
                          go_simp
                          with_reducible rfl
                        rotate_left
                        · simp only [Act.put, List.setIfInBounds_toArray, List.set_cons_zero, List.set_cons_succ, i64_w, i32_w]
                          rfl
                        refine take_ (i := 6) (N := some 80) (v := ?_) (a' := ?_) #[true, true, true, false, false, true, true, false, false, false] rfl rfl (take_ofW HT_.out HW_.out (by kernel_rfl)) (fun _ _ _ h => h) (Or.inl ⟨by rfl, ?_⟩) hHeld ?_ ?_
                        rotate_left
                        · rintro w' ⟨s0, s1, s2, s3, s4, s5, s6, s7, s8, s9⟩
                          go_simp
                          with_reducible rfl
                        rotate_left
                        · simp only [Act.put, List.setIfInBounds_toArray, List.set_cons_zero, List.set_cons_succ, i64_w, i32_w]
                          rfl
                        refine one_ (i := 3) (N := some 77) #[true, true, true, true, false, true, true, false, false, false] rfl rfl (one_of HT_.out (by kernel_rfl)) (by decide) (fun K hK => ?_)
                        refine goes_ Tryd.func23 (by kernel_rfl) rfl #[.int .i64 a0_4] (by rfl) rfl rfl (by (try simp only [List.map_toArray, List.map_cons, List.map_nil]); first | done | rfl | (simp only [List.length_drop, List.length_take]; rfl)) ?_
                        with_reducible refine (strongboxref23_number.calls k1 a0_4 t199 _ A32.out).mono ?_
                        rintro e w' ⟨rfl, ⟨nd, rfl⟩⟩
                        refine ⟨_, rfl, ?_⟩
                        refine hK.out _ _ ⟨(blk_cell BK191.out 0).trans rfl, (blk_cell BK191.out 1).trans rfl, (blk_cell BK191.out 2).trans rfl, (blk_cell BK191.out 3).trans rfl, (blk_cell BK191.out 4).trans rfl, (blk_cell BK191.out 5).trans rfl, (blk_cell BK191.out 6).trans rfl, (blk_cell BK191.out 7).trans rfl, (blk_cell BK191.out 8).trans rfl, (blk_cell BK191.out 9).trans rfl⟩ (fun hHeld => ?_)
                        clear hK K
                        refine norm_ (a' := ?_) ?_ ?_
                        rotate_left
                        · show Act.put _ (some 77) _ = _
                          simp only [Act.put, List.setIfInBounds_toArray, List.set_cons_zero, List.set_cons_succ, i64_w, i32_w]
                          rfl
                        refine pure_ (i := 4) (N := some 78) (v := ?_) (a' := ?_) #[true, true, true, true, true, true, true, false, false, false] rfl rfl (any_of HT_.out (by kernel_rfl)) (fun _ _ _ h => h) (Or.inl ⟨by rfl, ?_⟩) ?_ ?_
                        rotate_left
                        · intro w'
                          go_simp
                          with_reducible rfl
                        rotate_left
                        · simp only [Act.put, List.setIfInBounds_toArray, List.set_cons_zero, List.set_cons_succ, i64_w, i32_w]
                          rfl
                        refine pure_ (i := 7) (N := some 4) (v := ?_) (a' := ?_) #[true, true, true, true, true, true, true, true, false, false] rfl rfl (any_of HT_.out (by kernel_rfl)) (fun _ _ _ h => h) (Or.inl ⟨by rfl, ?_⟩) ?_ ?_
                        rotate_left
                        · intro w'
                          go_simp
                          with_reducible rfl
                        rotate_left
                        · simp only [Act.put, List.setIfInBounds_toArray, List.set_cons_zero, List.set_cons_succ, i64_w, i32_w]
                          rfl
                        refine pure_ (i := 8) (N := some 81) (v := ?_) (a' := ?_) #[true, true, true, true, true, true, true, true, true, false] rfl rfl (any_of HT_.out (by kernel_rfl)) (fun _ _ _ h => h) (Or.inl ⟨by rfl, ?_⟩) ?_ ?_
                        rotate_left
                        · intro w'
                          go_simp
                          with_reducible rfl
                        rotate_left
                        · simp only [Act.put, List.setIfInBounds_toArray, List.set_cons_zero, List.set_cons_succ, i64_w, i32_w]
                          rfl
                        refine one_ (i := 9) (N := none) #[true, true, true, true, true, true, true, true, true, true] rfl rfl (one_of HT_.out (by kernel_rfl)) (by decide) (fun K hK => ?_)
                        have hs35 : w34.cell? ⟨gb194, 4, none⟩ = some (.int .i64 x195004_1) := (blk_cell BK194.out 4).trans rfl
                        have hfs35 := blk_frozen BK194.out 4
                        have hns35_0 := NB191_194.out
                        have hms35_0 := NB194_191.out
                        refine skip_ (w1 := ?_) (by rfl) rfl ?_ ?_
                        rotate_left
                        · go_simp
                          rfl
                        refine hK.out _ _ ⟨((cell_far (p := ⟨gb194, _, none⟩) NB191_194.out _).trans (hHeld.1)), ((cell_far (p := ⟨gb194, _, none⟩) NB191_194.out _).trans (hHeld.2.1)), ((cell_far (p := ⟨gb194, _, none⟩) NB191_194.out _).trans (hHeld.2.2.1)), ((cell_far (p := ⟨gb194, _, none⟩) NB191_194.out _).trans (hHeld.2.2.2.1)), ((cell_far (p := ⟨gb194, _, none⟩) NB191_194.out _).trans (hHeld.2.2.2.2.1)), ((cell_far (p := ⟨gb194, _, none⟩) NB191_194.out _).trans (hHeld.2.2.2.2.2.1)), ((cell_far (p := ⟨gb194, _, none⟩) NB191_194.out _).trans (hHeld.2.2.2.2.2.2.1)), ((cell_far (p := ⟨gb194, _, none⟩) NB191_194.out _).trans (hHeld.2.2.2.2.2.2.2.1)), ((cell_far (p := ⟨gb194, _, none⟩) NB191_194.out _).trans (hHeld.2.2.2.2.2.2.2.2.1)), ((cell_far (p := ⟨gb194, _, none⟩) NB191_194.out _).trans (hHeld.2.2.2.2.2.2.2.2.2))⟩ (fun hHeld => ?_)
                        clear hK K
                        refine done_ (done_of HT_.out (by kernel_rfl)) ?_
                        try go_wp2
                        go_roundg k1
                        case measure => have := HK1.out; omega
                        case rel => exact ⟨((x4_1 ++ (⟨#[32]⟩ : ByteArray)) ++ t199), (wrap64 (x7_1 + 1)), (x195001_1), (x195002_1), (x195003_1), (a0_4), (x195005_1), (x195006_1), (x195007_1), (x195008_1), (x195009_1), (u195003), (by first | rfl | (simp; done) | (simp [*]; done)), (by first | rfl | (simp; done) | (simp [*]; done)), H', ⟨by have := HK1.out; omega⟩, ⟨by (with_reducible repeat (first | apply Kd.V_alloc | apply Kd.V_drewN | apply Kd.V_drew)); exact Kd.V_mono (Kd.V_far (p := ⟨gb194, 4, none⟩) (Kd.V_mono HO_192003.out (fun k_ hk => (⟨hk, hk.2.2⟩ : _ ∧ k_ ≠ gb194))) (fun _ hk => hk.2) (.int .i64 a0_4)) (fun _ hk => ⟨hk.1.1, ⟨hk.1.2.1, hk.1.2.2⟩⟩)⟩, ⟨by (with_reducible repeat (first | apply Kd.V_alloc | apply Kd.V_drewN | apply Kd.V_drew)); exact Kd.V_mono (Kd.V_far (p := ⟨gb194, 4, none⟩) (Kd.V_mono HO_195003.out (fun k_ hk => (⟨hk, hk.2.2⟩ : _ ∧ k_ ≠ gb194))) (fun _ hk => hk.2) (.int .i64 a0_4)) (fun _ hk => ⟨hk.1.1, ⟨hk.1.2.1, hk.1.2.2⟩⟩)⟩, ⟨by (with_reducible repeat (first | refine blk_drewN ?_ _ | refine blk_drew ?_ | refine blk_alloc ?_ _)); refine blk_far ?_ NB191_194.out _; (with_reducible repeat (first | refine blk_drewN ?_ _ | refine blk_drew ?_ | refine blk_alloc ?_ _)); exact BK191.out⟩, ⟨by (with_reducible repeat (first | refine blk_drewN ?_ _ | refine blk_drew ?_ | refine blk_alloc ?_ _)); refine blk_put (cs := #[.int .i64 a0_0, .string x195001_1, .string x195002_1, u195003, .int .i64 x195004_1, .int .i64 x195005_1, .string x195006_1, .string x195007_1, .int .i64 x195008_1, .int .i64 x195009_1]) ?_ 4 _ rfl; (with_reducible repeat (first | refine blk_drewN ?_ _ | refine blk_drew ?_ | refine blk_alloc ?_ _)); exact BK194.out⟩, ⟨by repeat (first | (with_reducible first | exact HB.out | apply below_alloc | apply pw_below_drewN | apply below_drew1 | refine below_set ?_ GE191.out | refine below_set ?_ GE194.out) | exact HB.out)⟩⟩
                      · rw [if_neg c33] at H
                        exact absurd H (by simp)
                    · rw [if_neg c31] at H
                      have c31b0 : ((bt t193 x7_1) == 110) = false := beq_eq_false_iff_ne.mpr c31
                      have c31b1 : ((bt t193 x7_1) != 110) = true := bne_iff_ne.mpr c31
                      by_cases c36 : (bt t193 x7_1) = 97
                      · rw [if_pos c36] at H
                        have c36b0 : ((bt t193 x7_1) == 97) = true := beq_iff_eq.mpr c36
                        have c36b1 : ((bt t193 x7_1) != 97) = false := bne_eq_false_iff_eq.mpr c36
                        clear c36
                        replace H := Option.bind_eq_some_iff.mp H
                        obtain ⟨t200, A370, H⟩ := H
                        replace H : (if (x4_1 ++ (⟨#[32]⟩ : ByteArray)).size + t200.size ≤ 9223372036854775807 then (strongboxref23_Text.l0 k1 ((x4_1 ++ (⟨#[32]⟩ : ByteArray)) ++ t200) t193 (wrap64 (x7_1 + 1)) a0_0 a0_1 a0_2 l0_3 a0_4 a0_5 a0_6 a0_7 a0_8 a0_9 a0_0 x195001_1 x195002_1 x195003_1 x195004_1 a0_5 x195006_1 x195007_1 x195008_1 x195009_1) else (none)) = some (r1, r2) := H
                        have A37 := Aside0.mk A370
                        clear A370
                        by_cases c38 : (x4_1 ++ (⟨#[32]⟩ : ByteArray)).size + t200.size ≤ 9223372036854775807
                        · rw [if_pos c38] at H
                          have c38b0 := eq_true c38
                          have c38b1 : decide ((x4_1 ++ (⟨#[32]⟩ : ByteArray)).size + t200.size ≤ 9223372036854775807) = true := decide_eq_true c38
                          try have c38b2 : (9223372036854775807 < (x4_1 ++ (⟨#[32]⟩ : ByteArray)).size + t200.size) = False := eq_false (Nat.not_lt.2 c38)
                          have c38b3 : (9223372036854775807 < x4_1.size + 1 + t200.size) = False := eq_false (by have h_ := c38; rw [ByteArray.size_append] at h_; exact Nat.not_lt.2 h_)
                          have H' := Aside0.mk H
                          clear H
                          have p14 : 0 ≤ (x7_1 : Int) := of_decide_eq_true (by first | (with_reducible assumption) | assumption)
                          have q14 : x7_1 < (t193.size : Int) := of_decide_eq_true (by first | (with_reducible assumption) | assumption)
                          have hx14 := bt_at t193 x7_1
                          replace p14 := eq_true p14
                          replace q14 := eq_true q14
                          try go_wp2
                          have n0_ := Aside0.mk (Kd.V_drew HO_192003.out)
                          have n1_ := Aside0.mk (Kd.V_drew HO_195003.out)
                          have n2_ := Aside0.mk (blk_drew BK191.out)
                          have n3_ := Aside0.mk (blk_drew BK194.out)
                          have n4_ := Aside0.mk (below_drew1 HB.out)
                          clear HO_192003
                          clear HO_195003
                          clear BK191
                          clear BK194
                          clear HB
                          have HO_192003 := n0_
                          have HO_195003 := n1_
                          have BK191 := n2_
                          have BK194 := n3_
                          have HB := n4_
                          clear n0_ n1_ n2_ n3_ n4_
                          refine start_ (n := 10) (S := fun w' => w'.cell? ⟨gb191, 0, none⟩ = some (.int .i64 a0_0) ∧ w'.cell? ⟨gb191, 1, none⟩ = some (.string a0_1) ∧ w'.cell? ⟨gb191, 2, none⟩ = some (.string a0_2) ∧ w'.cell? ⟨gb191, 3, none⟩ = some (.slice A0_3 l0_3.length c0_3) ∧ w'.cell? ⟨gb191, 4, none⟩ = some (.int .i64 a0_4) ∧ w'.cell? ⟨gb191, 5, none⟩ = some (.int .i64 a0_5) ∧ w'.cell? ⟨gb191, 6, none⟩ = some (.string a0_6) ∧ w'.cell? ⟨gb191, 7, none⟩ = some (.string a0_7) ∧ w'.cell? ⟨gb191, 8, none⟩ = some (.int .i64 a0_8) ∧ w'.cell? ⟨gb191, 9, none⟩ = some (.int .i64 a0_9)) (ds := []) #[false, false, false, false, false, false, false, false, false, false] (by kernel_rfl) rfl rfl ⟨(blk_cell BK191.out 0).trans rfl, (blk_cell BK191.out 1).trans rfl, (blk_cell BK191.out 2).trans rfl, (blk_cell BK191.out 3).trans rfl, (blk_cell BK191.out 4).trans rfl, (blk_cell BK191.out 5).trans rfl, (blk_cell BK191.out 6).trans rfl, (blk_cell BK191.out 7).trans rfl, (blk_cell BK191.out 8).trans rfl, (blk_cell BK191.out 9).trans rfl⟩ (fun hHeld => ?_); refine with_tabW strongboxref23_Text.tab20 strongboxref23_Text.bits20 (fun HT_ HW_ => ?_)
                          generalize wr.drew = w39 at HO_192003 HO_195003 BK191 BK194 HB hHeld ⊢
                          refine pure_ (i := 0) (N := some 84) (v := ?_) (a' := ?_) #[true, false, false, false, false, false, false, false, false, false] rfl rfl (any_of HT_.out (by kernel_rfl)) (fun _ _ _ h => h) (Or.inl ⟨by rfl, ?_⟩) ?_ ?_
                          rotate_left
                          · intro w'
                            go_simp
                            with_reducible rfl
                          rotate_left
                          · simp only [Act.put, List.setIfInBounds_toArray, List.set_cons_zero, List.set_cons_succ, i64_w, i32_w]
                            rfl
                          refine pure_ (i := 1) (N := some 85) (v := ?_) (a' := ?_) #[true, true, false, false, false, false, false, false, false, false] rfl rfl (any_of HT_.out (by kernel_rfl)) (fun _ _ _ h => h) (Or.inl ⟨by rfl, ?_⟩) ?_ ?_
                          rotate_left
                          · intro w'
                            go_simp
                            with_reducible rfl
                          rotate_left
                          · simp only [Act.put, List.setIfInBounds_toArray, List.set_cons_zero, List.set_cons_succ, i64_w, i32_w]
                            rfl
                          refine pure_ (i := 5) (N := some 89) (v := ?_) (a' := ?_) #[true, true, false, false, false, true, false, false, false, false] rfl rfl (any_of HT_.out (by kernel_rfl)) (fun _ _ _ h => h) (Or.inl ⟨by rfl, ?_⟩) ?_ ?_
                          rotate_left
                          · intro w'
                            go_simp
                            with_reducible rfl
                          rotate_left
                          · simp only [Act.put, List.setIfInBounds_toArray, List.set_cons_zero, List.set_cons_succ, i64_w, i32_w]
                            rfl
                          refine take_ (i := 2) (N := some 86) (v := ?_) (a' := ?_) #[true, true, true, false, false, true, false, false, false, false] rfl rfl (take_ofW HT_.out HW_.out (by kernel_rfl)) (fun _ _ _ h => h) (Or.inl ⟨by rfl, ?_⟩) hHeld ?_ ?_
                          rotate_left
                          · rintro w' ⟨s0, s1, s2, s3, s4, s5, s6, s7, s8, s9⟩
                            go_simp
                            with_reducible rfl
                          rotate_left
                          · simp only [Act.put, List.setIfInBounds_toArray, List.set_cons_zero, List.set_cons_succ, i64_w, i32_w]
                            rfl
                          refine take_ (i := 6) (N := some 90) (v := ?_) (a' := ?_) #[true, true, true, false, false, true, true, false, false, false] rfl rfl (take_ofW HT_.out HW_.out (by kernel_rfl)) (fun _ _ _ h => h) (Or.inl ⟨by rfl, ?_⟩) hHeld ?_ ?_
                          rotate_left
                          · rintro w' ⟨s0, s1, s2, s3, s4, s5, s6, s7, s8, s9⟩
                            go_simp
                            with_reducible rfl
                          rotate_left
                          · simp only [Act.put, List.setIfInBounds_toArray, List.set_cons_zero, List.set_cons_succ, i64_w, i32_w]
                            rfl
                          refine one_ (i := 3) (N := some 87) #[true, true, true, true, false, true, true, false, false, false] rfl rfl (one_of HT_.out (by kernel_rfl)) (by decide) (fun K hK => ?_)
                          refine goes_ Tryd.func23 (by kernel_rfl) rfl #[.int .i64 a0_5] (by rfl) rfl rfl (by (try simp only [List.map_toArray, List.map_cons, List.map_nil]); first | done | rfl | (simp only [List.length_drop, List.length_take]; rfl)) ?_
                          with_reducible refine (strongboxref23_number.calls k1 a0_5 t200 _ A37.out).mono ?_
                          rintro e w' ⟨rfl, ⟨nd, rfl⟩⟩
                          refine ⟨_, rfl, ?_⟩
                          refine hK.out _ _ ⟨(blk_cell BK191.out 0).trans rfl, (blk_cell BK191.out 1).trans rfl, (blk_cell BK191.out 2).trans rfl, (blk_cell BK191.out 3).trans rfl, (blk_cell BK191.out 4).trans rfl, (blk_cell BK191.out 5).trans rfl, (blk_cell BK191.out 6).trans rfl, (blk_cell BK191.out 7).trans rfl, (blk_cell BK191.out 8).trans rfl, (blk_cell BK191.out 9).trans rfl⟩ (fun hHeld => ?_)
                          clear hK K
                          refine norm_ (a' := ?_) ?_ ?_
                          rotate_left
                          · show Act.put _ (some 87) _ = _
                            simp only [Act.put, List.setIfInBounds_toArray, List.set_cons_zero, List.set_cons_succ, i64_w, i32_w]
                            rfl
                          refine pure_ (i := 4) (N := some 88) (v := ?_) (a' := ?_) #[true, true, true, true, true, true, true, false, false, false] rfl rfl (any_of HT_.out (by kernel_rfl)) (fun _ _ _ h => h) (Or.inl ⟨by rfl, ?_⟩) ?_ ?_
                          rotate_left
                          · intro w'
                            go_simp
                            with_reducible rfl
                          rotate_left
                          · simp only [Act.put, List.setIfInBounds_toArray, List.set_cons_zero, List.set_cons_succ, i64_w, i32_w]
                            rfl
                          refine pure_ (i := 7) (N := some 4) (v := ?_) (a' := ?_) #[true, true, true, true, true, true, true, true, false, false] rfl rfl (any_of HT_.out (by kernel_rfl)) (fun _ _ _ h => h) (Or.inl ⟨by rfl, ?_⟩) ?_ ?_
                          rotate_left
                          · intro w'
                            go_simp
                            with_reducible rfl
                          rotate_left
                          · simp only [Act.put, List.setIfInBounds_toArray, List.set_cons_zero, List.set_cons_succ, i64_w, i32_w]
                            rfl
                          refine pure_ (i := 8) (N := some 91) (v := ?_) (a' := ?_) #[true, true, true, true, true, true, true, true, true, false] rfl rfl (any_of HT_.out (by kernel_rfl)) (fun _ _ _ h => h) (Or.inl ⟨by rfl, ?_⟩) ?_ ?_
                          rotate_left
                          · intro w'
                            go_simp
                            with_reducible rfl
                          rotate_left
                          · simp only [Act.put, List.setIfInBounds_toArray, List.set_cons_zero, List.set_cons_succ, i64_w, i32_w]
                            rfl
                          refine one_ (i := 9) (N := none) #[true, true, true, true, true, true, true, true, true, true] rfl rfl (one_of HT_.out (by kernel_rfl)) (by decide) (fun K hK => ?_)
                          have hs40 : w39.cell? ⟨gb194, 5, none⟩ = some (.int .i64 x195005_1) := (blk_cell BK194.out 5).trans rfl
                          have hfs40 := blk_frozen BK194.out 5
                          have hns40_0 := NB191_194.out
                          have hms40_0 := NB194_191.out
                          refine skip_ (w1 := ?_) (by rfl) rfl ?_ ?_
                          rotate_left
                          · go_simp
                            rfl
                          refine hK.out _ _ ⟨((cell_far (p := ⟨gb194, _, none⟩) NB191_194.out _).trans (hHeld.1)), ((cell_far (p := ⟨gb194, _, none⟩) NB191_194.out _).trans (hHeld.2.1)), ((cell_far (p := ⟨gb194, _, none⟩) NB191_194.out _).trans (hHeld.2.2.1)), ((cell_far (p := ⟨gb194, _, none⟩) NB191_194.out _).trans (hHeld.2.2.2.1)), ((cell_far (p := ⟨gb194, _, none⟩) NB191_194.out _).trans (hHeld.2.2.2.2.1)), ((cell_far (p := ⟨gb194, _, none⟩) NB191_194.out _).trans (hHeld.2.2.2.2.2.1)), ((cell_far (p := ⟨gb194, _, none⟩) NB191_194.out _).trans (hHeld.2.2.2.2.2.2.1)), ((cell_far (p := ⟨gb194, _, none⟩) NB191_194.out _).trans (hHeld.2.2.2.2.2.2.2.1)), ((cell_far (p := ⟨gb194, _, none⟩) NB191_194.out _).trans (hHeld.2.2.2.2.2.2.2.2.1)), ((cell_far (p := ⟨gb194, _, none⟩) NB191_194.out _).trans (hHeld.2.2.2.2.2.2.2.2.2))⟩ (fun hHeld => ?_)
                          clear hK K
                          refine done_ (done_of HT_.out (by kernel_rfl)) ?_
                          try go_wp2
                          go_roundg k1
                          case measure => have := HK1.out; omega
                          case rel => exact ⟨((x4_1 ++ (⟨#[32]⟩ : ByteArray)) ++ t200), (wrap64 (x7_1 + 1)), (x195001_1), (x195002_1), (x195003_1), (x195004_1), (a0_5), (x195006_1), (x195007_1), (x195008_1), (x195009_1), (u195003), (by first | rfl | (simp; done) | (simp [*]; done)), (by first | rfl | (simp; done) | (simp [*]; done)), H', ⟨by have := HK1.out; omega⟩, ⟨by (with_reducible repeat (first | apply Kd.V_alloc | apply Kd.V_drewN | apply Kd.V_drew)); exact Kd.V_mono (Kd.V_far (p := ⟨gb194, 5, none⟩) (Kd.V_mono HO_192003.out (fun k_ hk => (⟨hk, hk.2.2⟩ : _ ∧ k_ ≠ gb194))) (fun _ hk => hk.2) (.int .i64 a0_5)) (fun _ hk => ⟨hk.1.1, ⟨hk.1.2.1, hk.1.2.2⟩⟩)⟩, ⟨by (with_reducible repeat (first | apply Kd.V_alloc | apply Kd.V_drewN | apply Kd.V_drew)); exact Kd.V_mono (Kd.V_far (p := ⟨gb194, 5, none⟩) (Kd.V_mono HO_195003.out (fun k_ hk => (⟨hk, hk.2.2⟩ : _ ∧ k_ ≠ gb194))) (fun _ hk => hk.2) (.int .i64 a0_5)) (fun _ hk => ⟨hk.1.1, ⟨hk.1.2.1, hk.1.2.2⟩⟩)⟩, ⟨by (with_reducible repeat (first | refine blk_drewN ?_ _ | refine blk_drew ?_ | refine blk_alloc ?_ _)); refine blk_far ?_ NB191_194.out _; (with_reducible repeat (first | refine blk_drewN ?_ _ | refine blk_drew ?_ | refine blk_alloc ?_ _)); exact BK191.out⟩, ⟨by (with_reducible repeat (first | refine blk_drewN ?_ _ | refine blk_drew ?_ | refine blk_alloc ?_ _)); refine blk_put (cs := #[.int .i64 a0_0, .string x195001_1, .string x195002_1, u195003, .int .i64 x195004_1, .int .i64 x195005_1, .string x195006_1, .string x195007_1, .int .i64 x195008_1, .int .i64 x195009_1]) ?_ 5 _ rfl; (with_reducible repeat (first | refine blk_drewN ?_ _ | refine blk_drew ?_ | refine blk_alloc ?_ _)); exact BK194.out⟩, ⟨by repeat (first | (with_reducible first | exact HB.out | apply below_alloc | apply pw_below_drewN | apply below_drew1 | refine below_set ?_ GE191.out | refine below_set ?_ GE194.out) | exact HB.out)⟩⟩
                        · rw [if_neg c38] at H
                          exact absurd H (by simp)
                      · rw [if_neg c36] at H
                        have c36b0 : ((bt t193 x7_1) == 97) = false := beq_eq_false_iff_ne.mpr c36
                        have c36b1 : ((bt t193 x7_1) != 97) = true := bne_iff_ne.mpr c36
                        by_cases c41 : (bt t193 x7_1) = 112
                        · rw [if_pos c41] at H
                          have c41b0 : ((bt t193 x7_1) == 112) = true := beq_iff_eq.mpr c41
                          have c41b1 : ((bt t193 x7_1) != 112) = false := bne_eq_false_iff_eq.mpr c41
                          clear c41
                          replace H := Option.bind_eq_some_iff.mp H
                          obtain ⟨t201, A420, H⟩ := H
                          replace H : (if (x4_1 ++ (⟨#[32]⟩ : ByteArray)).size + t201.size ≤ 9223372036854775807 then (strongboxref23_Text.l0 k1 ((x4_1 ++ (⟨#[32]⟩ : ByteArray)) ++ t201) t193 (wrap64 (x7_1 + 1)) a0_0 a0_1 a0_2 l0_3 a0_4 a0_5 a0_6 a0_7 a0_8 a0_9 a0_0 x195001_1 x195002_1 x195003_1 x195004_1 x195005_1 a0_6 x195007_1 x195008_1 x195009_1) else (none)) = some (r1, r2) := H
                          have A42 := Aside0.mk A420
                          clear A420
                          by_cases c43 : (x4_1 ++ (⟨#[32]⟩ : ByteArray)).size + t201.size ≤ 9223372036854775807
                          · rw [if_pos c43] at H
                            have c43b0 := eq_true c43
                            have c43b1 : decide ((x4_1 ++ (⟨#[32]⟩ : ByteArray)).size + t201.size ≤ 9223372036854775807) = true := decide_eq_true c43
                            try have c43b2 : (9223372036854775807 < (x4_1 ++ (⟨#[32]⟩ : ByteArray)).size + t201.size) = False := eq_false (Nat.not_lt.2 c43)
                            have c43b3 : (9223372036854775807 < x4_1.size + 1 + t201.size) = False := eq_false (by have h_ := c43; rw [ByteArray.size_append] at h_; exact Nat.not_lt.2 h_)
                            have H' := Aside0.mk H
                            clear H
                            have p14 : 0 ≤ (x7_1 : Int) := of_decide_eq_true (by first | (with_reducible assumption) | assumption)
                            have q14 : x7_1 < (t193.size : Int) := of_decide_eq_true (by first | (with_reducible assumption) | assumption)
                            have hx14 := bt_at t193 x7_1
                            replace p14 := eq_true p14
                            replace q14 := eq_true q14
                            try go_wp2
                            have n0_ := Aside0.mk (Kd.V_drew HO_192003.out)
                            have n1_ := Aside0.mk (Kd.V_drew HO_195003.out)
                            have n2_ := Aside0.mk (blk_drew BK191.out)
                            have n3_ := Aside0.mk (blk_drew BK194.out)
                            have n4_ := Aside0.mk (below_drew1 HB.out)
                            clear HO_192003
                            clear HO_195003
                            clear BK191
                            clear BK194
                            clear HB
                            have HO_192003 := n0_
                            have HO_195003 := n1_
                            have BK191 := n2_
                            have BK194 := n3_
                            have HB := n4_
                            clear n0_ n1_ n2_ n3_ n4_
                            refine start_ (n := 13) (S := fun w' => w'.cell? ⟨gb191, 0, none⟩ = some (.int .i64 a0_0) ∧ w'.cell? ⟨gb191, 1, none⟩ = some (.string a0_1) ∧ w'.cell? ⟨gb191, 2, none⟩ = some (.string a0_2) ∧ w'.cell? ⟨gb191, 3, none⟩ = some (.slice A0_3 l0_3.length c0_3) ∧ w'.cell? ⟨gb191, 4, none⟩ = some (.int .i64 a0_4) ∧ w'.cell? ⟨gb191, 5, none⟩ = some (.int .i64 a0_5) ∧ w'.cell? ⟨gb191, 6, none⟩ = some (.string a0_6) ∧ w'.cell? ⟨gb191, 7, none⟩ = some (.string a0_7) ∧ w'.cell? ⟨gb191, 8, none⟩ = some (.int .i64 a0_8) ∧ w'.cell? ⟨gb191, 9, none⟩ = some (.int .i64 a0_9)) (ds := []) #[false, false, false, false, false, false, false, false, false, false, false, false, false] (by kernel_rfl) rfl rfl ⟨(blk_cell BK191.out 0).trans rfl, (blk_cell BK191.out 1).trans rfl, (blk_cell BK191.out 2).trans rfl, (blk_cell BK191.out 3).trans rfl, (blk_cell BK191.out 4).trans rfl, (blk_cell BK191.out 5).trans rfl, (blk_cell BK191.out 6).trans rfl, (blk_cell BK191.out 7).trans rfl, (blk_cell BK191.out 8).trans rfl, (blk_cell BK191.out 9).trans rfl⟩ (fun hHeld => ?_); refine with_tabW strongboxref23_Text.tab22 strongboxref23_Text.bits22 (fun HT_ HW_ => ?_)
                            generalize wr.drew = w44 at HO_192003 HO_195003 BK191 BK194 HB hHeld ⊢
                            refine pure_ (i := 0) (N := some 94) (v := ?_) (a' := ?_) #[true, false, false, false, false, false, false, false, false, false, false, false, false] rfl rfl (any_of HT_.out (by kernel_rfl)) (fun _ _ _ h => h) (Or.inl ⟨by rfl, ?_⟩) ?_ ?_
                            rotate_left
                            · intro w'
                              go_simp
                              with_reducible rfl
                            rotate_left
                            · simp only [Act.put, List.setIfInBounds_toArray, List.set_cons_zero, List.set_cons_succ, i64_w, i32_w]
                              rfl
                            refine pure_ (i := 1) (N := some 95) (v := ?_) (a' := ?_) #[true, true, false, false, false, false, false, false, false, false, false, false, false] rfl rfl (any_of HT_.out (by kernel_rfl)) (fun _ _ _ h => h) (Or.inl ⟨by rfl, ?_⟩) ?_ ?_
                            rotate_left
                            · intro w'
                              go_simp
                              with_reducible rfl
                            rotate_left
                            · simp only [Act.put, List.setIfInBounds_toArray, List.set_cons_zero, List.set_cons_succ, i64_w, i32_w]
                              rfl
                            refine pure_ (i := 2) (N := some 96) (v := ?_) (a' := ?_) #[true, true, true, false, false, false, false, false, false, false, false, false, false] rfl rfl (any_of HT_.out (by kernel_rfl)) (fun _ _ _ h => h) (Or.inl ⟨by rfl, ?_⟩) ?_ ?_
                            rotate_left
                            · intro w'
                              go_simp
                              with_reducible rfl
                            rotate_left
                            · simp only [Act.put, List.setIfInBounds_toArray, List.set_cons_zero, List.set_cons_succ, i64_w, i32_w]
                              rfl
                            refine pure_ (i := 6) (N := some 100) (v := ?_) (a' := ?_) #[true, true, true, false, false, false, true, false, false, false, false, false, false] rfl rfl (any_of HT_.out (by kernel_rfl)) (fun _ _ _ h => h) (Or.inl ⟨by rfl, ?_⟩) ?_ ?_
                            rotate_left
                            · intro w'
                              go_simp
                              with_reducible rfl
                            rotate_left
                            · simp only [Act.put, List.setIfInBounds_toArray, List.set_cons_zero, List.set_cons_succ, i64_w, i32_w]
                              rfl
                            refine pure_ (i := 7) (N := some 101) (v := ?_) (a' := ?_) #[true, true, true, false, false, false, true, true, false, false, false, false, false] rfl rfl (any_of HT_.out (by kernel_rfl)) (fun _ _ _ h => h) (Or.inl ⟨by rfl, ?_⟩) ?_ ?_
                            rotate_left
                            · intro w'
                              go_simp
                              with_reducible rfl
                            rotate_left
                            · simp only [Act.put, List.setIfInBounds_toArray, List.set_cons_zero, List.set_cons_succ, i64_w, i32_w]
                              rfl
                            refine take_ (i := 3) (N := some 97) (v := ?_) (a' := ?_) #[true, true, true, true, false, false, true, true, false, false, false, false, false] rfl rfl (take_ofW HT_.out HW_.out (by kernel_rfl)) (fun _ _ _ h => h) (Or.inl ⟨by rfl, ?_⟩) hHeld ?_ ?_
                            rotate_left
                            · rintro w' ⟨s0, s1, s2, s3, s4, s5, s6, s7, s8, s9⟩
                              go_simp
                              with_reducible rfl
                            rotate_left
                            · simp only [Act.put, List.setIfInBounds_toArray, List.set_cons_zero, List.set_cons_succ, i64_w, i32_w]
                              rfl
                            refine take_ (i := 8) (N := some 102) (v := ?_) (a' := ?_) #[true, true, true, true, false, false, true, true, true, false, false, false, false] rfl rfl (take_ofW HT_.out HW_.out (by kernel_rfl)) (fun _ _ _ h => h) (Or.inl ⟨by rfl, ?_⟩) hHeld ?_ ?_
                            rotate_left
                            · rintro w' ⟨s0, s1, s2, s3, s4, s5, s6, s7, s8, s9⟩
                              go_simp
                              with_reducible rfl
                            rotate_left
                            · simp only [Act.put, List.setIfInBounds_toArray, List.set_cons_zero, List.set_cons_succ, i64_w, i32_w]
                              rfl
                            refine one_ (i := 4) (N := some 98) #[true, true, true, true, true, false, true, true, true, false, false, false, false] rfl rfl (one_of HT_.out (by kernel_rfl)) (by decide) (fun K hK => ?_)
                            refine goes_ Tryd.func31 (by kernel_rfl) rfl #[.string a0_6] (by rfl) rfl rfl (by (try simp only [List.map_toArray, List.map_cons, List.map_nil]); first | done | rfl | (simp only [List.length_drop, List.length_take]; rfl)) ?_
                            with_reducible refine (strongboxref23_bytes.calls k1 a0_6 t201 _ A42.out).mono ?_
                            rintro e w' ⟨rfl, ⟨nd, rfl⟩⟩
                            refine ⟨_, rfl, ?_⟩
                            refine hK.out _ _ ⟨(blk_cell BK191.out 0).trans rfl, (blk_cell BK191.out 1).trans rfl, (blk_cell BK191.out 2).trans rfl, (blk_cell BK191.out 3).trans rfl, (blk_cell BK191.out 4).trans rfl, (blk_cell BK191.out 5).trans rfl, (blk_cell BK191.out 6).trans rfl, (blk_cell BK191.out 7).trans rfl, (blk_cell BK191.out 8).trans rfl, (blk_cell BK191.out 9).trans rfl⟩ (fun hHeld => ?_)
                            clear hK K
                            refine norm_ (a' := ?_) ?_ ?_
                            rotate_left
                            · show Act.put _ (some 98) _ = _
                              simp only [Act.put, List.setIfInBounds_toArray, List.set_cons_zero, List.set_cons_succ, i64_w, i32_w]
                              rfl
                            refine pure_ (i := 5) (N := some 99) (v := ?_) (a' := ?_) #[true, true, true, true, true, true, true, true, true, false, false, false, false] rfl rfl (any_of HT_.out (by kernel_rfl)) (fun _ _ _ h => h) (Or.inl ⟨by rfl, ?_⟩) ?_ ?_
                            rotate_left
                            · intro w'
                              go_simp
                              with_reducible rfl
                            rotate_left
                            · simp only [Act.put, List.setIfInBounds_toArray, List.set_cons_zero, List.set_cons_succ, i64_w, i32_w]
                              rfl
                            refine pure_ (i := 9) (N := some 4) (v := ?_) (a' := ?_) #[true, true, true, true, true, true, true, true, true, true, false, false, false] rfl rfl (any_of HT_.out (by kernel_rfl)) (fun _ _ _ h => h) (Or.inl ⟨by rfl, ?_⟩) ?_ ?_
                            rotate_left
                            · intro w'
                              go_simp
                              with_reducible rfl
                            rotate_left
                            · simp only [Act.put, List.setIfInBounds_toArray, List.set_cons_zero, List.set_cons_succ, i64_w, i32_w]
                              rfl
                            refine pure_ (i := 10) (N := some 103) (v := ?_) (a' := ?_) #[true, true, true, true, true, true, true, true, true, true, true, false, false] rfl rfl (any_of HT_.out (by kernel_rfl)) (fun _ _ _ h => h) (Or.inl ⟨by rfl, ?_⟩) ?_ ?_
                            rotate_left
                            · intro w'
                              go_simp
                              with_reducible rfl
                            rotate_left
                            · simp only [Act.put, List.setIfInBounds_toArray, List.set_cons_zero, List.set_cons_succ, i64_w, i32_w]
                              rfl
                            refine pure_ (i := 11) (N := some 104) (v := ?_) (a' := ?_) #[true, true, true, true, true, true, true, true, true, true, true, true, false] rfl rfl (any_of HT_.out (by kernel_rfl)) (fun _ _ _ h => h) (Or.inl ⟨by rfl, ?_⟩) ?_ ?_
                            rotate_left
                            · intro w'
                              go_simp
                              with_reducible rfl
                            rotate_left
                            · simp only [Act.put, List.setIfInBounds_toArray, List.set_cons_zero, List.set_cons_succ, i64_w, i32_w]
                              rfl
                            refine one_ (i := 12) (N := none) #[true, true, true, true, true, true, true, true, true, true, true, true, true] rfl rfl (one_of HT_.out (by kernel_rfl)) (by decide) (fun K hK => ?_)
                            have hs45 : w44.cell? ⟨gb194, 6, none⟩ = some (.string x195006_1) := (blk_cell BK194.out 6).trans rfl
                            have hfs45 := blk_frozen BK194.out 6
                            have hns45_0 := NB191_194.out
                            have hms45_0 := NB194_191.out
                            refine skip_ (w1 := ?_) (by rfl) rfl ?_ ?_
                            rotate_left
                            · go_simp
                              rfl
                            refine hK.out _ _ ⟨((cell_far (p := ⟨gb194, _, none⟩) NB191_194.out _).trans (hHeld.1)), ((cell_far (p := ⟨gb194, _, none⟩) NB191_194.out _).trans (hHeld.2.1)), ((cell_far (p := ⟨gb194, _, none⟩) NB191_194.out _).trans (hHeld.2.2.1)), ((cell_far (p := ⟨gb194, _, none⟩) NB191_194.out _).trans (hHeld.2.2.2.1)), ((cell_far (p := ⟨gb194, _, none⟩) NB191_194.out _).trans (hHeld.2.2.2.2.1)), ((cell_far (p := ⟨gb194, _, none⟩) NB191_194.out _).trans (hHeld.2.2.2.2.2.1)), ((cell_far (p := ⟨gb194, _, none⟩) NB191_194.out _).trans (hHeld.2.2.2.2.2.2.1)), ((cell_far (p := ⟨gb194, _, none⟩) NB191_194.out _).trans (hHeld.2.2.2.2.2.2.2.1)), ((cell_far (p := ⟨gb194, _, none⟩) NB191_194.out _).trans (hHeld.2.2.2.2.2.2.2.2.1)), ((cell_far (p := ⟨gb194, _, none⟩) NB191_194.out _).trans (hHeld.2.2.2.2.2.2.2.2.2))⟩ (fun hHeld => ?_)
                            clear hK K
                            refine done_ (done_of HT_.out (by kernel_rfl)) ?_
                            try go_wp2
                            go_roundg k1
                            case measure => have := HK1.out; omega
                            case rel => exact ⟨((x4_1 ++ (⟨#[32]⟩ : ByteArray)) ++ t201), (wrap64 (x7_1 + 1)), (x195001_1), (x195002_1), (x195003_1), (x195004_1), (x195005_1), (a0_6), (x195007_1), (x195008_1), (x195009_1), (u195003), (by first | rfl | (simp; done) | (simp [*]; done)), (by first | rfl | (simp; done) | (simp [*]; done)), H', ⟨by have := HK1.out; omega⟩, ⟨by (with_reducible repeat (first | apply Kd.V_alloc | apply Kd.V_drewN | apply Kd.V_drew)); exact Kd.V_mono (Kd.V_far (p := ⟨gb194, 6, none⟩) (Kd.V_mono HO_192003.out (fun k_ hk => (⟨hk, hk.2.2⟩ : _ ∧ k_ ≠ gb194))) (fun _ hk => hk.2) (.string a0_6)) (fun _ hk => ⟨hk.1.1, ⟨hk.1.2.1, hk.1.2.2⟩⟩)⟩, ⟨by (with_reducible repeat (first | apply Kd.V_alloc | apply Kd.V_drewN | apply Kd.V_drew)); exact Kd.V_mono (Kd.V_far (p := ⟨gb194, 6, none⟩) (Kd.V_mono HO_195003.out (fun k_ hk => (⟨hk, hk.2.2⟩ : _ ∧ k_ ≠ gb194))) (fun _ hk => hk.2) (.string a0_6)) (fun _ hk => ⟨hk.1.1, ⟨hk.1.2.1, hk.1.2.2⟩⟩)⟩, ⟨by (with_reducible repeat (first | refine blk_drewN ?_ _ | refine blk_drew ?_ | refine blk_alloc ?_ _)); refine blk_far ?_ NB191_194.out _; (with_reducible repeat (first | refine blk_drewN ?_ _ | refine blk_drew ?_ | refine blk_alloc ?_ _)); exact BK191.out⟩, ⟨by (with_reducible repeat (first | refine blk_drewN ?_ _ | refine blk_drew ?_ | refine blk_alloc ?_ _)); refine blk_put (cs := #[.int .i64 a0_0, .string x195001_1, .string x195002_1, u195003, .int .i64 x195004_1, .int .i64 x195005_1, .string x195006_1, .string x195007_1, .int .i64 x195008_1, .int .i64 x195009_1]) ?_ 6 _ rfl; (with_reducible repeat (first | refine blk_drewN ?_ _ | refine blk_drew ?_ | refine blk_alloc ?_ _)); exact BK194.out⟩, ⟨by repeat (first | (with_reducible first | exact HB.out | apply below_alloc | apply pw_below_drewN | apply below_drew1 | refine below_set ?_ GE191.out | refine below_set ?_ GE194.out) | exact HB.out)⟩⟩
                          · rw [if_neg c43] at H
                            exact absurd H (by simp)
                        · rw [if_neg c41] at H
                          have c41b0 : ((bt t193 x7_1) == 112) = false := beq_eq_false_iff_ne.mpr c41
                          have c41b1 : ((bt t193 x7_1) != 112) = true := bne_iff_ne.mpr c41
                          by_cases c46 : (bt t193 x7_1) = 102
                          · rw [if_pos c46] at H
                            have c46b0 : ((bt t193 x7_1) == 102) = true := beq_iff_eq.mpr c46
                            have c46b1 : ((bt t193 x7_1) != 102) = false := bne_eq_false_iff_eq.mpr c46
                            clear c46
                            replace H := Option.bind_eq_some_iff.mp H
                            obtain ⟨t202, A470, H⟩ := H
                            replace H : (if (x4_1 ++ (⟨#[32]⟩ : ByteArray)).size + t202.size ≤ 9223372036854775807 then (strongboxref23_Text.l0 k1 ((x4_1 ++ (⟨#[32]⟩ : ByteArray)) ++ t202) t193 (wrap64 (x7_1 + 1)) a0_0 a0_1 a0_2 l0_3 a0_4 a0_5 a0_6 a0_7 a0_8 a0_9 a0_0 x195001_1 x195002_1 x195003_1 x195004_1 x195005_1 x195006_1 a0_7 x195008_1 x195009_1) else (none)) = some (r1, r2) := H
                            have A47 := Aside0.mk A470
                            clear A470
                            by_cases c48 : (x4_1 ++ (⟨#[32]⟩ : ByteArray)).size + t202.size ≤ 9223372036854775807
                            · rw [if_pos c48] at H
                              have c48b0 := eq_true c48
                              have c48b1 : decide ((x4_1 ++ (⟨#[32]⟩ : ByteArray)).size + t202.size ≤ 9223372036854775807) = true := decide_eq_true c48
                              try have c48b2 : (9223372036854775807 < (x4_1 ++ (⟨#[32]⟩ : ByteArray)).size + t202.size) = False := eq_false (Nat.not_lt.2 c48)
                              have c48b3 : (9223372036854775807 < x4_1.size + 1 + t202.size) = False := eq_false (by have h_ := c48; rw [ByteArray.size_append] at h_; exact Nat.not_lt.2 h_)
                              have H' := Aside0.mk H
                              clear H
                              have p14 : 0 ≤ (x7_1 : Int) := of_decide_eq_true (by first | (with_reducible assumption) | assumption)
                              have q14 : x7_1 < (t193.size : Int) := of_decide_eq_true (by first | (with_reducible assumption) | assumption)
                              have hx14 := bt_at t193 x7_1
                              replace p14 := eq_true p14
                              replace q14 := eq_true q14
                              try go_wp2
                              have n0_ := Aside0.mk (Kd.V_drew HO_192003.out)
                              have n1_ := Aside0.mk (Kd.V_drew HO_195003.out)
                              have n2_ := Aside0.mk (blk_drew BK191.out)
                              have n3_ := Aside0.mk (blk_drew BK194.out)
                              have n4_ := Aside0.mk (below_drew1 HB.out)
                              clear HO_192003
                              clear HO_195003
                              clear BK191
                              clear BK194
                              clear HB
                              have HO_192003 := n0_
                              have HO_195003 := n1_
                              have BK191 := n2_
                              have BK194 := n3_
                              have HB := n4_
                              clear n0_ n1_ n2_ n3_ n4_
                              refine start_ (n := 13) (S := fun w' => w'.cell? ⟨gb191, 0, none⟩ = some (.int .i64 a0_0) ∧ w'.cell? ⟨gb191, 1, none⟩ = some (.string a0_1) ∧ w'.cell? ⟨gb191, 2, none⟩ = some (.string a0_2) ∧ w'.cell? ⟨gb191, 3, none⟩ = some (.slice A0_3 l0_3.length c0_3) ∧ w'.cell? ⟨gb191, 4, none⟩ = some (.int .i64 a0_4) ∧ w'.cell? ⟨gb191, 5, none⟩ = some (.int .i64 a0_5) ∧ w'.cell? ⟨gb191, 6, none⟩ = some (.string a0_6) ∧ w'.cell? ⟨gb191, 7, none⟩ = some (.string a0_7) ∧ w'.cell? ⟨gb191, 8, none⟩ = some (.int .i64 a0_8) ∧ w'.cell? ⟨gb191, 9, none⟩ = some (.int .i64 a0_9)) (ds := []) #[false, false, false, false, false, false, false, false, false, false, false, false, false] (by kernel_rfl) rfl rfl ⟨(blk_cell BK191.out 0).trans rfl, (blk_cell BK191.out 1).trans rfl, (blk_cell BK191.out 2).trans rfl, (blk_cell BK191.out 3).trans rfl, (blk_cell BK191.out 4).trans rfl, (blk_cell BK191.out 5).trans rfl, (blk_cell BK191.out 6).trans rfl, (blk_cell BK191.out 7).trans rfl, (blk_cell BK191.out 8).trans rfl, (blk_cell BK191.out 9).trans rfl⟩ (fun hHeld => ?_); refine with_tabW strongboxref23_Text.tab24 strongboxref23_Text.bits24 (fun HT_ HW_ => ?_)
                              generalize wr.drew = w49 at HO_192003 HO_195003 BK191 BK194 HB hHeld ⊢
                              refine pure_ (i := 0) (N := some 107) (v := ?_) (a' := ?_) #[true, false, false, false, false, false, false, false, false, false, false, false, false] rfl rfl (any_of HT_.out (by kernel_rfl)) (fun _ _ _ h => h) (Or.inl ⟨by rfl, ?_⟩) ?_ ?_
                              rotate_left
                              · intro w'
                                go_simp
                                with_reducible rfl
                              rotate_left
                              · simp only [Act.put, List.setIfInBounds_toArray, List.set_cons_zero, List.set_cons_succ, i64_w, i32_w]
                                rfl
                              refine pure_ (i := 1) (N := some 108) (v := ?_) (a' := ?_) #[true, true, false, false, false, false, false, false, false, false, false, false, false] rfl rfl (any_of HT_.out (by kernel_rfl)) (fun _ _ _ h => h) (Or.inl ⟨by rfl, ?_⟩) ?_ ?_
                              rotate_left
                              · intro w'
                                go_simp
                                with_reducible rfl
                              rotate_left
                              · simp only [Act.put, List.setIfInBounds_toArray, List.set_cons_zero, List.set_cons_succ, i64_w, i32_w]
                                rfl
                              refine pure_ (i := 2) (N := some 109) (v := ?_) (a' := ?_) #[true, true, true, false, false, false, false, false, false, false, false, false, false] rfl rfl (any_of HT_.out (by kernel_rfl)) (fun _ _ _ h => h) (Or.inl ⟨by rfl, ?_⟩) ?_ ?_
                              rotate_left
                              · intro w'
                                go_simp
                                with_reducible rfl
                              rotate_left
                              · simp only [Act.put, List.setIfInBounds_toArray, List.set_cons_zero, List.set_cons_succ, i64_w, i32_w]
                                rfl
                              refine pure_ (i := 6) (N := some 113) (v := ?_) (a' := ?_) #[true, true, true, false, false, false, true, false, false, false, false, false, false] rfl rfl (any_of HT_.out (by kernel_rfl)) (fun _ _ _ h => h) (Or.inl ⟨by rfl, ?_⟩) ?_ ?_
                              rotate_left
                              · intro w'
                                go_simp
                                with_reducible rfl
                              rotate_left
                              · simp only [Act.put, List.setIfInBounds_toArray, List.set_cons_zero, List.set_cons_succ, i64_w, i32_w]
                                rfl
                              refine pure_ (i := 7) (N := some 114) (v := ?_) (a' := ?_) #[true, true, true, false, false, false, true, true, false, false, false, false, false] rfl rfl (any_of HT_.out (by kernel_rfl)) (fun _ _ _ h => h) (Or.inl ⟨by rfl, ?_⟩) ?_ ?_
                              rotate_left
                              · intro w'
                                go_simp
                                with_reducible rfl
                              rotate_left
                              · simp only [Act.put, List.setIfInBounds_toArray, List.set_cons_zero, List.set_cons_succ, i64_w, i32_w]
                                rfl
                              refine take_ (i := 3) (N := some 110) (v := ?_) (a' := ?_) #[true, true, true, true, false, false, true, true, false, false, false, false, false] rfl rfl (take_ofW HT_.out HW_.out (by kernel_rfl)) (fun _ _ _ h => h) (Or.inl ⟨by rfl, ?_⟩) hHeld ?_ ?_
                              rotate_left
                              · rintro w' ⟨s0, s1, s2, s3, s4, s5, s6, s7, s8, s9⟩
                                go_simp
                                with_reducible rfl
                              rotate_left
                              · simp only [Act.put, List.setIfInBounds_toArray, List.set_cons_zero, List.set_cons_succ, i64_w, i32_w]
                                rfl
                              refine take_ (i := 8) (N := some 115) (v := ?_) (a' := ?_) #[true, true, true, true, false, false, true, true, true, false, false, false, false] rfl rfl (take_ofW HT_.out HW_.out (by kernel_rfl)) (fun _ _ _ h => h) (Or.inl ⟨by rfl, ?_⟩) hHeld ?_ ?_
                              rotate_left
                              · rintro w' ⟨s0, s1, s2, s3, s4, s5, s6, s7, s8, s9⟩
                                go_simp
                                with_reducible rfl
                              rotate_left
                              · simp only [Act.put, List.setIfInBounds_toArray, List.set_cons_zero, List.set_cons_succ, i64_w, i32_w]
                                rfl
                              refine one_ (i := 4) (N := some 111) #[true, true, true, true, true, false, true, true, true, false, false, false, false] rfl rfl (one_of HT_.out (by kernel_rfl)) (by decide) (fun K hK => ?_)
                              refine goes_ Tryd.func31 (by kernel_rfl) rfl #[.string a0_7] (by rfl) rfl rfl (by (try simp only [List.map_toArray, List.map_cons, List.map_nil]); first | done | rfl | (simp only [List.length_drop, List.length_take]; rfl)) ?_
                              with_reducible refine (strongboxref23_bytes.calls k1 a0_7 t202 _ A47.out).mono ?_
                              rintro e w' ⟨rfl, ⟨nd, rfl⟩⟩
                              refine ⟨_, rfl, ?_⟩
                              refine hK.out _ _ ⟨(blk_cell BK191.out 0).trans rfl, (blk_cell BK191.out 1).trans rfl, (blk_cell BK191.out 2).trans rfl, (blk_cell BK191.out 3).trans rfl, (blk_cell BK191.out 4).trans rfl, (blk_cell BK191.out 5).trans rfl, (blk_cell BK191.out 6).trans rfl, (blk_cell BK191.out 7).trans rfl, (blk_cell BK191.out 8).trans rfl, (blk_cell BK191.out 9).trans rfl⟩ (fun hHeld => ?_)
                              clear hK K
                              refine norm_ (a' := ?_) ?_ ?_
                              rotate_left
                              · show Act.put _ (some 111) _ = _
                                simp only [Act.put, List.setIfInBounds_toArray, List.set_cons_zero, List.set_cons_succ, i64_w, i32_w]
                                rfl
                              refine pure_ (i := 5) (N := some 112) (v := ?_) (a' := ?_) #[true, true, true, true, true, true, true, true, true, false, false, false, false] rfl rfl (any_of HT_.out (by kernel_rfl)) (fun _ _ _ h => h) (Or.inl ⟨by rfl, ?_⟩) ?_ ?_
                              rotate_left
                              · intro w'
                                go_simp
                                with_reducible rfl
                              rotate_left
                              · simp only [Act.put, List.setIfInBounds_toArray, List.set_cons_zero, List.set_cons_succ, i64_w, i32_w]
                                rfl
                              refine pure_ (i := 9) (N := some 4) (v := ?_) (a' := ?_) #[true, true, true, true, true, true, true, true, true, true, false, false, false] rfl rfl (any_of HT_.out (by kernel_rfl)) (fun _ _ _ h => h) (Or.inl ⟨by rfl, ?_⟩) ?_ ?_
                              rotate_left
                              · intro w'
                                go_simp
                                with_reducible rfl
                              rotate_left
                              · simp only [Act.put, List.setIfInBounds_toArray, List.set_cons_zero, List.set_cons_succ, i64_w, i32_w]
                                rfl
                              refine pure_ (i := 10) (N := some 116) (v := ?_) (a' := ?_) #[true, true, true, true, true, true, true, true, true, true, true, false, false] rfl rfl (any_of HT_.out (by kernel_rfl)) (fun _ _ _ h => h) (Or.inl ⟨by rfl, ?_⟩) ?_ ?_
                              rotate_left
                              · intro w'
                                go_simp
                                with_reducible rfl
                              rotate_left
                              · simp only [Act.put, List.setIfInBounds_toArray, List.set_cons_zero, List.set_cons_succ, i64_w, i32_w]
                                rfl
                              refine pure_ (i := 11) (N := some 117) (v := ?_) (a' := ?_) #[true, true, true, true, true, true, true, true, true, true, true, true, false] rfl rfl (any_of HT_.out (by kernel_rfl)) (fun _ _ _ h => h) (Or.inl ⟨by rfl, ?_⟩) ?_ ?_
                              rotate_left
                              · intro w'
                                go_simp
                                with_reducible rfl
                              rotate_left
                              · simp only [Act.put, List.setIfInBounds_toArray, List.set_cons_zero, List.set_cons_succ, i64_w, i32_w]
                                rfl
                              refine one_ (i := 12) (N := none) #[true, true, true, true, true, true, true, true, true, true, true, true, true] rfl rfl (one_of HT_.out (by kernel_rfl)) (by decide) (fun K hK => ?_)
                              have hs50 : w49.cell? ⟨gb194, 7, none⟩ = some (.string x195007_1) := (blk_cell BK194.out 7).trans rfl
                              have hfs50 := blk_frozen BK194.out 7
                              have hns50_0 := NB191_194.out
                              have hms50_0 := NB194_191.out
                              refine skip_ (w1 := ?_) (by rfl) rfl ?_ ?_
                              rotate_left
                              · go_simp
                                rfl
                              refine hK.out _ _ ⟨((cell_far (p := ⟨gb194, _, none⟩) NB191_194.out _).trans (hHeld.1)), ((cell_far (p := ⟨gb194, _, none⟩) NB191_194.out _).trans (hHeld.2.1)), ((cell_far (p := ⟨gb194, _, none⟩) NB191_194.out _).trans (hHeld.2.2.1)), ((cell_far (p := ⟨gb194, _, none⟩) NB191_194.out _).trans (hHeld.2.2.2.1)), ((cell_far (p := ⟨gb194, _, none⟩) NB191_194.out _).trans (hHeld.2.2.2.2.1)), ((cell_far (p := ⟨gb194, _, none⟩) NB191_194.out _).trans (hHeld.2.2.2.2.2.1)), ((cell_far (p := ⟨gb194, _, none⟩) NB191_194.out _).trans (hHeld.2.2.2.2.2.2.1)), ((cell_far (p := ⟨gb194, _, none⟩) NB191_194.out _).trans (hHeld.2.2.2.2.2.2.2.1)), ((cell_far (p := ⟨gb194, _, none⟩) NB191_194.out _).trans (hHeld.2.2.2.2.2.2.2.2.1)), ((cell_far (p := ⟨gb194, _, none⟩) NB191_194.out _).trans (hHeld.2.2.2.2.2.2.2.2.2))⟩ (fun hHeld => ?_)
                              clear hK K
                              refine done_ (done_of HT_.out (by kernel_rfl)) ?_
                              try go_wp2
                              go_roundg k1
                              case measure => have := HK1.out; omega
                              case rel => exact ⟨((x4_1 ++ (⟨#[32]⟩ : ByteArray)) ++ t202), (wrap64 (x7_1 + 1)), (x195001_1), (x195002_1), (x195003_1), (x195004_1), (x195005_1), (x195006_1), (a0_7), (x195008_1), (x195009_1), (u195003), (by first | rfl | (simp; done) | (simp [*]; done)), (by first | rfl | (simp; done) | (simp [*]; done)), H', ⟨by have := HK1.out; omega⟩, ⟨by (with_reducible repeat (first | apply Kd.V_alloc | apply Kd.V_drewN | apply Kd.V_drew)); exact Kd.V_mono (Kd.V_far (p := ⟨gb194, 7, none⟩) (Kd.V_mono HO_192003.out (fun k_ hk => (⟨hk, hk.2.2⟩ : _ ∧ k_ ≠ gb194))) (fun _ hk => hk.2) (.string a0_7)) (fun _ hk => ⟨hk.1.1, ⟨hk.1.2.1, hk.1.2.2⟩⟩)⟩, ⟨by (with_reducible repeat (first | apply Kd.V_alloc | apply Kd.V_drewN | apply Kd.V_drew)); exact Kd.V_mono (Kd.V_far (p := ⟨gb194, 7, none⟩) (Kd.V_mono HO_195003.out (fun k_ hk => (⟨hk, hk.2.2⟩ : _ ∧ k_ ≠ gb194))) (fun _ hk => hk.2) (.string a0_7)) (fun _ hk => ⟨hk.1.1, ⟨hk.1.2.1, hk.1.2.2⟩⟩)⟩, ⟨by (with_reducible repeat (first | refine blk_drewN ?_ _ | refine blk_drew ?_ | refine blk_alloc ?_ _)); refine blk_far ?_ NB191_194.out _; (with_reducible repeat (first | refine blk_drewN ?_ _ | refine blk_drew ?_ | refine blk_alloc ?_ _)); exact BK191.out⟩, ⟨by (with_reducible repeat (first | refine blk_drewN ?_ _ | refine blk_drew ?_ | refine blk_alloc ?_ _)); refine blk_put (cs := #[.int .i64 a0_0, .string x195001_1, .string x195002_1, u195003, .int .i64 x195004_1, .int .i64 x195005_1, .string x195006_1, .string x195007_1, .int .i64 x195008_1, .int .i64 x195009_1]) ?_ 7 _ rfl; (with_reducible repeat (first | refine blk_drewN ?_ _ | refine blk_drew ?_ | refine blk_alloc ?_ _)); exact BK194.out⟩, ⟨by repeat (first | (with_reducible first | exact HB.out | apply below_alloc | apply pw_below_drewN | apply below_drew1 | refine below_set ?_ GE191.out | refine below_set ?_ GE194.out) | exact HB.out)⟩⟩
                            · rw [if_neg c48] at H
                              exact absurd H (by simp)
                          · rw [if_neg c46] at H
                            have c46b0 : ((bt t193 x7_1) == 102) = false := beq_eq_false_iff_ne.mpr c46
                            have c46b1 : ((bt t193 x7_1) != 102) = true := bne_iff_ne.mpr c46
                            by_cases c51 : (bt t193 x7_1) = 105
                            · rw [if_pos c51] at H
                              have c51b0 : ((bt t193 x7_1) == 105) = true := beq_iff_eq.mpr c51
                              have c51b1 : ((bt t193 x7_1) != 105) = false := bne_eq_false_iff_eq.mpr c51
                              clear c51
                              replace H := Option.bind_eq_some_iff.mp H
                              obtain ⟨t203, A520, H⟩ := H
                              replace H : (if (x4_1 ++ (⟨#[32]⟩ : ByteArray)).size + t203.size ≤ 9223372036854775807 then (strongboxref23_Text.l0 k1 ((x4_1 ++ (⟨#[32]⟩ : ByteArray)) ++ t203) t193 (wrap64 (x7_1 + 1)) a0_0 a0_1 a0_2 l0_3 a0_4 a0_5 a0_6 a0_7 a0_8 a0_9 a0_0 x195001_1 x195002_1 x195003_1 x195004_1 x195005_1 x195006_1 x195007_1 a0_8 x195009_1) else (none)) = some (r1, r2) := H
                              have A52 := Aside0.mk A520
                              clear A520
                              by_cases c53 : (x4_1 ++ (⟨#[32]⟩ : ByteArray)).size + t203.size ≤ 9223372036854775807
                              · rw [if_pos c53] at H
                                have c53b0 := eq_true c53
                                have c53b1 : decide ((x4_1 ++ (⟨#[32]⟩ : ByteArray)).size + t203.size ≤ 9223372036854775807) = true := decide_eq_true c53
                                try have c53b2 : (9223372036854775807 < (x4_1 ++ (⟨#[32]⟩ : ByteArray)).size + t203.size) = False := eq_false (Nat.not_lt.2 c53)
                                have c53b3 : (9223372036854775807 < x4_1.size + 1 + t203.size) = False := eq_false (by have h_ := c53; rw [ByteArray.size_append] at h_; exact Nat.not_lt.2 h_)
                                have H' := Aside0.mk H
                                clear H
                                have p14 : 0 ≤ (x7_1 : Int) := of_decide_eq_true (by first | (with_reducible assumption) | assumption)
                                have q14 : x7_1 < (t193.size : Int) := of_decide_eq_true (by first | (with_reducible assumption) | assumption)
                                have hx14 := bt_at t193 x7_1
                                replace p14 := eq_true p14
                                replace q14 := eq_true q14
                                try go_wp2
                                have n0_ := Aside0.mk (Kd.V_drew HO_192003.out)
                                have n1_ := Aside0.mk (Kd.V_drew HO_195003.out)
                                have n2_ := Aside0.mk (blk_drew BK191.out)
                                have n3_ := Aside0.mk (blk_drew BK194.out)
                                have n4_ := Aside0.mk (below_drew1 HB.out)
                                clear HO_192003
                                clear HO_195003
                                clear BK191
                                clear BK194
                                clear HB
                                have HO_192003 := n0_
                                have HO_195003 := n1_
                                have BK191 := n2_
                                have BK194 := n3_
                                have HB := n4_
                                clear n0_ n1_ n2_ n3_ n4_
                                refine start_ (n := 13) (S := fun w' => w'.cell? ⟨gb191, 0, none⟩ = some (.int .i64 a0_0) ∧ w'.cell? ⟨gb191, 1, none⟩ = some (.string a0_1) ∧ w'.cell? ⟨gb191, 2, none⟩ = some (.string a0_2) ∧ w'.cell? ⟨gb191, 3, none⟩ = some (.slice A0_3 l0_3.length c0_3) ∧ w'.cell? ⟨gb191, 4, none⟩ = some (.int .i64 a0_4) ∧ w'.cell? ⟨gb191, 5, none⟩ = some (.int .i64 a0_5) ∧ w'.cell? ⟨gb191, 6, none⟩ = some (.string a0_6) ∧ w'.cell? ⟨gb191, 7, none⟩ = some (.string a0_7) ∧ w'.cell? ⟨gb191, 8, none⟩ = some (.int .i64 a0_8) ∧ w'.cell? ⟨gb191, 9, none⟩ = some (.int .i64 a0_9)) (ds := []) #[false, false, false, false, false, false, false, false, false, false, false, false, false] (by kernel_rfl) rfl rfl ⟨(blk_cell BK191.out 0).trans rfl, (blk_cell BK191.out 1).trans rfl, (blk_cell BK191.out 2).trans rfl, (blk_cell BK191.out 3).trans rfl, (blk_cell BK191.out 4).trans rfl, (blk_cell BK191.out 5).trans rfl, (blk_cell BK191.out 6).trans rfl, (blk_cell BK191.out 7).trans rfl, (blk_cell BK191.out 8).trans rfl, (blk_cell BK191.out 9).trans rfl⟩ (fun hHeld => ?_); refine with_tabW strongboxref23_Text.tab26 strongboxref23_Text.bits26 (fun HT_ HW_ => ?_)
                                generalize wr.drew = w54 at HO_192003 HO_195003 BK191 BK194 HB hHeld ⊢
                                refine pure_ (i := 0) (N := some 120) (v := ?_) (a' := ?_) #[true, false, false, false, false, false, false, false, false, false, false, false, false] rfl rfl (any_of HT_.out (by kernel_rfl)) (fun _ _ _ h => h) (Or.inl ⟨by rfl, ?_⟩) ?_ ?_
                                rotate_left
                                · intro w'
                                  go_simp
                                  with_reducible rfl
                                rotate_left
                                · simp only [Act.put, List.setIfInBounds_toArray, List.set_cons_zero, List.set_cons_succ, i64_w, i32_w]
                                  rfl
                                refine pure_ (i := 1) (N := some 121) (v := ?_) (a' := ?_) #[true, true, false, false, false, false, false, false, false, false, false, false, false] rfl rfl (any_of HT_.out (by kernel_rfl)) (fun _ _ _ h => h) (Or.inl ⟨by rfl, ?_⟩) ?_ ?_
                                rotate_left
                                · intro w'
                                  go_simp
                                  with_reducible rfl
                                rotate_left
                                · simp only [Act.put, List.setIfInBounds_toArray, List.set_cons_zero, List.set_cons_succ, i64_w, i32_w]
                                  rfl
                                refine pure_ (i := 2) (N := some 122) (v := ?_) (a' := ?_) #[true, true, true, false, false, false, false, false, false, false, false, false, false] rfl rfl (any_of HT_.out (by kernel_rfl)) (fun _ _ _ h => h) (Or.inl ⟨by rfl, ?_⟩) ?_ ?_
                                rotate_left
                                · intro w'
                                  go_simp
                                  with_reducible rfl
                                rotate_left
                                · simp only [Act.put, List.setIfInBounds_toArray, List.set_cons_zero, List.set_cons_succ, i64_w, i32_w]
                                  rfl
                                refine pure_ (i := 6) (N := some 126) (v := ?_) (a' := ?_) #[true, true, true, false, false, false, true, false, false, false, false, false, false] rfl rfl (any_of HT_.out (by kernel_rfl)) (fun _ _ _ h => h) (Or.inl ⟨by rfl, ?_⟩) ?_ ?_
                                rotate_left
                                · intro w'
                                  go_simp
                                  with_reducible rfl
                                rotate_left
                                · simp only [Act.put, List.setIfInBounds_toArray, List.set_cons_zero, List.set_cons_succ, i64_w, i32_w]
                                  rfl
                                refine pure_ (i := 7) (N := some 127) (v := ?_) (a' := ?_) #[true, true, true, false, false, false, true, true, false, false, false, false, false] rfl rfl (any_of HT_.out (by kernel_rfl)) (fun _ _ _ h => h) (Or.inl ⟨by rfl, ?_⟩) ?_ ?_
                                rotate_left
                                · intro w'
                                  go_simp
                                  with_reducible rfl
                                rotate_left
                                · simp only [Act.put, List.setIfInBounds_toArray, List.set_cons_zero, List.set_cons_succ, i64_w, i32_w]
                                  rfl
                                refine take_ (i := 3) (N := some 123) (v := ?_) (a' := ?_) #[true, true, true, true, false, false, true, true, false, false, false, false, false] rfl rfl (take_ofW HT_.out HW_.out (by kernel_rfl)) (fun _ _ _ h => h) (Or.inl ⟨by rfl, ?_⟩) hHeld ?_ ?_
                                rotate_left
                                · rintro w' ⟨s0, s1, s2, s3, s4, s5, s6, s7, s8, s9⟩
                                  go_simp
                                  with_reducible rfl
                                rotate_left
                                · simp only [Act.put, List.setIfInBounds_toArray, List.set_cons_zero, List.set_cons_succ, i64_w, i32_w]
                                  rfl
                                refine take_ (i := 8) (N := some 128) (v := ?_) (a' := ?_) #[true, true, true, true, false, false, true, true, true, false, false, false, false] rfl rfl (take_ofW HT_.out HW_.out (by kernel_rfl)) (fun _ _ _ h => h) (Or.inl ⟨by rfl, ?_⟩) hHeld ?_ ?_
                                rotate_left
                                · rintro w' ⟨s0, s1, s2, s3, s4, s5, s6, s7, s8, s9⟩
                                  go_simp
                                  with_reducible rfl
                                rotate_left
                                · simp only [Act.put, List.setIfInBounds_toArray, List.set_cons_zero, List.set_cons_succ, i64_w, i32_w]
                                  rfl
                                refine one_ (i := 4) (N := some 124) #[true, true, true, true, true, false, true, true, true, false, false, false, false] rfl rfl (one_of HT_.out (by kernel_rfl)) (by decide) (fun K hK => ?_)
                                refine goes_ Tryd.func23 (by kernel_rfl) rfl #[.int .i64 a0_8] (by rfl) rfl rfl (by (try simp only [List.map_toArray, List.map_cons, List.map_nil]); first | done | rfl | (simp only [List.length_drop, List.length_take]; rfl)) ?_
                                with_reducible refine (strongboxref23_number.calls k1 a0_8 t203 _ A52.out).mono ?_
                                rintro e w' ⟨rfl, ⟨nd, rfl⟩⟩
                                refine ⟨_, rfl, ?_⟩
                                refine hK.out _ _ ⟨(blk_cell BK191.out 0).trans rfl, (blk_cell BK191.out 1).trans rfl, (blk_cell BK191.out 2).trans rfl, (blk_cell BK191.out 3).trans rfl, (blk_cell BK191.out 4).trans rfl, (blk_cell BK191.out 5).trans rfl, (blk_cell BK191.out 6).trans rfl, (blk_cell BK191.out 7).trans rfl, (blk_cell BK191.out 8).trans rfl, (blk_cell BK191.out 9).trans rfl⟩ (fun hHeld => ?_)
                                clear hK K
                                refine norm_ (a' := ?_) ?_ ?_
                                rotate_left
                                · show Act.put _ (some 124) _ = _
                                  simp only [Act.put, List.setIfInBounds_toArray, List.set_cons_zero, List.set_cons_succ, i64_w, i32_w]
                                  rfl
                                refine pure_ (i := 5) (N := some 125) (v := ?_) (a' := ?_) #[true, true, true, true, true, true, true, true, true, false, false, false, false] rfl rfl (any_of HT_.out (by kernel_rfl)) (fun _ _ _ h => h) (Or.inl ⟨by rfl, ?_⟩) ?_ ?_
                                rotate_left
                                · intro w'
                                  go_simp
                                  with_reducible rfl
                                rotate_left
                                · simp only [Act.put, List.setIfInBounds_toArray, List.set_cons_zero, List.set_cons_succ, i64_w, i32_w]
                                  rfl
                                refine pure_ (i := 9) (N := some 4) (v := ?_) (a' := ?_) #[true, true, true, true, true, true, true, true, true, true, false, false, false] rfl rfl (any_of HT_.out (by kernel_rfl)) (fun _ _ _ h => h) (Or.inl ⟨by rfl, ?_⟩) ?_ ?_
                                rotate_left
                                · intro w'
                                  go_simp
                                  with_reducible rfl
                                rotate_left
                                · simp only [Act.put, List.setIfInBounds_toArray, List.set_cons_zero, List.set_cons_succ, i64_w, i32_w]
                                  rfl
                                refine pure_ (i := 10) (N := some 129) (v := ?_) (a' := ?_) #[true, true, true, true, true, true, true, true, true, true, true, false, false] rfl rfl (any_of HT_.out (by kernel_rfl)) (fun _ _ _ h => h) (Or.inl ⟨by rfl, ?_⟩) ?_ ?_
                                rotate_left
                                · intro w'
                                  go_simp
                                  with_reducible rfl
                                rotate_left
                                · simp only [Act.put, List.setIfInBounds_toArray, List.set_cons_zero, List.set_cons_succ, i64_w, i32_w]
                                  rfl
                                refine pure_ (i := 11) (N := some 130) (v := ?_) (a' := ?_) #[true, true, true, true, true, true, true, true, true, true, true, true, false] rfl rfl (any_of HT_.out (by kernel_rfl)) (fun _ _ _ h => h) (Or.inl ⟨by rfl, ?_⟩) ?_ ?_
                                rotate_left
                                · intro w'
                                  go_simp
                                  with_reducible rfl
                                rotate_left
                                · simp only [Act.put, List.setIfInBounds_toArray, List.set_cons_zero, List.set_cons_succ, i64_w, i32_w]
                                  rfl
                                refine one_ (i := 12) (N := none) #[true, true, true, true, true, true, true, true, true, true, true, true, true] rfl rfl (one_of HT_.out (by kernel_rfl)) (by decide) (fun K hK => ?_)
                                have hs55 : w54.cell? ⟨gb194, 8, none⟩ = some (.int .i64 x195008_1) := (blk_cell BK194.out 8).trans rfl
                                have hfs55 := blk_frozen BK194.out 8
                                have hns55_0 := NB191_194.out
                                have hms55_0 := NB194_191.out
                                refine skip_ (w1 := ?_) (by rfl) rfl ?_ ?_
                                rotate_left
                                · go_simp
                                  rfl
                                refine hK.out _ _ ⟨((cell_far (p := ⟨gb194, _, none⟩) NB191_194.out _).trans (hHeld.1)), ((cell_far (p := ⟨gb194, _, none⟩) NB191_194.out _).trans (hHeld.2.1)), ((cell_far (p := ⟨gb194, _, none⟩) NB191_194.out _).trans (hHeld.2.2.1)), ((cell_far (p := ⟨gb194, _, none⟩) NB191_194.out _).trans (hHeld.2.2.2.1)), ((cell_far (p := ⟨gb194, _, none⟩) NB191_194.out _).trans (hHeld.2.2.2.2.1)), ((cell_far (p := ⟨gb194, _, none⟩) NB191_194.out _).trans (hHeld.2.2.2.2.2.1)), ((cell_far (p := ⟨gb194, _, none⟩) NB191_194.out _).trans (hHeld.2.2.2.2.2.2.1)), ((cell_far (p := ⟨gb194, _, none⟩) NB191_194.out _).trans (hHeld.2.2.2.2.2.2.2.1)), ((cell_far (p := ⟨gb194, _, none⟩) NB191_194.out _).trans (hHeld.2.2.2.2.2.2.2.2.1)), ((cell_far (p := ⟨gb194, _, none⟩) NB191_194.out _).trans (hHeld.2.2.2.2.2.2.2.2.2))⟩ (fun hHeld => ?_)
                                clear hK K
                                refine done_ (done_of HT_.out (by kernel_rfl)) ?_
                                try go_wp2
                                go_roundg k1
                                case measure => have := HK1.out; omega
                                case rel => exact ⟨((x4_1 ++ (⟨#[32]⟩ : ByteArray)) ++ t203), (wrap64 (x7_1 + 1)), (x195001_1), (x195002_1), (x195003_1), (x195004_1), (x195005_1), (x195006_1), (x195007_1), (a0_8), (x195009_1), (u195003), (by first | rfl | (simp; done) | (simp [*]; done)), (by first | rfl | (simp; done) | (simp [*]; done)), H', ⟨by have := HK1.out; omega⟩, ⟨by (with_reducible repeat (first | apply Kd.V_alloc | apply Kd.V_drewN | apply Kd.V_drew)); exact Kd.V_mono (Kd.V_far (p := ⟨gb194, 8, none⟩) (Kd.V_mono HO_192003.out (fun k_ hk => (⟨hk, hk.2.2⟩ : _ ∧ k_ ≠ gb194))) (fun _ hk => hk.2) (.int .i64 a0_8)) (fun _ hk => ⟨hk.1.1, ⟨hk.1.2.1, hk.1.2.2⟩⟩)⟩, ⟨by (with_reducible repeat (first | apply Kd.V_alloc | apply Kd.V_drewN | apply Kd.V_drew)); exact Kd.V_mono (Kd.V_far (p := ⟨gb194, 8, none⟩) (Kd.V_mono HO_195003.out (fun k_ hk => (⟨hk, hk.2.2⟩ : _ ∧ k_ ≠ gb194))) (fun _ hk => hk.2) (.int .i64 a0_8)) (fun _ hk => ⟨hk.1.1, ⟨hk.1.2.1, hk.1.2.2⟩⟩)⟩, ⟨by (with_reducible repeat (first | refine blk_drewN ?_ _ | refine blk_drew ?_ | refine blk_alloc ?_ _)); refine blk_far ?_ NB191_194.out _; (with_reducible repeat (first | refine blk_drewN ?_ _ | refine blk_drew ?_ | refine blk_alloc ?_ _)); exact BK191.out⟩, ⟨by (with_reducible repeat (first | refine blk_drewN ?_ _ | refine blk_drew ?_ | refine blk_alloc ?_ _)); refine blk_put (cs := #[.int .i64 a0_0, .string x195001_1, .string x195002_1, u195003, .int .i64 x195004_1, .int .i64 x195005_1, .string x195006_1, .string x195007_1, .int .i64 x195008_1, .int .i64 x195009_1]) ?_ 8 _ rfl; (with_reducible repeat (first | refine blk_drewN ?_ _ | refine blk_drew ?_ | refine blk_alloc ?_ _)); exact BK194.out⟩, ⟨by repeat (first | (with_reducible first | exact HB.out | apply below_alloc | apply pw_below_drewN | apply below_drew1 | refine below_set ?_ GE191.out | refine below_set ?_ GE194.out) | exact HB.out)⟩⟩
                              · rw [if_neg c53] at H
                                exact absurd H (by simp)
                            · rw [if_neg c51] at H
                              have c51b0 : ((bt t193 x7_1) == 105) = false := beq_eq_false_iff_ne.mpr c51
                              have c51b1 : ((bt t193 x7_1) != 105) = true := bne_iff_ne.mpr c51
                              replace H := Option.bind_eq_some_iff.mp H
                              obtain ⟨t204, A560, H⟩ := H
                              replace H : (if (x4_1 ++ (⟨#[32]⟩ : ByteArray)).size + t204.size ≤ 9223372036854775807 then (strongboxref23_Text.l0 k1 ((x4_1 ++ (⟨#[32]⟩ : ByteArray)) ++ t204) t193 (wrap64 (x7_1 + 1)) a0_0 a0_1 a0_2 l0_3 a0_4 a0_5 a0_6 a0_7 a0_8 a0_9 a0_0 x195001_1 x195002_1 x195003_1 x195004_1 x195005_1 x195006_1 x195007_1 x195008_1 a0_9) else (none)) = some (r1, r2) := H
                              have A56 := Aside0.mk A560
                              clear A560
                              by_cases c57 : (x4_1 ++ (⟨#[32]⟩ : ByteArray)).size + t204.size ≤ 9223372036854775807
                              · rw [if_pos c57] at H
                                have c57b0 := eq_true c57
                                have c57b1 : decide ((x4_1 ++ (⟨#[32]⟩ : ByteArray)).size + t204.size ≤ 9223372036854775807) = true := decide_eq_true c57
                                try have c57b2 : (9223372036854775807 < (x4_1 ++ (⟨#[32]⟩ : ByteArray)).size + t204.size) = False := eq_false (Nat.not_lt.2 c57)
                                have c57b3 : (9223372036854775807 < x4_1.size + 1 + t204.size) = False := eq_false (by have h_ := c57; rw [ByteArray.size_append] at h_; exact Nat.not_lt.2 h_)
                                have H' := Aside0.mk H
                                clear H
                                have p14 : 0 ≤ (x7_1 : Int) := of_decide_eq_true (by first | (with_reducible assumption) | assumption)
                                have q14 : x7_1 < (t193.size : Int) := of_decide_eq_true (by first | (with_reducible assumption) | assumption)
                                have hx14 := bt_at t193 x7_1
                                replace p14 := eq_true p14
                                replace q14 := eq_true q14
                                try go_wp2
                                have n0_ := Aside0.mk (Kd.V_drew HO_192003.out)
                                have n1_ := Aside0.mk (Kd.V_drew HO_195003.out)
                                have n2_ := Aside0.mk (blk_drew BK191.out)
                                have n3_ := Aside0.mk (blk_drew BK194.out)
                                have n4_ := Aside0.mk (below_drew1 HB.out)
                                clear HO_192003
                                clear HO_195003
                                clear BK191
                                clear BK194
                                clear HB
                                have HO_192003 := n0_
                                have HO_195003 := n1_
                                have BK191 := n2_
                                have BK194 := n3_
                                have HB := n4_
                                clear n0_ n1_ n2_ n3_ n4_
                                refine start_ (n := 13) (S := fun w' => w'.cell? ⟨gb191, 0, none⟩ = some (.int .i64 a0_0) ∧ w'.cell? ⟨gb191, 1, none⟩ = some (.string a0_1) ∧ w'.cell? ⟨gb191, 2, none⟩ = some (.string a0_2) ∧ w'.cell? ⟨gb191, 3, none⟩ = some (.slice A0_3 l0_3.length c0_3) ∧ w'.cell? ⟨gb191, 4, none⟩ = some (.int .i64 a0_4) ∧ w'.cell? ⟨gb191, 5, none⟩ = some (.int .i64 a0_5) ∧ w'.cell? ⟨gb191, 6, none⟩ = some (.string a0_6) ∧ w'.cell? ⟨gb191, 7, none⟩ = some (.string a0_7) ∧ w'.cell? ⟨gb191, 8, none⟩ = some (.int .i64 a0_8) ∧ w'.cell? ⟨gb191, 9, none⟩ = some (.int .i64 a0_9)) (ds := []) #[false, false, false, false, false, false, false, false, false, false, false, false, false] (by kernel_rfl) rfl rfl ⟨(blk_cell BK191.out 0).trans rfl, (blk_cell BK191.out 1).trans rfl, (blk_cell BK191.out 2).trans rfl, (blk_cell BK191.out 3).trans rfl, (blk_cell BK191.out 4).trans rfl, (blk_cell BK191.out 5).trans rfl, (blk_cell BK191.out 6).trans rfl, (blk_cell BK191.out 7).trans rfl, (blk_cell BK191.out 8).trans rfl, (blk_cell BK191.out 9).trans rfl⟩ (fun hHeld => ?_); refine with_tabW strongboxref23_Text.tab10 strongboxref23_Text.bits10 (fun HT_ HW_ => ?_)
                                generalize wr.drew = w58 at HO_192003 HO_195003 BK191 BK194 HB hHeld ⊢
                                refine pure_ (i := 0) (N := some 30) (v := ?_) (a' := ?_) #[true, false, false, false, false, false, false, false, false, false, false, false, false] rfl rfl (any_of HT_.out (by kernel_rfl)) (fun _ _ _ h => h) (Or.inl ⟨by rfl, ?_⟩) ?_ ?_
                                rotate_left
                                · intro w'
                                  go_simp
                                  with_reducible rfl
                                rotate_left
                                · simp only [Act.put, List.setIfInBounds_toArray, List.set_cons_zero, List.set_cons_succ, i64_w, i32_w]
                                  rfl
                                refine pure_ (i := 1) (N := some 31) (v := ?_) (a' := ?_) #[true, true, false, false, false, false, false, false, false, false, false, false, false] rfl rfl (any_of HT_.out (by kernel_rfl)) (fun _ _ _ h => h) (Or.inl ⟨by rfl, ?_⟩) ?_ ?_
                                rotate_left
                                · intro w'
                                  go_simp
                                  with_reducible rfl
                                rotate_left
                                · simp only [Act.put, List.setIfInBounds_toArray, List.set_cons_zero, List.set_cons_succ, i64_w, i32_w]
                                  rfl
                                refine pure_ (i := 2) (N := some 32) (v := ?_) (a' := ?_) #[true, true, true, false, false, false, false, false, false, false, false, false, false] rfl rfl (any_of HT_.out (by kernel_rfl)) (fun _ _ _ h => h) (Or.inl ⟨by rfl, ?_⟩) ?_ ?_
                                rotate_left
                                · intro w'
                                  go_simp
                                  with_reducible rfl
                                rotate_left
                                · simp only [Act.put, List.setIfInBounds_toArray, List.set_cons_zero, List.set_cons_succ, i64_w, i32_w]
                                  rfl
                                refine pure_ (i := 6) (N := some 36) (v := ?_) (a' := ?_) #[true, true, true, false, false, false, true, false, false, false, false, false, false] rfl rfl (any_of HT_.out (by kernel_rfl)) (fun _ _ _ h => h) (Or.inl ⟨by rfl, ?_⟩) ?_ ?_
                                rotate_left
                                · intro w'
                                  go_simp
                                  with_reducible rfl
                                rotate_left
                                · simp only [Act.put, List.setIfInBounds_toArray, List.set_cons_zero, List.set_cons_succ, i64_w, i32_w]
                                  rfl
                                refine pure_ (i := 7) (N := some 37) (v := ?_) (a' := ?_) #[true, true, true, false, false, false, true, true, false, false, false, false, false] rfl rfl (any_of HT_.out (by kernel_rfl)) (fun _ _ _ h => h) (Or.inl ⟨by rfl, ?_⟩) ?_ ?_
                                rotate_left
                                · intro w'
                                  go_simp
                                  with_reducible rfl
                                rotate_left
                                · simp only [Act.put, List.setIfInBounds_toArray, List.set_cons_zero, List.set_cons_succ, i64_w, i32_w]
                                  rfl
                                refine take_ (i := 3) (N := some 33) (v := ?_) (a' := ?_) #[true, true, true, true, false, false, true, true, false, false, false, false, false] rfl rfl (take_ofW HT_.out HW_.out (by kernel_rfl)) (fun _ _ _ h => h) (Or.inl ⟨by rfl, ?_⟩) hHeld ?_ ?_
                                rotate_left
                                · rintro w' ⟨s0, s1, s2, s3, s4, s5, s6, s7, s8, s9⟩
                                  go_simp
                                  with_reducible rfl
                                rotate_left
                                · simp only [Act.put, List.setIfInBounds_toArray, List.set_cons_zero, List.set_cons_succ, i64_w, i32_w]
                                  rfl
                                refine take_ (i := 8) (N := some 38) (v := ?_) (a' := ?_) #[true, true, true, true, false, false, true, true, true, false, false, false, false] rfl rfl (take_ofW HT_.out HW_.out (by kernel_rfl)) (fun _ _ _ h => h) (Or.inl ⟨by rfl, ?_⟩) hHeld ?_ ?_
                                rotate_left
                                · rintro w' ⟨s0, s1, s2, s3, s4, s5, s6, s7, s8, s9⟩
                                  go_simp
                                  with_reducible rfl
                                rotate_left
                                · simp only [Act.put, List.setIfInBounds_toArray, List.set_cons_zero, List.set_cons_succ, i64_w, i32_w]
                                  rfl
                                refine one_ (i := 4) (N := some 34) #[true, true, true, true, true, false, true, true, true, false, false, false, false] rfl rfl (one_of HT_.out (by kernel_rfl)) (by decide) (fun K hK => ?_)
                                refine goes_ Tryd.func23 (by kernel_rfl) rfl #[.int .i64 a0_9] (by rfl) rfl rfl (by (try simp only [List.map_toArray, List.map_cons, List.map_nil]); first | done | rfl | (simp only [List.length_drop, List.length_take]; rfl)) ?_
                                with_reducible refine (strongboxref23_number.calls k1 a0_9 t204 _ A56.out).mono ?_
                                rintro e w' ⟨rfl, ⟨nd, rfl⟩⟩
                                refine ⟨_, rfl, ?_⟩
                                refine hK.out _ _ ⟨(blk_cell BK191.out 0).trans rfl, (blk_cell BK191.out 1).trans rfl, (blk_cell BK191.out 2).trans rfl, (blk_cell BK191.out 3).trans rfl, (blk_cell BK191.out 4).trans rfl, (blk_cell BK191.out 5).trans rfl, (blk_cell BK191.out 6).trans rfl, (blk_cell BK191.out 7).trans rfl, (blk_cell BK191.out 8).trans rfl, (blk_cell BK191.out 9).trans rfl⟩ (fun hHeld => ?_)
                                clear hK K
                                refine norm_ (a' := ?_) ?_ ?_
                                rotate_left
                                · show Act.put _ (some 34) _ = _
                                  simp only [Act.put, List.setIfInBounds_toArray, List.set_cons_zero, List.set_cons_succ, i64_w, i32_w]
                                  rfl
                                refine pure_ (i := 5) (N := some 35) (v := ?_) (a' := ?_) #[true, true, true, true, true, true, true, true, true, false, false, false, false] rfl rfl (any_of HT_.out (by kernel_rfl)) (fun _ _ _ h => h) (Or.inl ⟨by rfl, ?_⟩) ?_ ?_
                                rotate_left
                                · intro w'
                                  go_simp
                                  with_reducible rfl
                                rotate_left
                                · simp only [Act.put, List.setIfInBounds_toArray, List.set_cons_zero, List.set_cons_succ, i64_w, i32_w]
                                  rfl
                                refine pure_ (i := 9) (N := some 4) (v := ?_) (a' := ?_) #[true, true, true, true, true, true, true, true, true, true, false, false, false] rfl rfl (any_of HT_.out (by kernel_rfl)) (fun _ _ _ h => h) (Or.inl ⟨by rfl, ?_⟩) ?_ ?_
                                rotate_left
                                · intro w'
                                  go_simp
                                  with_reducible rfl
                                rotate_left
                                · simp only [Act.put, List.setIfInBounds_toArray, List.set_cons_zero, List.set_cons_succ, i64_w, i32_w]
                                  rfl
                                refine pure_ (i := 10) (N := some 39) (v := ?_) (a' := ?_) #[true, true, true, true, true, true, true, true, true, true, true, false, false] rfl rfl (any_of HT_.out (by kernel_rfl)) (fun _ _ _ h => h) (Or.inl ⟨by rfl, ?_⟩) ?_ ?_
                                rotate_left
                                · intro w'
                                  go_simp
                                  with_reducible rfl
                                rotate_left
                                · simp only [Act.put, List.setIfInBounds_toArray, List.set_cons_zero, List.set_cons_succ, i64_w, i32_w]
                                  rfl
                                refine pure_ (i := 11) (N := some 40) (v := ?_) (a' := ?_) #[true, true, true, true, true, true, true, true, true, true, true, true, false] rfl rfl (any_of HT_.out (by kernel_rfl)) (fun _ _ _ h => h) (Or.inl ⟨by rfl, ?_⟩) ?_ ?_
                                rotate_left
                                · intro w'
                                  go_simp
                                  with_reducible rfl
                                rotate_left
                                · simp only [Act.put, List.setIfInBounds_toArray, List.set_cons_zero, List.set_cons_succ, i64_w, i32_w]
                                  rfl
                                refine one_ (i := 12) (N := none) #[true, true, true, true, true, true, true, true, true, true, true, true, true] rfl rfl (one_of HT_.out (by kernel_rfl)) (by decide) (fun K hK => ?_)
                                have hs59 : w58.cell? ⟨gb194, 9, none⟩ = some (.int .i64 x195009_1) := (blk_cell BK194.out 9).trans rfl
                                have hfs59 := blk_frozen BK194.out 9
                                have hns59_0 := NB191_194.out
                                have hms59_0 := NB194_191.out
                                refine skip_ (w1 := ?_) (by rfl) rfl ?_ ?_
                                rotate_left
                                · go_simp
                                  rfl
                                refine hK.out _ _ ⟨((cell_far (p := ⟨gb194, _, none⟩) NB191_194.out _).trans (hHeld.1)), ((cell_far (p := ⟨gb194, _, none⟩) NB191_194.out _).trans (hHeld.2.1)), ((cell_far (p := ⟨gb194, _, none⟩) NB191_194.out _).trans (hHeld.2.2.1)), ((cell_far (p := ⟨gb194, _, none⟩) NB191_194.out _).trans (hHeld.2.2.2.1)), ((cell_far (p := ⟨gb194, _, none⟩) NB191_194.out _).trans (hHeld.2.2.2.2.1)), ((cell_far (p := ⟨gb194, _, none⟩) NB191_194.out _).trans (hHeld.2.2.2.2.2.1)), ((cell_far (p := ⟨gb194, _, none⟩) NB191_194.out _).trans (hHeld.2.2.2.2.2.2.1)), ((cell_far (p := ⟨gb194, _, none⟩) NB191_194.out _).trans (hHeld.2.2.2.2.2.2.2.1)), ((cell_far (p := ⟨gb194, _, none⟩) NB191_194.out _).trans (hHeld.2.2.2.2.2.2.2.2.1)), ((cell_far (p := ⟨gb194, _, none⟩) NB191_194.out _).trans (hHeld.2.2.2.2.2.2.2.2.2))⟩ (fun hHeld => ?_)
                                clear hK K
                                refine done_ (done_of HT_.out (by kernel_rfl)) ?_
                                try go_wp2
                                go_roundg k1
                                case measure => have := HK1.out; omega
                                case rel => exact ⟨((x4_1 ++ (⟨#[32]⟩ : ByteArray)) ++ t204), (wrap64 (x7_1 + 1)), (x195001_1), (x195002_1), (x195003_1), (x195004_1), (x195005_1), (x195006_1), (x195007_1), (x195008_1), (a0_9), (u195003), (by first | rfl | (simp; done) | (simp [*]; done)), (by first | rfl | (simp; done) | (simp [*]; done)), H', ⟨by have := HK1.out; omega⟩, ⟨by (with_reducible repeat (first | apply Kd.V_alloc | apply Kd.V_drewN | apply Kd.V_drew)); exact Kd.V_mono (Kd.V_far (p := ⟨gb194, 9, none⟩) (Kd.V_mono HO_192003.out (fun k_ hk => (⟨hk, hk.2.2⟩ : _ ∧ k_ ≠ gb194))) (fun _ hk => hk.2) (.int .i64 a0_9)) (fun _ hk => ⟨hk.1.1, ⟨hk.1.2.1, hk.1.2.2⟩⟩)⟩, ⟨by (with_reducible repeat (first | apply Kd.V_alloc | apply Kd.V_drewN | apply Kd.V_drew)); exact Kd.V_mono (Kd.V_far (p := ⟨gb194, 9, none⟩) (Kd.V_mono HO_195003.out (fun k_ hk => (⟨hk, hk.2.2⟩ : _ ∧ k_ ≠ gb194))) (fun _ hk => hk.2) (.int .i64 a0_9)) (fun _ hk => ⟨hk.1.1, ⟨hk.1.2.1, hk.1.2.2⟩⟩)⟩, ⟨by (with_reducible repeat (first | refine blk_drewN ?_ _ | refine blk_drew ?_ | refine blk_alloc ?_ _)); refine blk_far ?_ NB191_194.out _; (with_reducible repeat (first | refine blk_drewN ?_ _ | refine blk_drew ?_ | refine blk_alloc ?_ _)); exact BK191.out⟩, ⟨by (with_reducible repeat (first | refine blk_drewN ?_ _ | refine blk_drew ?_ | refine blk_alloc ?_ _)); refine blk_put (cs := #[.int .i64 a0_0, .string x195001_1, .string x195002_1, u195003, .int .i64 x195004_1, .int .i64 x195005_1, .string x195006_1, .string x195007_1, .int .i64 x195008_1, .int .i64 x195009_1]) ?_ 9 _ rfl; (with_reducible repeat (first | refine blk_drewN ?_ _ | refine blk_drew ?_ | refine blk_alloc ?_ _)); exact BK194.out⟩, ⟨by repeat (first | (with_reducible first | exact HB.out | apply below_alloc | apply pw_below_drewN | apply below_drew1 | refine below_set ?_ GE191.out | refine below_set ?_ GE194.out) | exact HB.out)⟩⟩
                              · rw [if_neg c57] at H
                                exact absurd H (by simp)
            · rw [if_neg c13] at H
              exact absurd H (by simp)
          · rw [if_neg c12] at H
            exact absurd H (by simp)
        · rw [if_neg c11] at H
          have c11b0 : decide (x7_1 < (t193.size : Int)) = false := decide_eq_false c11
          clear c11
          replace H := Option.bind_eq_some_iff.mp H
          obtain ⟨t195, A600, H⟩ := H
          replace H : (if t195 = true then (some (x4_1, true)) else (some ((⟨#[]⟩ : ByteArray), false))) = some (r1, r2) := H
          have A60 := Aside0.mk A600
          clear A600
          by_cases c61 : t195 = true
          · subst c61
            have H1 : (some (x4_1, true)) = some (r1, r2) := by rw [if_pos rfl] at H; exact H
            clear H
            have H := H1
            clear H1
            simp only [Option.some.injEq, Prod.mk.injEq] at H
            obtain ⟨rfl, rfl⟩ := H
            have hnb62 := NB194_191.out
            have hnc62 := NB191_194.out
            have hcz63_0 : wr.cell? ⟨gb194, 0, none⟩ = some (.int .i64 a0_0) := (blk_cell BK194.out 0).trans rfl
            have hcz63_1 : wr.cell? ⟨gb194, 1, none⟩ = some (.string x195001_1) := (blk_cell BK194.out 1).trans rfl
            have hcz63_2 : wr.cell? ⟨gb194, 2, none⟩ = some (.string x195002_1) := (blk_cell BK194.out 2).trans rfl
            have hcz63_3 : wr.cell? ⟨gb194, 3, none⟩ = some (u195003) := (blk_cell BK194.out 3).trans rfl
            have hcz63_4 : wr.cell? ⟨gb194, 4, none⟩ = some (.int .i64 x195004_1) := (blk_cell BK194.out 4).trans rfl
            have hcz63_5 : wr.cell? ⟨gb194, 5, none⟩ = some (.int .i64 x195005_1) := (blk_cell BK194.out 5).trans rfl
            have hcz63_6 : wr.cell? ⟨gb194, 6, none⟩ = some (.string x195006_1) := (blk_cell BK194.out 6).trans rfl
            have hcz63_7 : wr.cell? ⟨gb194, 7, none⟩ = some (.string x195007_1) := (blk_cell BK194.out 7).trans rfl
            have hcz63_8 : wr.cell? ⟨gb194, 8, none⟩ = some (.int .i64 x195008_1) := (blk_cell BK194.out 8).trans rfl
            have hcz63_9 : wr.cell? ⟨gb194, 9, none⟩ = some (.int .i64 x195009_1) := (blk_cell BK194.out 9).trans rfl
            have hfz63_0 := blk_frozen BK194.out 0
            have hfz63_1 := blk_frozen BK194.out 1
            have hfz63_2 := blk_frozen BK194.out 2
            have hfz63_3 := blk_frozen BK194.out 3
            have hfz63_4 := blk_frozen BK194.out 4
            have hfz63_5 := blk_frozen BK194.out 5
            have hfz63_6 := blk_frozen BK194.out 6
            have hfz63_7 := blk_frozen BK194.out 7
            have hfz63_8 := blk_frozen BK194.out 8
            have hfz63_9 := blk_frozen BK194.out 9
            have hcz64_0 : wr.cell? ⟨gb191, 0, none⟩ = some (.int .i64 a0_0) := (blk_cell BK191.out 0).trans rfl
            have hcz64_1 : wr.cell? ⟨gb191, 1, none⟩ = some (.string a0_1) := (blk_cell BK191.out 1).trans rfl
            have hcz64_2 : wr.cell? ⟨gb191, 2, none⟩ = some (.string a0_2) := (blk_cell BK191.out 2).trans rfl
            have hcz64_3 : wr.cell? ⟨gb191, 3, none⟩ = some (.slice A0_3 l0_3.length c0_3) := (blk_cell BK191.out 3).trans rfl
            have hcz64_4 : wr.cell? ⟨gb191, 4, none⟩ = some (.int .i64 a0_4) := (blk_cell BK191.out 4).trans rfl
            have hcz64_5 : wr.cell? ⟨gb191, 5, none⟩ = some (.int .i64 a0_5) := (blk_cell BK191.out 5).trans rfl
            have hcz64_6 : wr.cell? ⟨gb191, 6, none⟩ = some (.string a0_6) := (blk_cell BK191.out 6).trans rfl
            have hcz64_7 : wr.cell? ⟨gb191, 7, none⟩ = some (.string a0_7) := (blk_cell BK191.out 7).trans rfl
            have hcz64_8 : wr.cell? ⟨gb191, 8, none⟩ = some (.int .i64 a0_8) := (blk_cell BK191.out 8).trans rfl
            have hcz64_9 : wr.cell? ⟨gb191, 9, none⟩ = some (.int .i64 a0_9) := (blk_cell BK191.out 9).trans rfl
            have hfz64_0 := blk_frozen BK191.out 0
            have hfz64_1 := blk_frozen BK191.out 1
            have hfz64_2 := blk_frozen BK191.out 2
            have hfz64_3 := blk_frozen BK191.out 3
            have hfz64_4 := blk_frozen BK191.out 4
            have hfz64_5 := blk_frozen BK191.out 5
            have hfz64_6 := blk_frozen BK191.out 6
            have hfz64_7 := blk_frozen BK191.out 7
            have hfz64_8 := blk_frozen BK191.out 8
            have hfz64_9 := blk_frozen BK191.out 9
            obtain ⟨Ao65, co65, eo65⟩ := Kd.V_slice HO_195003.out
            subst eo65
            go_wp2_with (first | ((with_reducible refine gate_callee (f := 15) rfl ?_); refine goesL_ (some 133) rfl rfl Tryd.func15 (by kernel_rfl) rfl #[.agg #[.int .i64 a0_0, .string x195001_1, .string x195002_1, .slice Ao65 x195003_1.length co65, .int .i64 x195004_1, .int .i64 x195005_1, .string x195006_1, .string x195007_1, .int .i64 x195008_1, .int .i64 x195009_1], .agg #[.int .i64 a0_0, .string a0_1, .string a0_2, .slice A0_3 l0_3.length c0_3, .int .i64 a0_4, .int .i64 a0_5, .string a0_6, .string a0_7, .int .i64 a0_8, .int .i64 a0_9]] rfl (by (try simp only [List.map_toArray, List.map_cons, List.map_nil]); first | done | rfl | (simp only [List.length_drop, List.length_take]; rfl)) ?_; (with_reducible refine (strongboxref23_SameChoice.calls a0_0 x195001_1 x195002_1 _ _ x195003_1 x195004_1 x195005_1 x195006_1 x195007_1 x195008_1 x195009_1 a0_0 a0_1 a0_2 _ _ l0_3 a0_4 a0_5 a0_6 a0_7 a0_8 a0_9 true _ ?side1 ?side2 ?side3 ?side4 A60.out).mono ?_); (case side1 => repeat (first | exact (Kd.V_reads' HO_195003.out).2.2 | (with_reducible refine Kd.C_alloc ?_ _) | (with_reducible refine Kd.C_drewN ?_ _) | (with_reducible refine Kd.C_drew ?_))); (case side2 => exact (Kd.V_reads' HO_195003.out).2.1); (case side3 => repeat (first | exact (Kd.V_reads' HO_192003.out).2.2 | (with_reducible refine Kd.C_alloc ?_ _) | (with_reducible refine Kd.C_drewN ?_ _) | (with_reducible refine Kd.C_drew ?_))); (case side4 => exact (Kd.V_reads' HO_192003.out).2.1); rintro e w66 ⟨rfl, hb⟩; refine ⟨_, rfl, ?_⟩; have n0_ := Aside0.mk (Kd.V_below (by (with_reducible repeat (first | apply Kd.V_alloc | apply Kd.V_drewN | apply Kd.V_drew)); exact HO_192003.out) hb); have n1_ := Aside0.mk (Kd.V_below (by (with_reducible repeat (first | apply Kd.V_alloc | apply Kd.V_drewN | apply Kd.V_drew)); exact HO_195003.out) hb); have n2_ := Aside0.mk (blk_below (g := gb191) (o := .cells #[.int .i64 a0_0, .string a0_1, .string a0_2, .slice A0_3 l0_3.length c0_3, .int .i64 a0_4, .int .i64 a0_5, .string a0_6, .string a0_7, .int .i64 a0_8, .int .i64 a0_9] 39 (0, 0)) (by (with_reducible repeat (first | refine blk_drewN ?_ _ | refine blk_drew ?_ | refine blk_alloc ?_ _)); exact BK191.out) hb); have n3_ := Aside0.mk (blk_below (g := gb194) (o := .cells #[.int .i64 a0_0, .string x195001_1, .string x195002_1, .slice Ao65 x195003_1.length co65, .int .i64 x195004_1, .int .i64 x195005_1, .string x195006_1, .string x195007_1, .int .i64 x195008_1, .int .i64 x195009_1] 39 (0, 0)) (by (with_reducible repeat (first | refine blk_drewN ?_ _ | refine blk_drew ?_ | refine blk_alloc ?_ _)); exact BK194.out) hb); have n4_ := Aside0.mk (below_step (by repeat (first | (with_reducible first | exact HB.out | apply below_alloc | apply pw_below_drewN | apply below_drew1 | refine below_set ?_ GE191.out | refine below_set ?_ GE194.out) | exact HB.out)) hb); clear HO_192003; clear HO_195003; clear BK191; clear BK194; clear HB; have HO_192003 := n0_; have HO_195003 := n1_; have BK191 := n2_; have BK194 := n3_; have HB := n4_; clear n0_ n1_ n2_ n3_ n4_; (try clear hb); (try clear hb2); (try clear hk); (try clear hi)))
            go_ret2
            exact ⟨by first | rfl | (simp [errW_none, errW_some] <;> rfl) | (simp [*, errW_none, errW_some] <;> rfl), by repeat (first | (with_reducible first | exact HB.out | apply below_alloc | apply pw_below_drewN | apply below_drew1 | refine below_set ?_ GE191.out | refine below_set ?_ GE194.out) | exact HB.out)⟩
          · replace c61 := Bool.eq_false_iff.mpr c61
            subst c61
            have H1 : (some ((⟨#[]⟩ : ByteArray), false)) = some (r1, r2) := by rw [if_neg (show ¬ (false = true) by decide)] at H; exact H
            clear H
            have H := H1
            clear H1
            simp only [Option.some.injEq, Prod.mk.injEq] at H
            obtain ⟨rfl, rfl⟩ := H
            have hnb67 := NB194_191.out
            have hnc67 := NB191_194.out
            have hcz68_0 : wr.cell? ⟨gb194, 0, none⟩ = some (.int .i64 a0_0) := (blk_cell BK194.out 0).trans rfl
            have hcz68_1 : wr.cell? ⟨gb194, 1, none⟩ = some (.string x195001_1) := (blk_cell BK194.out 1).trans rfl
            have hcz68_2 : wr.cell? ⟨gb194, 2, none⟩ = some (.string x195002_1) := (blk_cell BK194.out 2).trans rfl
            have hcz68_3 : wr.cell? ⟨gb194, 3, none⟩ = some (u195003) := (blk_cell BK194.out 3).trans rfl
            have hcz68_4 : wr.cell? ⟨gb194, 4, none⟩ = some (.int .i64 x195004_1) := (blk_cell BK194.out 4).trans rfl
            have hcz68_5 : wr.cell? ⟨gb194, 5, none⟩ = some (.int .i64 x195005_1) := (blk_cell BK194.out 5).trans rfl
            have hcz68_6 : wr.cell? ⟨gb194, 6, none⟩ = some (.string x195006_1) := (blk_cell BK194.out 6).trans rfl
            have hcz68_7 : wr.cell? ⟨gb194, 7, none⟩ = some (.string x195007_1) := (blk_cell BK194.out 7).trans rfl
            have hcz68_8 : wr.cell? ⟨gb194, 8, none⟩ = some (.int .i64 x195008_1) := (blk_cell BK194.out 8).trans rfl
            have hcz68_9 : wr.cell? ⟨gb194, 9, none⟩ = some (.int .i64 x195009_1) := (blk_cell BK194.out 9).trans rfl
            have hfz68_0 := blk_frozen BK194.out 0
            have hfz68_1 := blk_frozen BK194.out 1
            have hfz68_2 := blk_frozen BK194.out 2
            have hfz68_3 := blk_frozen BK194.out 3
            have hfz68_4 := blk_frozen BK194.out 4
            have hfz68_5 := blk_frozen BK194.out 5
            have hfz68_6 := blk_frozen BK194.out 6
            have hfz68_7 := blk_frozen BK194.out 7
            have hfz68_8 := blk_frozen BK194.out 8
            have hfz68_9 := blk_frozen BK194.out 9
            have hcz69_0 : wr.cell? ⟨gb191, 0, none⟩ = some (.int .i64 a0_0) := (blk_cell BK191.out 0).trans rfl
            have hcz69_1 : wr.cell? ⟨gb191, 1, none⟩ = some (.string a0_1) := (blk_cell BK191.out 1).trans rfl
            have hcz69_2 : wr.cell? ⟨gb191, 2, none⟩ = some (.string a0_2) := (blk_cell BK191.out 2).trans rfl
            have hcz69_3 : wr.cell? ⟨gb191, 3, none⟩ = some (.slice A0_3 l0_3.length c0_3) := (blk_cell BK191.out 3).trans rfl
            have hcz69_4 : wr.cell? ⟨gb191, 4, none⟩ = some (.int .i64 a0_4) := (blk_cell BK191.out 4).trans rfl
            have hcz69_5 : wr.cell? ⟨gb191, 5, none⟩ = some (.int .i64 a0_5) := (blk_cell BK191.out 5).trans rfl
            have hcz69_6 : wr.cell? ⟨gb191, 6, none⟩ = some (.string a0_6) := (blk_cell BK191.out 6).trans rfl
            have hcz69_7 : wr.cell? ⟨gb191, 7, none⟩ = some (.string a0_7) := (blk_cell BK191.out 7).trans rfl
            have hcz69_8 : wr.cell? ⟨gb191, 8, none⟩ = some (.int .i64 a0_8) := (blk_cell BK191.out 8).trans rfl
            have hcz69_9 : wr.cell? ⟨gb191, 9, none⟩ = some (.int .i64 a0_9) := (blk_cell BK191.out 9).trans rfl
            have hfz69_0 := blk_frozen BK191.out 0
            have hfz69_1 := blk_frozen BK191.out 1
            have hfz69_2 := blk_frozen BK191.out 2
            have hfz69_3 := blk_frozen BK191.out 3
            have hfz69_4 := blk_frozen BK191.out 4
            have hfz69_5 := blk_frozen BK191.out 5
            have hfz69_6 := blk_frozen BK191.out 6
            have hfz69_7 := blk_frozen BK191.out 7
            have hfz69_8 := blk_frozen BK191.out 8
            have hfz69_9 := blk_frozen BK191.out 9
            obtain ⟨Ao70, co70, eo70⟩ := Kd.V_slice HO_195003.out
            subst eo70
            go_wp2_with (first | ((with_reducible refine gate_callee (f := 15) rfl ?_); refine goesL_ (some 133) rfl rfl Tryd.func15 (by kernel_rfl) rfl #[.agg #[.int .i64 a0_0, .string x195001_1, .string x195002_1, .slice Ao70 x195003_1.length co70, .int .i64 x195004_1, .int .i64 x195005_1, .string x195006_1, .string x195007_1, .int .i64 x195008_1, .int .i64 x195009_1], .agg #[.int .i64 a0_0, .string a0_1, .string a0_2, .slice A0_3 l0_3.length c0_3, .int .i64 a0_4, .int .i64 a0_5, .string a0_6, .string a0_7, .int .i64 a0_8, .int .i64 a0_9]] rfl (by (try simp only [List.map_toArray, List.map_cons, List.map_nil]); first | done | rfl | (simp only [List.length_drop, List.length_take]; rfl)) ?_; (with_reducible refine (strongboxref23_SameChoice.calls a0_0 x195001_1 x195002_1 _ _ x195003_1 x195004_1 x195005_1 x195006_1 x195007_1 x195008_1 x195009_1 a0_0 a0_1 a0_2 _ _ l0_3 a0_4 a0_5 a0_6 a0_7 a0_8 a0_9 false _ ?side1 ?side2 ?side3 ?side4 A60.out).mono ?_); (case side1 => repeat (first | exact (Kd.V_reads' HO_195003.out).2.2 | (with_reducible refine Kd.C_alloc ?_ _) | (with_reducible refine Kd.C_drewN ?_ _) | (with_reducible refine Kd.C_drew ?_))); (case side2 => exact (Kd.V_reads' HO_195003.out).2.1); (case side3 => repeat (first | exact (Kd.V_reads' HO_192003.out).2.2 | (with_reducible refine Kd.C_alloc ?_ _) | (with_reducible refine Kd.C_drewN ?_ _) | (with_reducible refine Kd.C_drew ?_))); (case side4 => exact (Kd.V_reads' HO_192003.out).2.1); rintro e w71 ⟨rfl, hb⟩; refine ⟨_, rfl, ?_⟩; have n0_ := Aside0.mk (Kd.V_below (by (with_reducible repeat (first | apply Kd.V_alloc | apply Kd.V_drewN | apply Kd.V_drew)); exact HO_192003.out) hb); have n1_ := Aside0.mk (Kd.V_below (by (with_reducible repeat (first | apply Kd.V_alloc | apply Kd.V_drewN | apply Kd.V_drew)); exact HO_195003.out) hb); have n2_ := Aside0.mk (blk_below (g := gb191) (o := .cells #[.int .i64 a0_0, .string a0_1, .string a0_2, .slice A0_3 l0_3.length c0_3, .int .i64 a0_4, .int .i64 a0_5, .string a0_6, .string a0_7, .int .i64 a0_8, .int .i64 a0_9] 39 (0, 0)) (by (with_reducible repeat (first | refine blk_drewN ?_ _ | refine blk_drew ?_ | refine blk_alloc ?_ _)); exact BK191.out) hb); have n3_ := Aside0.mk (blk_below (g := gb194) (o := .cells #[.int .i64 a0_0, .string x195001_1, .string x195002_1, .slice Ao70 x195003_1.length co70, .int .i64 x195004_1, .int .i64 x195005_1, .string x195006_1, .string x195007_1, .int .i64 x195008_1, .int .i64 x195009_1] 39 (0, 0)) (by (with_reducible repeat (first | refine blk_drewN ?_ _ | refine blk_drew ?_ | refine blk_alloc ?_ _)); exact BK194.out) hb); have n4_ := Aside0.mk (below_step (by repeat (first | (with_reducible first | exact HB.out | apply below_alloc | apply pw_below_drewN | apply below_drew1 | refine below_set ?_ GE191.out | refine below_set ?_ GE194.out) | exact HB.out)) hb); clear HO_192003; clear HO_195003; clear BK191; clear BK194; clear HB; have HO_192003 := n0_; have HO_195003 := n1_; have BK191 := n2_; have BK194 := n3_; have HB := n4_; clear n0_ n1_ n2_ n3_ n4_; (try clear hb); (try clear hb2); (try clear hk); (try clear hi)))
            go_ret2
            exact ⟨by first | rfl | (simp [errW_none, errW_some] <;> rfl) | (simp [*, errW_none, errW_some] <;> rfl), by repeat (first | (with_reducible first | exact HB.out | apply below_alloc | apply pw_below_drewN | apply below_drew1 | refine below_set ?_ GE191.out | refine below_set ?_ GE194.out) | exact HB.out)⟩

end Go.Proofs.YtghllfihmmlcnaaDoor.PScriptPrints
