/- The library's stable sort over rows of k cells: rotation by exchanges. -/
import Derived.Test.YtgaejaadjmcckaaSrtW
namespace Go.Proofs.Ytgaejaadjmcckaa
open Go.Shelf Go.RowKit Go.Lib Go.Sort Srt

section
variable {P : Program} {k : Nat} {α : Type} [Inhabited α] {enc : α → List Value} {w0 W : World} {blk off : Nat} {d0 dk : Array α}

theorem get_far (d d' : Array α) (h : d'.size = d.size) (i : Nat) (hi : d.size ≤ i) : d'[i]! = d[i]! := by
  rw [getElem!_neg d' i (by omega), getElem!_neg d i (by omega)]

theorem swapF_all {d d' : Array α} {a b n : Nat} (h : d'.size = d.size) (ha : a + n ≤ d.size) (hb : b + n ≤ d.size) (hf : ∀ i, i < d.size → d'[i]! = swapF a b n (fun j => d[j]!) i) : ∀ i, d'[i]! = swapF a b n (fun j => d[j]!) i := by
  intro i
  by_cases hi : i < d.size
  · exact hf i hi
  · rw [get_far d d' h i (by omega)]
    unfold swapF
    rw [if_neg (by omega), if_neg (by omega)]

set_option maxHeartbeats 4000000 in
set_option maxRecDepth 100000 in
theorem rotate_is (L : Stb P k) (R : RowK enc k w0 blk off d0) (h : SWK enc k w0 blk off dk W) (hs : dk.size = d0.size) (hsz : d0.size < 4611686018427387904) (cap a m b : Nat) (g : Nat) (cb : Array Value) (ham : a < m) (hmb : m < b) (hb : b ≤ d0.size) :
    Calls P 41 #[.slice (some ⟨blk, off, none⟩) d0.size cap, .int .i64 a, .int .i64 m, .int .i64 b, .func (.func g) #[] cb] W fun e w' => e = .returned (.tuple #[]) ∧
      ∃ d' : Array α, SWK enc k w0 blk off d' w' ∧ d'.size = d0.size ∧ (∀ i, d'[i]! = rotF a m b (fun j => dk[j]!) i) ∧ PermIn a b dk d' := by
  have mixed := L.mixed; have t0 := L.t0; have a0 := L.a0; have z0 := L.z0; have v0 := L.v0; have t3 := L.t3; have a3 := L.a3; have z3 := L.z3; have v3 := L.v3; have t4 := L.t4; have a4 := L.a4; have z4 := L.z4; have v4 := L.v4; have t41 := L.t41; have a41 := L.a41; have z41 := L.z41; have v41 := L.v41; have t75 := L.t75; have a75 := L.a75; have z75 := L.z75; have v75 := L.v75; have t68 := L.t68; have a68 := L.a68; have z68 := L.z68; have v68 := L.v68; have aE := L.aE; have zE := L.zE; have u41 := run_underlying L.t41
  have eS : ∀ args w, (callFunc 43 args).run P w = .ok (.enter 43 args) w := enters_of L.fS (by kernel_rfl) rfl
  have HL := Lib.hid L
  have HR := Lib.hid R; clear R
  have HS0 := Lib.hid h; clear h
  go_enter L.fR, Try.ntmps41
  clear L
  have e1 : IntKind.i64.wrap ((m : Int) - (a : Int)) = ((m - a : Nat) : Int) := by rw [IntWalk.i64_in _ (by omega)]; omega
  have e2 : IntKind.i64.wrap ((b : Int) - (m : Int)) = ((b - m : Nat) : Int) := by rw [IntWalk.i64_in _ (by omega)]; omega
  go_wp2_with fail
  clear e1 e2
  go_loopw [10, 11] (fun v1 v2 wr => ∃ (i j : Nat) (d : Array α), v1 = .int .i64 i ∧ v2 = .int .i64 j ∧ 0 < i ∧ i ≤ m - a ∧ 0 < j ∧ j ≤ b - m ∧ Hid (SWK enc k w0 blk off d wr) ∧ d.size = d0.size ∧
      Hid (∀ x, rotF (m - i) m (m + j) (fun y => d[y]!) x = rotF a m b (fun y => dk[y]!) x) ∧ Hid (PermIn a b dk d)) (fun v1 v2 _ => (intOf v1).toNat + (intOf v2).toNat)
  case atStart => exact ⟨m - a, b - m, dk, rfl, rfl, by omega, Nat.le_refl _, by omega, Nat.le_refl _, HS0, hs, fun x => by rw [show m - (m - a) = a by omega, show m + (b - m) = b by omega], permIn_refl _ _ _⟩
  case round =>
    rename_i wr
    obtain ⟨i, j, d, rfl, rfl, hi0, hi, hj0, hj, HS, hds, HF, HP⟩ := hrel
    by_cases hij : i = j
    · have hbb : ((i : Int) == (j : Int)) = true := by rw [beq_iff_eq]; omega
      have c := swapRange_is HL.out HR.out HS.out hds hsz cap (m - i) m i g cb (by omega) (by omega) (by omega)
      have z1 : ((m - i : Nat) : Int) = (m : Int) - (i : Int) := by omega
      rw [z1] at c; clear z1
      have C := Lib.hid c; clear c
      have w1 : IntKind.i64.wrap ((m : Int) - (i : Int)) = (m : Int) - (i : Int) := IntWalk.i64_in _ (by omega)
      have HIJ := Lib.hid hij; clear hij
      go_wp2_with (go_at_fn 43; refine C.out.mono ?_; rintro e w' ⟨rfl, d1, hS1, hz1, hf1, hp1⟩)
      have hij := HIJ.out
      have hall := swapF_all (d := d) (d' := d1) (a := m - i) (b := m) (n := i) (by omega) (by omega) (by omega) (fun x hx => hf1 x (by omega))
      have hpp := hp1 a b (by omega) (by omega) (by omega) (by omega) hb
      have hrr : ∀ x, d1[x]! = rotF a m b (fun y => dk[y]!) x := fun x => by
        rw [← HF.out x, ← HIJ.out, rot_even m i (by omega), hall x]
      have Hrr := Lib.hid hrr; clear hrr
      clear hf1 hp1 hall
      go_end0
      exact ⟨rfl, d1, hS1, hz1, Hrr.out, permIn_trans _ _ _ _ _ HP.out hpp⟩
    · have hbb : ((i : Int) == (j : Int)) = false := by rw [beq_eq_false_iff_ne]; omega
      by_cases hlt : j < i
      · have hltz : (j : Int) < (i : Int) := by omega
        have c := swapRange_is HL.out HR.out HS.out hds hsz cap (m - i) m j g cb (by omega) (by omega) (by omega)
        have z1 : ((m - i : Nat) : Int) = (m : Int) - (i : Int) := by omega
        rw [z1] at c; clear z1
        have C := Lib.hid c; clear c
        have w1 : IntKind.i64.wrap ((m : Int) - (i : Int)) = (m : Int) - (i : Int) := IntWalk.i64_in _ (by omega)
        have w2 : IntKind.i64.wrap ((i : Int) - (j : Int)) = ((i - j : Nat) : Int) := by rw [IntWalk.i64_in _ (by omega)]; omega
        go_wp2_with (go_at_fn 43; refine C.out.mono ?_; rintro e w' ⟨rfl, d1, hS1, hz1, hf1, hp1⟩)
        have hall := swapF_all (d := d) (d' := d1) (a := m - i) (b := m) (n := j) (by omega) (by omega) (by omega) (fun x hx => hf1 x (by omega))
        have hpp := permIn_trans _ _ _ _ _ HP.out (hp1 a b (by omega) (by omega) (by omega) (by omega) hb)
        have hrr : ∀ x, rotF (m - (i - j)) m (m + j) (fun y => d1[y]!) x = rotF a m b (fun y => dk[y]!) x := fun x => by
          rw [← HF.out x, rot_left m i j hj0 hlt (by omega)]
          congr 1
          funext y
          exact hall y
        have Hrr := Lib.hid hrr; clear hrr
        clear hf1 hp1 hall
        go_roundw
        case rel => exact ⟨i - j, j, d1, rfl, rfl, by omega, by omega, hj0, hj, hS1, hz1, Hrr, hpp⟩
        case measure => simp [intOf]; omega
      · have hltz : (i : Int) < (j : Int) := by omega
        have c := swapRange_is HL.out HR.out HS.out hds hsz cap (m - i) (m + j - i) i g cb (by omega) (by omega) (by omega)
        have z1 : ((m - i : Nat) : Int) = (m : Int) - (i : Int) := by omega
        have z2 : ((m + j - i : Nat) : Int) = (m : Int) + (j : Int) - (i : Int) := by omega
        rw [z1, z2] at c; clear z1 z2
        have C := Lib.hid c; clear c
        have w1 : IntKind.i64.wrap ((m : Int) - (i : Int)) = (m : Int) - (i : Int) := IntWalk.i64_in _ (by omega)
        have w3 : IntKind.i64.wrap ((m : Int) + (j : Int)) = (m : Int) + (j : Int) := IntWalk.i64_in _ (by omega)
        have w4 : IntKind.i64.wrap ((m : Int) + (j : Int) - (i : Int)) = (m : Int) + (j : Int) - (i : Int) := IntWalk.i64_in _ (by omega)
        have w2 : IntKind.i64.wrap ((j : Int) - (i : Int)) = ((j - i : Nat) : Int) := by rw [IntWalk.i64_in _ (by omega)]; omega
        go_wp2_with (go_at_fn 43; refine C.out.mono ?_; rintro e w' ⟨rfl, d1, hS1, hz1, hf1, hp1⟩)
        have hall := swapF_all (d := d) (d' := d1) (a := m - i) (b := m + j - i) (n := i) (by omega) (by omega) (by omega) (fun x hx => hf1 x (by omega))
        have hpp := permIn_trans _ _ _ _ _ HP.out (hp1 a b (by omega) (by omega) (by omega) (by omega) hb)
        have hrr : ∀ x, rotF (m - i) m (m + (j - i)) (fun y => d1[y]!) x = rotF a m b (fun y => dk[y]!) x := fun x => by
          rw [← HF.out x, rot_right m i j hi0 (by omega) (by omega)]
          congr 1
          funext y
          exact hall y
        have Hrr := Lib.hid hrr; clear hrr
        clear hf1 hp1 hall
        go_roundw
        case rel => exact ⟨i, j - i, d1, rfl, rfl, hi0, hi, by omega, by omega, hS1, hz1, Hrr, hpp⟩
        case measure => simp [intOf]; omega
end
end Go.Proofs.Ytgaejaadjmcckaa
