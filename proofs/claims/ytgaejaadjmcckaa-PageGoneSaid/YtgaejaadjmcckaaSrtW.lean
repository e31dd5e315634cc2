/- The library's stable sort over rows of k cells: what is asked of a program, and the exchange of two rows. -/
import Derived.Test.YtgaejaadjmcckaaRows
import Derived.Test.YtgaejaadjmcckaaNum
import Derived.Test.YtgaejaadjmcckaaSrtP
import Derived.Shelf.SlSortCmp.KitK
import Derived.WalkKit
import Derived.ProofKit
import Derived.OpenShut
import Derived.Lib.Hide
import Derived.Handy
namespace Go.Proofs.Ytgaejaadjmcckaa
open Go.Shelf Go.RowKit Go.Lib Go.Sort Srt

/-- The stable sort's four functions in a program, and their types; elements of k cells. -/
structure Stb (P : Program) (k : Nat) : Prop where
  mixed : P.follows .mixedOrders = true
  fS : P.funcs[43]? = some Try.f43
  fR : P.funcs[41]? = some Try.f41
  fM : P.funcs[39]? = some Try.f39
  fT : P.funcs[34]? = some Try.f34
  t0 : P.underlying 0 = some (.tuple #[])
  a0 : ∀ w, (isAgg 0).run P w = .ok false w
  z0 : ∀ w, (Go.sizeOf 0).run P w = .ok 1 w
  v0 : ∀ w, (zeroValue 0).run P w = .ok (.tuple #[]) w
  t3 : P.underlying 3 = some (.int .i64)
  a3 : ∀ w, (isAgg 3).run P w = .ok false w
  z3 : ∀ w, (Go.sizeOf 3).run P w = .ok 1 w
  v3 : ∀ w, (zeroValue 3).run P w = .ok (.int .i64 0) w
  t4 : P.underlying 4 = some (.bool)
  a4 : ∀ w, (isAgg 4).run P w = .ok false w
  z4 : ∀ w, (Go.sizeOf 4).run P w = .ok 1 w
  v4 : ∀ w, (zeroValue 4).run P w = .ok (.bool false) w
  t41 : P.underlying 22 = some (.slice 32)
  a41 : ∀ w, (isAgg 22).run P w = .ok false w
  z41 : ∀ w, (Go.sizeOf 22).run P w = .ok 1 w
  v41 : ∀ w, (zeroValue 22).run P w = .ok (.slice none 0 0) w
  t75 : P.underlying 58 = some (.func #[32, 32] #[3] false)
  a75 : ∀ w, (isAgg 58).run P w = .ok false w
  z75 : ∀ w, (Go.sizeOf 58).run P w = .ok 1 w
  v75 : ∀ w, (zeroValue 58).run P w = .ok (.nilFunc) w
  t68 : P.underlying 67 = some (.int .u64)
  a68 : ∀ w, (isAgg 67).run P w = .ok false w
  z68 : ∀ w, (Go.sizeOf 67).run P w = .ok 1 w
  v68 : ∀ w, (zeroValue 67).run P w = .ok (.int .u64 0) w
  aE : ∀ w, (isAgg 32).run P w = .ok true w
  zE : ∀ w, (Go.sizeOf 32).run P w = .ok k w

theorem stb : Stb Try.prog 6 where
  mixed := by kernel_rfl
  fS := Try.func43
  fR := Try.func41
  fM := Try.func39
  fT := Try.func34
  t0 := Try.underlying0
  a0 := Try.isAgg0
  z0 := Try.sizeOf0
  v0 := Try.zeroValue0
  t3 := Try.underlying3
  a3 := Try.isAgg3
  z3 := Try.sizeOf3
  v3 := Try.zeroValue3
  t4 := Try.underlying4
  a4 := Try.isAgg4
  z4 := Try.sizeOf4
  v4 := Try.zeroValue4
  t41 := Try.underlying22
  a41 := Try.isAgg22
  z41 := Try.sizeOf22
  v41 := Try.zeroValue22
  t75 := Try.underlying58
  a75 := Try.isAgg58
  z75 := Try.sizeOf58
  v75 := Try.zeroValue58
  t68 := Try.underlying67
  a68 := Try.isAgg67
  z68 := Try.sizeOf67
  v68 := Try.zeroValue67
  aE := Try.isAgg32
  zE := Try.sizeOf32

section
variable {P : Program} {k : Nat} {α : Type} [Inhabited α] {enc : α → List Value} {w0 W : World} {blk off : Nat} {d0 dk : Array α}

set_option maxHeartbeats 4000000 in
set_option maxRecDepth 100000 in
theorem swapRange_is (L : Stb P k) (R : RowK enc k w0 blk off d0) (h : SWK enc k w0 blk off dk W) (hs : dk.size = d0.size) (hsz : d0.size < 4611686018427387904) (cap a b n : Nat) (g : Nat) (cb : Array Value) (han : a + n ≤ d0.size) (hbn : b + n ≤ d0.size) (hd : a + n ≤ b ∨ b + n ≤ a) :
    Calls P 43 #[.slice (some ⟨blk, off, none⟩) d0.size cap, .int .i64 a, .int .i64 b, .int .i64 n, .func (.func g) #[] cb] W fun e w' => e = .returned (.tuple #[]) ∧
      ∃ d' : Array α, SWK enc k w0 blk off d' w' ∧ d'.size = d0.size ∧ (∀ i, i < d0.size → d'[i]! = swapF a b n (fun j => dk[j]!) i) ∧ ∀ lo hi, lo ≤ a → lo ≤ b → a + n ≤ hi → b + n ≤ hi → hi ≤ d0.size → PermIn lo hi dk d' := by
  have mixed := L.mixed; have t0 := L.t0; have a0 := L.a0; have z0 := L.z0; have v0 := L.v0; have t3 := L.t3; have a3 := L.a3; have z3 := L.z3; have v3 := L.v3; have t4 := L.t4; have a4 := L.a4; have z4 := L.z4; have v4 := L.v4; have t41 := L.t41; have a41 := L.a41; have z41 := L.z41; have v41 := L.v41; have t75 := L.t75; have a75 := L.a75; have z75 := L.z75; have v75 := L.v75; have t68 := L.t68; have a68 := L.a68; have z68 := L.z68; have v68 := L.v68; have aE := L.aE; have zE := L.zE; have u41 := run_underlying L.t41
  have HR := Lib.hid R; clear R
  have HS0 := Lib.hid h; clear h
  go_enter L.fS, Try.ntmps43
  go_wp2_with fail
  go_loopw [10] (fun v wr => ∃ (i : Nat) (d : Array α), v = .int .i64 i ∧ i ≤ n ∧ Hid (SWK enc k w0 blk off d wr) ∧ d.size = d0.size ∧ Hid (∀ j, j < d0.size → d[j]! = swapF a b i (fun j => dk[j]!) j) ∧ Hid (∀ lo hi, lo ≤ a → lo ≤ b → a + n ≤ hi → b + n ≤ hi → hi ≤ d0.size → PermIn lo hi dk d)) (fun v _ => n - (intOf v).toNat)
  case atStart => exact ⟨0, dk, rfl, Nat.zero_le _, HS0, hs, fun j _ => (swapF_zero _ _ _ _).symm, fun lo hi _ _ _ _ _ => permIn_refl _ _ _⟩
  case round =>
    rename_i wr
    obtain ⟨i, d, rfl, hi, HS, hds, HF, HP⟩ := hrel
    by_cases hp : i < n
    · have hpz : (i : Int) < (n : Int) := by omega
      have hds2 : d.size = dk.size := by omega
      have sa := swp_get d (i := a + i) (j := b + i) (by omega) (by omega)
      have sp : ∀ lo hi, lo ≤ a → lo ≤ b → a + n ≤ hi → b + n ≤ hi → hi ≤ d0.size → PermIn lo hi d (swp d (a + i) (b + i)) := fun lo hi h1 h2 h3 h4 h5 => swp_permIn d lo hi (a + i) (b + i) (by omega) (by omega) (by omega) (by omega) (by omega)
      have HF2 : Hid (∀ j, j < d0.size → (swp d (a + i) (b + i))[j]! = swapF a b (i + 1) (fun j => dk[j]!) j) := by
        intro j hj
        rw [sa j, HF.out _ (by omega), HF.out _ (by omega), HF.out _ (by omega), ← swapF_step a b i _ (by omega) j]
        by_cases e1 : j = b + i
        · by_cases e2 : j = a + i
          · exfalso; omega
          · rw [if_pos e1, if_neg e2, if_pos e1]
        · rw [if_neg e1]
          by_cases e2 : j = a + i
          · rw [if_pos e2, if_pos e2]
          · rw [if_neg e2, if_neg e2, if_neg e1]
      have HP2 : Hid (∀ lo hi, lo ≤ a → lo ≤ b → a + n ≤ hi → b + n ≤ hi → hi ≤ d0.size → PermIn lo hi dk (swp d (a + i) (b + i))) := fun lo hi h1 h2 h3 h4 h5 => permIn_trans _ _ _ _ _ (HP.out lo hi h1 h2 h3 h4 h5) (sp lo hi h1 h2 h3 h4 h5)
      clear sa sp
      obtain ⟨xa, hxa⟩ : ∃ x, d[a + i]! = x := ⟨_, rfl⟩
      obtain ⟨xb, hxb⟩ : ∃ x, d[b + i]! = x := ⟨_, rfl⟩
      have la := HS.out.ld1 HR.out hds P (a + i) (by omega)
      have lb := HS.out.ld1 HR.out hds P (b + i) (by omega)
      have s1 := HS.out.st1 HR.out hds P (a + i) (by omega) (d[b + i]!)
      have s2 := HS.out.st2 HR.out hds P (a + i) (b + i) (by omega) (by omega) (d[b + i]!) (d[a + i]!)
      have sw := HS.out.swapped HR.out (a + i) (b + i) (by omega) (by omega)
      have kA : (enc (d[a + i]!)).length = k := HR.out.hk _
      have kB : (enc (d[b + i]!)).length = k := HR.out.hk _
      rw [hxa] at la s2 sw kA
      rw [hxb] at lb s1 s2 sw kB
      clear hxa hxb
      obtain ⟨cA, hcA⟩ : ∃ c, enc xa = c := ⟨_, rfl⟩
      obtain ⟨cB, hcB⟩ : ∃ c, enc xb = c := ⟨_, rfl⟩
      rw [hcA] at la s2 sw kA
      rw [hcB] at lb s1 s2 sw kB
      clear hcA hcB
      have SW := Lib.hid sw; clear sw
      have e1 : IntKind.i64.wrap ((a : Int) + (i : Int)) = (a : Int) + (i : Int) := IntWalk.i64_in _ (by omega)
      have e2 : IntKind.i64.wrap ((b : Int) + (i : Int)) = (b : Int) + (i : Int) := IntWalk.i64_in _ (by omega)
      have p1 : (0 : Int) ≤ (a : Int) + (i : Int) := by omega
      have p2 : (0 : Int) ≤ (b : Int) + (i : Int) := by omega
      have q1 : ((a : Int) + (i : Int)).toNat = a + i := by omega
      have q2 : ((b : Int) + (i : Int)).toNat = b + i := by omega
      have r1 : (a : Int) + (i : Int) < (d0.size : Int) := by omega
      have r2 : (b : Int) + (i : Int) < (d0.size : Int) := by omega
      go_wp2_with fail
      go_big_region_o
      all_goals go_wp2
      go_roundw
      case rel => exact ⟨i + 1, _, by go_num, by omega, SW, by rw [swp_size]; exact hds, HF2, HP2⟩
      case measure => simp [intOf]; omega
    · have hpz : (n : Int) ≤ (i : Int) := by omega
      have hin : i = n := by omega
      subst hin
      go_wp2
      go_end0
      exact ⟨rfl, d, HS.out, hds, HF.out, HP.out⟩
end
end Go.Proofs.Ytgaejaadjmcckaa
