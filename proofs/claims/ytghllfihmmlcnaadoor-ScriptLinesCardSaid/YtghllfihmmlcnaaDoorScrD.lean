/- What the document's number computes: an int as it is written. -/
import Derived.Test.YtghllfihmmlcnaaDoorScrMA
import Derived.Test.YtghllfihmmlcnaaDoorScrU5
namespace Go.Proofs.YtghllfihmmlcnaaDoor
open Nam Go.RowKit PScriptPrints YtghllfihmmlcnaaDoorW.PrintWords Lib

theorem digit_at (d : Nat) (h : d < 10) : (⟨#[48, 49, 50, 51, 52, 53, 54, 55, 56, 57]⟩ : ByteArray).extract d (d + 1) = mkS [UInt8.ofNat (48 + d)] := by
  have key : ∀ d : Fin 10, (⟨#[48, 49, 50, 51, 52, 53, 54, 55, 56, 57]⟩ : ByteArray).extract d.val (d.val + 1) = mkS [UInt8.ofNat (48 + d.val)] := by decide
  exact key ⟨d, h⟩

theorem nb_l0 (a0 : Int) : ∀ (j k u : Nat) (acc : List UInt8), u < 10 ^ (j + 1) → j < k → acc.length + j < 1000 → u < 18446744073709551616 →
    strongboxref23_number.l0 k a0 u (mkS acc) = some (mkS ((if a0 < 0 then [45] else []) ++ (decDigits u ++ acc))) := by
  intro j
  induction j with
  | zero =>
    intro k u acc hu hk ha hb
    obtain ⟨k, rfl⟩ : ∃ m, k = m + 1 := ⟨k - 1, by omega⟩
    have e1 : Int.tmod (u : Int) 10 = ((u % 10 : Nat) : Int) := by rw [Int.tmod_eq_emod_of_nonneg (by omega)]; omega
    have e2 : Int.tdiv (u : Int) 10 = ((u / 10 : Nat) : Int) := by rw [Int.tdiv_eq_ediv_of_nonneg (by omega)]; omega
    have e3 : IntKind.u64.wrap (((u % 10 : Nat) : Int) + 1) = ((u % 10 + 1 : Nat) : Int) := by
      show (((u % 10 : Nat) : Int) + 1) % 18446744073709551616 = _
      omega
    have e4 : IntKind.u64.wrap ((u / 10 : Nat) : Int) = ((u / 10 : Nat) : Int) := by
      show ((u / 10 : Nat) : Int) % 18446744073709551616 = _
      omega
    simp only [strongboxref23_number.l0, e1, e2, e3, e4, Int.toNat_natCast]
    rw [digit_at (u % 10) (Nat.mod_lt _ (by omega)), mkS_app, if_pos (by omega), if_pos (by omega), if_pos (by omega)]
    have hl : acc.length < 1000 := by omega
    have z1 : (mkS [UInt8.ofNat (48 + u % 10)]).size = 1 := rfl
    have z2 : (mkS acc).size = acc.length := by simp [mkS, ByteArray.size]
    have z3 : (mkS ([UInt8.ofNat (48 + u % 10)] ++ acc)).size = acc.length + 1 := by simp [mkS, ByteArray.size]
    have hu10 : u < 10 := by simpa using hu
    rw [z1, z2, z3, if_pos (by omega), if_pos (by omega), decDigits_one hu10, Nat.mod_eq_of_lt hu10]
    by_cases h : a0 < 0
    · rw [if_pos h, if_pos h, if_pos (by omega)]
      exact congrArg some (mkS_app [45] _)
    · rw [if_neg h, if_neg h]; rfl
  | succ j ih =>
    intro k u acc hu hk ha hb
    obtain ⟨k, rfl⟩ : ∃ m, k = m + 1 := ⟨k - 1, by omega⟩
    by_cases hu10 : u < 10
    · exact (strongboxref23_number.l0.congr_simp _ _ rfl _ _ rfl _ _ rfl _ _ rfl).trans (by
        have e1 : Int.tmod (u : Int) 10 = ((u % 10 : Nat) : Int) := by rw [Int.tmod_eq_emod_of_nonneg (by omega)]; omega
        have e2 : Int.tdiv (u : Int) 10 = ((u / 10 : Nat) : Int) := by rw [Int.tdiv_eq_ediv_of_nonneg (by omega)]; omega
        have e3 : IntKind.u64.wrap (((u % 10 : Nat) : Int) + 1) = ((u % 10 + 1 : Nat) : Int) := by
          show (((u % 10 : Nat) : Int) + 1) % 18446744073709551616 = _
          omega
        have e4 : IntKind.u64.wrap ((u / 10 : Nat) : Int) = ((u / 10 : Nat) : Int) := by
          show ((u / 10 : Nat) : Int) % 18446744073709551616 = _
          omega
        simp only [strongboxref23_number.l0, e1, e2, e3, e4, Int.toNat_natCast]
        rw [digit_at (u % 10) (Nat.mod_lt _ (by omega)), mkS_app, if_pos (by omega), if_pos (by omega), if_pos (by omega)]
        have z1 : (mkS [UInt8.ofNat (48 + u % 10)]).size = 1 := rfl
        have z2 : (mkS acc).size = acc.length := by simp [mkS, ByteArray.size]
        have z3 : (mkS ([UInt8.ofNat (48 + u % 10)] ++ acc)).size = acc.length + 1 := by simp [mkS, ByteArray.size]
        rw [z1, z2, z3, if_pos (by omega), if_pos (by omega), decDigits_one hu10, Nat.mod_eq_of_lt hu10]
        by_cases h : a0 < 0
        · rw [if_pos h, if_pos h, if_pos (by omega)]
          exact congrArg some (mkS_app [45] _)
        · rw [if_neg h, if_neg h]; rfl)
    · have e1 : Int.tmod (u : Int) 10 = ((u % 10 : Nat) : Int) := by rw [Int.tmod_eq_emod_of_nonneg (by omega)]; omega
      have e2 : Int.tdiv (u : Int) 10 = ((u / 10 : Nat) : Int) := by rw [Int.tdiv_eq_ediv_of_nonneg (by omega)]; omega
      have e3 : IntKind.u64.wrap (((u % 10 : Nat) : Int) + 1) = ((u % 10 + 1 : Nat) : Int) := by
        show (((u % 10 : Nat) : Int) + 1) % 18446744073709551616 = _
        omega
      have e4 : IntKind.u64.wrap ((u / 10 : Nat) : Int) = ((u / 10 : Nat) : Int) := by
        show ((u / 10 : Nat) : Int) % 18446744073709551616 = _
        omega
      simp only [strongboxref23_number.l0, e1, e2, e3, e4, Int.toNat_natCast]
      rw [digit_at (u % 10) (Nat.mod_lt _ (by omega)), mkS_app, if_pos (by omega), if_pos (by omega), if_pos (by omega)]
      have z1 : (mkS [UInt8.ofNat (48 + u % 10)]).size = 1 := rfl
      have z2 : (mkS acc).size = acc.length := by simp [mkS, ByteArray.size]
      rw [z1, z2, if_pos (by omega), if_neg (by omega), ih k (u / 10) _ (by rw [Nat.pow_succ] at hu; omega) (by omega) (by simp; omega) (by omega), decDigits_big hu10]
      simp

theorem number_is (n : Int) (h0 : -9223372036854775808 ≤ n) (h1 : n ≤ 9223372036854775807) (k : Nat) (hk : 30 < k) : strongboxref23_number.f k n = some (mkS (itoa n)) := by
  obtain ⟨k, rfl⟩ : ∃ m, k = m + 1 := ⟨k - 1, by omega⟩
  unfold strongboxref23_number.f
  by_cases h : n < 0
  · obtain ⟨u, rfl⟩ : ∃ u : Nat, n = -(u : Int) := ⟨n.natAbs, by omega⟩
    have e : IntKind.u64.wrap (-(IntKind.u64.wrap (-(u : Int)))) = (u : Int) := by
      show (-((-(u : Int)) % 18446744073709551616)) % 18446744073709551616 = _
      omega
    rw [if_pos h, e]
    simp only [strongboxref23_number.j0]
    refine (nb_l0 _ 19 k u [] (by omega) (by omega) (by simp) (by omega)).trans ?_
    rw [if_pos h, itoa_neg u (by omega)]
    simp
  · obtain ⟨u, rfl⟩ : ∃ u : Nat, n = (u : Int) := ⟨n.toNat, by omega⟩
    have e : IntKind.u64.wrap (u : Int) = (u : Int) := by
      show (u : Int) % 18446744073709551616 = _
      omega
    rw [if_neg h, e]
    simp only [strongboxref23_number.j0]
    refine (nb_l0 _ 19 k u [] (by omega) (by omega) (by simp) (by omega)).trans ?_
    rw [if_neg h, itoa_nonneg]
    simp
end Go.Proofs.YtghllfihmmlcnaaDoor
