/- The sum of bytes (package crc). -/
import Derived.Test.YtjbjcfnbgcloiaaGreatDoorMoB
import Derived.Laws.BitsLemmas
namespace Go.Proofs.YtjbjcfnbgcloiaaGreatDoor
open Go.RowKit Nam YtjbjcfnbgcloiaaGreatDoorW.PrintWords

def bitC (s : Int) : Int := if (bits .and .u32 s 1 == 1) = true then bits .xor .u32 (s / 2) 2197175160 else s / 2
def bitsC : Nat → Int → Int
  | 0, s => s
  | j + 1, s => bitsC j (bitC s)
def byteC (s x : Int) : Int := bitsC 8 (bits .xor .u32 s x)
def crcC (s : Int) (l : List Int) : Int := bits .xor .u32 IntKind.u32.max (l.foldl byteC (bits .xor .u32 IntKind.u32.max s))
/-- The sum of bytes. -/
def sumC (l : List UInt8) : Int := crcC 0 (byN l)
theorem xorR (a b : Int) : 0 ≤ bits .xor .u32 a b ∧ bits .xor .u32 a b < 4294967296 := by
  unfold bits
  simp only [IntKind.wrap_u32]
  omega
theorem bitR (s : Int) (h : 0 ≤ s ∧ s < 4294967296) : 0 ≤ bitC s ∧ bitC s < 4294967296 := by
  unfold bitC
  split
  · exact xorR _ _
  · omega
theorem bitsR : ∀ (j : Nat) (s : Int), 0 ≤ s ∧ s < 4294967296 → 0 ≤ bitsC j s ∧ bitsC j s < 4294967296
  | 0, s, h => h
  | j + 1, s, h => bitsR j _ (bitR s h)
theorem sumR (l : List UInt8) : 0 ≤ sumC l ∧ sumC l < 4294967296 := xorR _ _
theorem byN_range (l : List UInt8) (k : Int) (h0 : 0 ≤ k) (h1 : k < l.length) : 0 ≤ rd (byN l) k ∧ rd (byN l) k ≤ 255 := by
  obtain ⟨i, rfl⟩ := Int.eq_ofNat_of_zero_le h0
  have hi : i < (byN l).length := by rw [byN_length]; omega
  unfold rd
  rw [Int.toNat_natCast, List.getD_eq_getElem?_getD, List.getElem?_eq_getElem hi, Option.getD_some]
  have : (byN l)[i] ∈ byN l := List.getElem_mem _
  obtain ⟨c, _, hc⟩ := List.mem_map.1 (show (byN l)[i] ∈ (mkS l).data.toList.map _ from this)
  rw [← hc]
  have := c.toNat_lt
  omega

set_option maxHeartbeats 1000000 in
set_option maxRecDepth 100000 in
theorem more_crc (l : List UInt8) (A : Option Addr) (c : Nat) (s0 : Int) (w : World) (hl : l.length ≤ 1000000) (hC : (Kd.int .u8).C w A l.length (byN l)) :
    Calls Tryz.prog 79 #[.int .u32 s0, .slice A l.length c] w fun e w' => e = .returned (.int .u32 (crcC s0 (byN l))) ∧ w = w' := by
  have HC := Lib.hid hC; clear hC
  obtain ⟨n, hn⟩ : ∃ n, l.length = n := ⟨_, rfl⟩
  have HN := Lib.hid hn
  rw [hn] at hl HC ⊢
  clear hn
  obtain ⟨R, hR⟩ : ∃ R, (byN l).foldl byteC (bits .xor .u32 IntKind.u32.max s0) = R := ⟨_, rfl⟩
  have hfin : Hid (crcC s0 (byN l) = bits .xor .u32 IntKind.u32.max R) := by show _ = _; rw [← hR]; rfl
  have HR : Hid (((byN l).drop 0).foldl byteC (bits .xor .u32 IntKind.u32.max s0) = R) := by show _ = _; rw [List.drop_zero]; exact hR
  clear hR
  have hst := xorR IntKind.u32.max s0
  go_enter Tryz.func79, Tryz.ntmps79
  go_wp2_with fail
  go_loop [0, 12] (fun vs vi => ∃ (s : Int) (k : Nat), vs = .int .u32 s ∧ 0 ≤ s ∧ s < 4294967296 ∧ vi = .int .i64 k ∧ k ≤ n ∧ Hid (((byN l).drop k).foldl byteC s = R)) (fun _ vi => n - (intOf vi).toNat)
  case atStart => exact ⟨_, 0, rfl, hst.1, hst.2, rfl, Nat.zero_le _, HR⟩
  case round =>
    clear HR hst
    obtain ⟨s, k, rfl, hs0, hs1, rfl, hk, HR⟩ := hrel
    by_cases hlt : k < n
    · have hltz : (k : Int) < (n : Int) := by omega
      have hkl : k < (byN l).length := by rw [byN_length, HN.out]; exact hlt
      obtain ⟨ad, hA, hcell⟩ := Kd.at_int HC.out (k : Int) (by omega) (by omega)
      subst hA
      rw [Int.toNat_natCast] at hcell
      have hrg := byN_range l (k : Int) (by omega) (by rw [HN.out]; exact hltz)
      obtain ⟨x, hx⟩ : ∃ x, rd (byN l) (k : Int) = x := ⟨_, rfl⟩
      rw [hx] at hcell hrg
      obtain ⟨hx0, hx1⟩ := hrg
      have HR2 : Hid (((byN l).drop (k + 1)).foldl byteC (bitsC 8 (bits .xor .u32 s x)) = R) := by
        show _ = _
        have h := HR.out
        rw [List.drop_eq_getElem_cons hkl, List.foldl_cons] at h
        have e : (byN l)[k] = x := by
          rw [← hx]
          unfold rd
          rw [Int.toNat_natCast, List.getD_eq_getElem?_getD, List.getElem?_eq_getElem hkl, Option.getD_some]
        rw [e] at h
        exact h
      clear HR hx hkl
      have hxr := xorR s x
      obtain ⟨T, hT⟩ : ∃ T, bitsC 8 (bits .xor .u32 s x) = T := ⟨_, rfl⟩
      rw [hT] at HR2
      have HT : Hid (bitsC (8 - 0) (bits .xor .u32 s x) = T) := hT
      clear hT
      go_wp2_with fail
      go_loop [0, 20] (fun vs vi => ∃ (s : Int) (j : Nat), vs = .int .u32 s ∧ 0 ≤ s ∧ s < 4294967296 ∧ vi = .int .i64 j ∧ j ≤ 8 ∧ Hid (bitsC (8 - j) s = T)) (fun _ vi => 8 - (intOf vi).toNat)
      case atStart => exact ⟨_, 0, rfl, hxr.1, hxr.2, rfl, Nat.zero_le _, HT⟩
      case round =>
        clear HT hxr hcell
        obtain ⟨s2, j, rfl, hs20, hs21, rfl, hj, HT⟩ := hrel
        by_cases hj8 : j < 8
        · have hjz : (j : Int) < 8 := by omega
          have hb := bitR s2 ⟨hs20, hs21⟩
          have HT2 : Hid (bitsC (8 - (j + 1)) (bitC s2) = T) := by
            show _ = _
            have h := HT.out
            rw [show 8 - j = (8 - (j + 1)) + 1 by omega, bitsC] at h
            exact h
          clear HT
          unfold bitC at hb HT2
          obtain ⟨q, hq⟩ : ∃ q, (bits .and .u32 s2 1 == 1) = q := ⟨_, rfl⟩
          rw [hq] at hb HT2
          cases q
          · rw [if_neg (by simp)] at hb
            have HT3 : Hid (bitsC (8 - (j + 1)) (s2 / 2) = T) := by have h := HT2.out; rw [if_neg (by simp)] at h; exact h
            clear HT2
            go_wp2_with fail
            go_round
            case rel => exact ⟨_, j + 1, rfl, hb.1, hb.2, by go_num, by omega, HT3⟩
            case measure => simp [intOf]; omega
          · rw [if_pos rfl] at hb
            have HT3 : Hid (bitsC (8 - (j + 1)) (bits .xor .u32 (s2 / 2) 2197175160) = T) := by have h := HT2.out; rw [if_pos rfl] at h; exact h
            clear HT2
            go_wp2_with fail
            go_round
            case rel => exact ⟨_, j + 1, rfl, hb.1, hb.2, by go_num, by omega, HT3⟩
            case measure => simp [intOf]; omega
        · obtain rfl : j = 8 := by omega
          have hs2 : s2 = T := HT.out
          subst hs2
          clear HT
          go_wp2_with fail
          go_round
          case rel => exact ⟨_, k + 1, rfl, hs20, hs21, by go_num, by omega, HR2⟩
          case measure => simp [intOf]; omega
    · obtain rfl : k = n := by omega
      have hs2 : s = R := by
        have h := HR.out
        rw [List.drop_eq_nil_of_le (by rw [byN_length, HN.out]; omega)] at h
        exact h
      subst hs2
      clear HR
      go_wp2_with fail
      go_ret
      exact ⟨by rw [hfin.out]; rfl, rfl⟩

theorem sum_is (l : List UInt8) (A : Option Addr) (c : Nat) (w : World) (hl : l.length ≤ 1000000) (hC : (Kd.int .u8).C w A l.length (byN l)) :
    Calls Tryz.prog 52 #[.slice A l.length c] w fun e w' => e = .returned (.int .u32 (sumC l)) ∧ w = w' := by
  have HM := Lib.hid (more_crc l A c 0 w hl hC)
  clear hC hl
  go_enter Tryz.func52, Tryz.ntmps52
  go_wp2_with fail
  refine HM.out.mono ?_
  rintro e w' ⟨rfl, rfl⟩
  go_wp2_with fail
  go_ret
  exact ⟨rfl, rfl⟩
end Go.Proofs.YtjbjcfnbgcloiaaGreatDoor
