-- PRINTED BY print.sh 35421559b90ae4d0a3588c463048766b98c2df88dd9212a6774a882060cdf62d: not written by this session
import Derived.Test.YtjbjcfnbgcloiaaGreatDoorProg
import Derived.Below
import Derived.Deep.Draws
import Derived.Deep.AppendLies
import Derived.Maps.AppendAt
import Derived.OwnWalk
import Derived.Laws.BytesArg
import Derived.Laws.MakeOwn
import Derived.Laws.OwnMore
import Derived.Deep.OwnRows
import Derived.Tactics
import Derived.Lib.ConvBytes
import Derived.Laws.Slices
import Derived.WalkKit
import Derived.KernelRfl
import Derived.RowKit3
import Derived.Deep.LoopGhost
import Derived.Deep.QuietTactic
import Derived.BigQuiet
import Derived.WideLaws
import Derived.Deep.DeepCutAuto
import Derived.Deep.CutBlock
import Derived.Deep.RegionHeld3
import Derived.Laws.Rows
import Derived.Lib.AppendStr
import Derived.ArgAppend
import Derived.Laws.IdiomCopy
import Derived.OrdersHeld
import Derived.Laws.BitsLemmas
import Derived.RowKit
import Derived.Test.YtjbjcfnbgcloiaaGreatDoorWWords
import Derived.Test.YtjbjcfnbgcloiaaGreatDoorWLast
import Derived.Test.YtjbjcfnbgcloiaaGreatDoorWTab
import Derived.Test.YtjbjcfnbgcloiaaGreatDoorWFour
import Derived.Test.YtjbjcfnbgcloiaaGreatDoorWQPut
import Derived.Test.YtjbjcfnbgcloiaaGreatDoorWApart
import Derived.Test.YtjbjcfnbgcloiaaGreatDoorWArr
import Derived.Test.YtjbjcfnbgcloiaaGreatDoorWZeros
import Derived.Test.YtjbjcfnbgcloiaaGreatDoorWFoot
import Derived.Test.YtjbjcfnbgcloiaaGreatDoorWKept
import Derived.Test.YtjbjcfnbgcloiaaGreatDoorWShare
import Derived.Test.YtjbjcfnbgcloiaaGreatDoorWN
import Derived.Test.YtjbjcfnbgcloiaaGreatDoorWFootNe
import Derived.Test.YtjbjcfnbgcloiaaGreatDoorWAt
import Derived.Test.YtjbjcfnbgcloiaaGreatDoorWEqStruct
import Derived.Test.YtjbjcfnbgcloiaaGreatDoorWRepsOne
import Derived.Test.YtjbjcfnbgcloiaaGreatDoorWInv
import Derived.Test.YtjbjcfnbgcloiaaGreatDoorWInvWords
import Derived.Test.YtjbjcfnbgcloiaaGreatDoorWGuard
import Derived.Test.YtjbjcfnbgcloiaaGreatDoorWNEv
import Derived.Test.YtjbjcfnbgcloiaaGreatDoorWMore
namespace Go.Proofs.YtjbjcfnbgcloiaaGreatDoor.PModelErrors
open Go.RowKit Go.Proofs.YtjbjcfnbgcloiaaGreatDoorW.PrintWords Go.Proofs.YtjbjcfnbgcloiaaGreatDoorW.PrintLast Go.Proofs.YtjbjcfnbgcloiaaGreatDoorW.PrintMore
attribute [local go_sem] max2_int min2_int max_two min_two max_three min_three max_four min_four   -- for this text's walks alone
set_option linter.unusedVariables false
set_option linter.unusedSimpArgs false



def errW : Option Int → Value
  | none => .nilIface
  | some c => .iface 0 (.int .i64 c)
theorem errW_none : errW none = .nilIface := rfl
theorem errW_some (c : Int) : errW (some c) = .iface 0 (.int .i64 c) := rfl

-- the values' own types
def rd_L3 (xs : List (List Int)) (i : Int) : (List Int) := xs.getD i.toNat ([] : List Int)
theorem at_L3 {w : World} {A : Option Addr} {n : Nat} {xs : List (List Int)} (h : Kd.C (Kd.slice 5 (Kd.int .u8)) w A n xs) (i : Int) (h0 : 0 ≤ i) (h1 : i < n) : ∃ ad A0 c0, A = some ad ∧ w.cell? (ad.add i.toNat) = some (.slice A0 (rd_L3 xs i).length c0) ∧ (rd_L3 xs i).length ≤ c0 ∧ (Kd.int .u8).C w A0 (rd_L3 xs i).length (rd_L3 xs i) := by
  obtain ⟨ad, c, e, _, hK, hc0⟩ := Kd.C_get h ([] : List Int) i h0 h1
  have hc : ∀ j u, c[j]? = some u → w.cell? (ad.add (i.toNat * 1 + j)) = some u := hc0
  obtain ⟨A0, c0, rfl, l0, g0⟩ := hK
  exact ⟨ad, A0, c0, e, by have hq := hc 0 _ rfl; rwa [Nat.mul_one, Nat.add_zero] at hq, l0, g0⟩

/-! #### struct type 32 -/
structure S32 where
  f0 : ByteArray
  f1 : ByteArray
  f2 : Int
  f3 : Int
def z32 : S32 := ⟨(⟨#[]⟩ : ByteArray), (⟨#[]⟩ : ByteArray), (0 : Int), (0 : Int)⟩
def k32 : Kd S32 := Kd.iso (Kd.pair Kd.string (Kd.pair Kd.string (Kd.pair (Kd.int .i64) (Kd.int .i64)))) (fun x : S32 => (x.f0, x.f1, x.f2, x.f3))
theorem k32_open {w : World} {x : S32} {cs : List Value} (h : k32.K w x cs) : cs = [.string x.f0, .string x.f1, .int .i64 x.f2, .int .i64 x.f3] := by
  obtain ⟨_, _, rfl, rfl, ⟨_, _, rfl, rfl, ⟨_, _, rfl, rfl, rfl⟩⟩⟩ := h
  exact rfl
theorem k32_openM {w : World} {base : Nat} {ok : Nat → Prop} {x : S32} {cs : List Value} (h : k32.M w base ok x cs) : cs = [.string x.f0, .string x.f1, .int .i64 x.f2, .int .i64 x.f3] := by
  obtain ⟨_, _, rfl, rfl, ⟨_, _, rfl, rfl, ⟨_, _, rfl, rfl, rfl⟩⟩⟩ := h
  exact rfl
theorem k32_mk (w : World) (x : S32)  : k32.K w x [.string x.f0, .string x.f1, .int .i64 x.f2, .int .i64 x.f3] := ⟨[.string x.f0], [.string x.f1, .int .i64 x.f2, .int .i64 x.f3], rfl, rfl, ⟨[.string x.f1], [.int .i64 x.f2, .int .i64 x.f3], rfl, rfl, ⟨[.int .i64 x.f2], [.int .i64 x.f3], rfl, rfl, rfl⟩⟩⟩
theorem k32_mkM (w : World) (base : Nat) (ok : Nat → Prop) (x : S32)  : k32.M w base ok x [.string x.f0, .string x.f1, .int .i64 x.f2, .int .i64 x.f3] := ⟨[.string x.f0], [.string x.f1, .int .i64 x.f2, .int .i64 x.f3], rfl, rfl, ⟨[.string x.f1], [.int .i64 x.f2, .int .i64 x.f3], rfl, rfl, ⟨[.int .i64 x.f2], [.int .i64 x.f3], rfl, rfl, rfl⟩⟩⟩
def rd_T32 (xs : List S32) (i : Int) : S32 := xs.getD i.toNat z32
theorem at_T32 {w : World} {A : Option Addr} {n : Nat} {xs : List S32} (h : Kd.C k32 w A n xs) (i : Int) (h0 : 0 ≤ i) (h1 : i < n) : ∃ ad , A = some ad ∧ w.cell? (ad.add (i.toNat * 4)) = some (.string (rd_T32 xs i).f0) ∧ w.cell? ⟨(ad.add (i.toNat * 4)).block, (ad.add (i.toNat * 4)).off + 1, none⟩ = some (.string (rd_T32 xs i).f1) ∧ w.cell? ⟨(ad.add (i.toNat * 4)).block, (ad.add (i.toNat * 4)).off + 2, none⟩ = some (.int .i64 (rd_T32 xs i).f2) ∧ w.cell? ⟨(ad.add (i.toNat * 4)).block, (ad.add (i.toNat * 4)).off + 3, none⟩ = some (.int .i64 (rd_T32 xs i).f3) := by
  obtain ⟨ad, c, e, _, hK, hc0⟩ := Kd.C_get h z32 i h0 h1
  have hc : ∀ j u, c[j]? = some u → w.cell? (ad.add (i.toNat * 4 + j)) = some u := hc0
  obtain rfl := k32_open hK
  exact ⟨ad, e, hc 0 _ rfl, by rw [← add_field _ _ 1 (by omega)]; exact hc 1 _ rfl, by rw [← add_field _ _ 2 (by omega)]; exact hc 2 _ rfl, by rw [← add_field _ _ 3 (by omega)]; exact hc 3 _ rfl⟩

/-! #### struct type 34 -/
structure S34 where
  f0 : Int
  f1 : ByteArray
  f2 : ByteArray
  f3 : (List Int)
  f4 : Int
  f5 : Int
  f6 : S32
def z34 : S34 := ⟨(0 : Int), (⟨#[]⟩ : ByteArray), (⟨#[]⟩ : ByteArray), ([] : List Int), (0 : Int), (0 : Int), z32⟩
def k34 : Kd S34 := Kd.iso (Kd.pair (Kd.int .i64) (Kd.pair Kd.string (Kd.pair Kd.string (Kd.pair (Kd.slice 5 (Kd.int .u8)) (Kd.pair (Kd.int .i64) (Kd.pair (Kd.int .i64) k32)))))) (fun x : S34 => (x.f0, x.f1, x.f2, x.f3, x.f4, x.f5, x.f6))
theorem k34_open {w : World} {x : S34} {cs : List Value} (h : k34.K w x cs) : ∃ A3 c3, cs = [.int .i64 x.f0, .string x.f1, .string x.f2, .slice A3 x.f3.length c3, .int .i64 x.f4, .int .i64 x.f5, .string x.f6.f0, .string x.f6.f1, .int .i64 x.f6.f2, .int .i64 x.f6.f3] ∧ x.f3.length ≤ c3 ∧ (Kd.int .u8).C w A3 x.f3.length x.f3 := by
  obtain ⟨_, _, rfl, rfl, ⟨_, _, rfl, rfl, ⟨_, _, rfl, rfl, ⟨_, _, rfl, ⟨A3, c3, rfl, l3, g3⟩, ⟨_, _, rfl, rfl, ⟨_, _, rfl, rfl, s6⟩⟩⟩⟩⟩⟩ := h
  obtain rfl := k32_open s6
  exact ⟨A3, c3, rfl, l3, g3⟩
theorem k34_openM {w : World} {base : Nat} {ok : Nat → Prop} {x : S34} {cs : List Value} (h : k34.M w base ok x cs) : ∃ v3, cs = [.int .i64 x.f0, .string x.f1, .string x.f2, v3, .int .i64 x.f4, .int .i64 x.f5, .string x.f6.f0, .string x.f6.f1, .int .i64 x.f6.f2, .int .i64 x.f6.f3] ∧ (Kd.int .u8).R 5 w base ok v3 x.f3 := by
  obtain ⟨_, _, rfl, rfl, ⟨_, _, rfl, rfl, ⟨_, _, rfl, rfl, ⟨_, _, rfl, ⟨v3, rfl, g3⟩, ⟨_, _, rfl, rfl, ⟨_, _, rfl, rfl, s6⟩⟩⟩⟩⟩⟩ := h
  obtain rfl := k32_openM s6
  exact ⟨v3, rfl, g3⟩
theorem k34_mk (w : World) (x : S34) {A3 : Option Addr} {c3 : Nat} (l3 : x.f3.length ≤ c3) (g3 : (Kd.int .u8).C w A3 x.f3.length x.f3) : k34.K w x [.int .i64 x.f0, .string x.f1, .string x.f2, .slice A3 x.f3.length c3, .int .i64 x.f4, .int .i64 x.f5, .string x.f6.f0, .string x.f6.f1, .int .i64 x.f6.f2, .int .i64 x.f6.f3] := ⟨[.int .i64 x.f0], [.string x.f1, .string x.f2, .slice A3 x.f3.length c3, .int .i64 x.f4, .int .i64 x.f5, .string x.f6.f0, .string x.f6.f1, .int .i64 x.f6.f2, .int .i64 x.f6.f3], rfl, rfl, ⟨[.string x.f1], [.string x.f2, .slice A3 x.f3.length c3, .int .i64 x.f4, .int .i64 x.f5, .string x.f6.f0, .string x.f6.f1, .int .i64 x.f6.f2, .int .i64 x.f6.f3], rfl, rfl, ⟨[.string x.f2], [.slice A3 x.f3.length c3, .int .i64 x.f4, .int .i64 x.f5, .string x.f6.f0, .string x.f6.f1, .int .i64 x.f6.f2, .int .i64 x.f6.f3], rfl, rfl, ⟨[.slice A3 x.f3.length c3], [.int .i64 x.f4, .int .i64 x.f5, .string x.f6.f0, .string x.f6.f1, .int .i64 x.f6.f2, .int .i64 x.f6.f3], rfl, ⟨A3, c3, rfl, l3, g3⟩, ⟨[.int .i64 x.f4], [.int .i64 x.f5, .string x.f6.f0, .string x.f6.f1, .int .i64 x.f6.f2, .int .i64 x.f6.f3], rfl, rfl, ⟨[.int .i64 x.f5], [.string x.f6.f0, .string x.f6.f1, .int .i64 x.f6.f2, .int .i64 x.f6.f3], rfl, rfl, (k32_mk w x.f6 )⟩⟩⟩⟩⟩⟩
theorem k34_mkM (w : World) (base : Nat) (ok : Nat → Prop) (x : S34) {v3 : Value} (g3 : (Kd.int .u8).R 5 w base ok v3 x.f3) : k34.M w base ok x [.int .i64 x.f0, .string x.f1, .string x.f2, v3, .int .i64 x.f4, .int .i64 x.f5, .string x.f6.f0, .string x.f6.f1, .int .i64 x.f6.f2, .int .i64 x.f6.f3] := ⟨[.int .i64 x.f0], [.string x.f1, .string x.f2, v3, .int .i64 x.f4, .int .i64 x.f5, .string x.f6.f0, .string x.f6.f1, .int .i64 x.f6.f2, .int .i64 x.f6.f3], rfl, rfl, ⟨[.string x.f1], [.string x.f2, v3, .int .i64 x.f4, .int .i64 x.f5, .string x.f6.f0, .string x.f6.f1, .int .i64 x.f6.f2, .int .i64 x.f6.f3], rfl, rfl, ⟨[.string x.f2], [v3, .int .i64 x.f4, .int .i64 x.f5, .string x.f6.f0, .string x.f6.f1, .int .i64 x.f6.f2, .int .i64 x.f6.f3], rfl, rfl, ⟨[v3], [.int .i64 x.f4, .int .i64 x.f5, .string x.f6.f0, .string x.f6.f1, .int .i64 x.f6.f2, .int .i64 x.f6.f3], rfl, ⟨v3, rfl, g3⟩, ⟨[.int .i64 x.f4], [.int .i64 x.f5, .string x.f6.f0, .string x.f6.f1, .int .i64 x.f6.f2, .int .i64 x.f6.f3], rfl, rfl, ⟨[.int .i64 x.f5], [.string x.f6.f0, .string x.f6.f1, .int .i64 x.f6.f2, .int .i64 x.f6.f3], rfl, rfl, (k32_mkM w base ok x.f6 )⟩⟩⟩⟩⟩⟩
def rd_T34 (xs : List S34) (i : Int) : S34 := xs.getD i.toNat z34
theorem at_T34 {w : World} {A : Option Addr} {n : Nat} {xs : List S34} (h : Kd.C k34 w A n xs) (i : Int) (h0 : 0 ≤ i) (h1 : i < n) : ∃ ad A3 c3, A = some ad ∧ w.cell? (ad.add (i.toNat * 10)) = some (.int .i64 (rd_T34 xs i).f0) ∧ w.cell? ⟨(ad.add (i.toNat * 10)).block, (ad.add (i.toNat * 10)).off + 1, none⟩ = some (.string (rd_T34 xs i).f1) ∧ w.cell? ⟨(ad.add (i.toNat * 10)).block, (ad.add (i.toNat * 10)).off + 2, none⟩ = some (.string (rd_T34 xs i).f2) ∧ w.cell? ⟨(ad.add (i.toNat * 10)).block, (ad.add (i.toNat * 10)).off + 3, none⟩ = some (.slice A3 (rd_T34 xs i).f3.length c3) ∧ w.cell? ⟨(ad.add (i.toNat * 10)).block, (ad.add (i.toNat * 10)).off + 4, none⟩ = some (.int .i64 (rd_T34 xs i).f4) ∧ w.cell? ⟨(ad.add (i.toNat * 10)).block, (ad.add (i.toNat * 10)).off + 5, none⟩ = some (.int .i64 (rd_T34 xs i).f5) ∧ w.cell? ⟨(ad.add (i.toNat * 10)).block, (ad.add (i.toNat * 10)).off + 6, none⟩ = some (.string (rd_T34 xs i).f6.f0) ∧ w.cell? ⟨(ad.add (i.toNat * 10)).block, (ad.add (i.toNat * 10)).off + 7, none⟩ = some (.string (rd_T34 xs i).f6.f1) ∧ w.cell? ⟨(ad.add (i.toNat * 10)).block, (ad.add (i.toNat * 10)).off + 8, none⟩ = some (.int .i64 (rd_T34 xs i).f6.f2) ∧ w.cell? ⟨(ad.add (i.toNat * 10)).block, (ad.add (i.toNat * 10)).off + 9, none⟩ = some (.int .i64 (rd_T34 xs i).f6.f3) ∧ (rd_T34 xs i).f3.length ≤ c3 ∧ (Kd.int .u8).C w A3 (rd_T34 xs i).f3.length (rd_T34 xs i).f3 := by
  obtain ⟨ad, c, e, _, hK, hc0⟩ := Kd.C_get h z34 i h0 h1
  have hc : ∀ j u, c[j]? = some u → w.cell? (ad.add (i.toNat * 10 + j)) = some u := hc0
  obtain ⟨A3, c3, rfl, l3, g3⟩ := k34_open hK
  exact ⟨ad, A3, c3, e, hc 0 _ rfl, by rw [← add_field _ _ 1 (by omega)]; exact hc 1 _ rfl, by rw [← add_field _ _ 2 (by omega)]; exact hc 2 _ rfl, by rw [← add_field _ _ 3 (by omega)]; exact hc 3 _ rfl, by rw [← add_field _ _ 4 (by omega)]; exact hc 4 _ rfl, by rw [← add_field _ _ 5 (by omega)]; exact hc 5 _ rfl, by rw [← add_field _ _ 6 (by omega)]; exact hc 6 _ rfl, by rw [← add_field _ _ 7 (by omega)]; exact hc 7 _ rfl, by rw [← add_field _ _ 8 (by omega)]; exact hc 8 _ rfl, by rw [← add_field _ _ 9 (by omega)]; exact hc 9 _ rfl, l3, g3⟩

end Go.Proofs.YtjbjcfnbgcloiaaGreatDoor.PModelErrors
