/- ModelPlays: a part of the proof that the two models answer alike: words for rows and cells in memory. -/
import Derived.Test.YtjbjcfnbgcloiaaGreatDoorCq4
import Derived.Test.YtjbjcfnbgcloiaaGreatDoorProg
import Derived.Below
import Derived.Deep.Draws
import Derived.Deep.AppendLies
import Derived.Maps.AppendAt
import Derived.OwnWalk
import Derived.Laws.BytesArg
import Derived.Laws.MakeOwn
import Derived.Laws.OwnMore
import Derived.Deep.OwnRows
import Derived.Tactics
import Derived.Lib.ConvBytes
import Derived.Laws.Slices
import Derived.WalkKit
import Derived.KernelRfl
import Derived.RowKit3
import Derived.Deep.LoopGhost
import Derived.Deep.QuietTactic
import Derived.BigQuiet
import Derived.WideLaws
import Derived.Deep.DeepCutAuto
import Derived.Deep.CutBlock
import Derived.Deep.RegionHeld3
import Derived.Laws.Rows
import Derived.Lib.AppendStr
import Derived.ArgAppend
import Derived.Laws.IdiomCopy
import Derived.OrdersHeld
import Derived.Laws.BitsLemmas
import Derived.RowKit
import Derived.Deep.Slices
import Derived.Deep.Strs
namespace Go.Proofs.YtjbjcfnbgcloiaaGreatDoor
end Go.Proofs.YtjbjcfnbgcloiaaGreatDoor
namespace Go.Proofs.YtjbjcfnbgcloiaaGreatDoor.Nam
end Go.Proofs.YtjbjcfnbgcloiaaGreatDoor.Nam
namespace Go.Proofs.YtjbjcfnbgcloiaaGreatDoor.PModelErrors
end Go.Proofs.YtjbjcfnbgcloiaaGreatDoor.PModelErrors
namespace Go.Proofs.YtjbjcfnbgcloiaaGreatDoor.Srt
end Go.Proofs.YtjbjcfnbgcloiaaGreatDoor.Srt
namespace Go.Proofs.YtjbjcfnbgcloiaaGreatDoor.modelPlays
end Go.Proofs.YtjbjcfnbgcloiaaGreatDoor.modelPlays
namespace Go.Proofs.YtjbjcfnbgcloiaaGreatDoorW.PrintLast
end Go.Proofs.YtjbjcfnbgcloiaaGreatDoorW.PrintLast
namespace Go.Proofs.YtjbjcfnbgcloiaaGreatDoorW.PrintMore
end Go.Proofs.YtjbjcfnbgcloiaaGreatDoorW.PrintMore
namespace Go.Proofs.YtjbjcfnbgcloiaaGreatDoorW.PrintWords
end Go.Proofs.YtjbjcfnbgcloiaaGreatDoorW.PrintWords
namespace Go.RowKit
end Go.RowKit
set_option linter.unusedSimpArgs false
set_option linter.unusedVariables false

namespace Go.Proofs.YtjbjcfnbgcloiaaGreatDoor.PModelErrors
open Go.RowKit Go.Proofs.YtjbjcfnbgcloiaaGreatDoorW.PrintWords Go.Proofs.YtjbjcfnbgcloiaaGreatDoorW.PrintLast Go.Proofs.YtjbjcfnbgcloiaaGreatDoorW.PrintMore
attribute [local go_sem] max2_int min2_int max_two min_two max_three min_three max_four min_four   -- for this text's walks alone
set_option linter.unusedVariables false
set_option linter.unusedSimpArgs false

structure S32 where
  f0 : ByteArray
  f1 : ByteArray
  f2 : Int
  f3 : Int
def z32 : S32 := ⟨(⟨#[]⟩ : ByteArray), (⟨#[]⟩ : ByteArray), (0 : Int), (0 : Int)⟩
def k32 : Kd S32 := Kd.iso (Kd.pair Kd.string (Kd.pair Kd.string (Kd.pair (Kd.int .i64) (Kd.int .i64)))) (fun x : S32 => (x.f0, x.f1, x.f2, x.f3))
theorem k32_open {w : World} {x : S32} {cs : List Value} (h : k32.K w x cs) : cs = [.string x.f0, .string x.f1, .int .i64 x.f2, .int .i64 x.f3] := by
  obtain ⟨_, _, rfl, rfl, ⟨_, _, rfl, rfl, ⟨_, _, rfl, rfl, rfl⟩⟩⟩ := h
  exact rfl
theorem k32_mk (w : World) (x : S32)  : k32.K w x [.string x.f0, .string x.f1, .int .i64 x.f2, .int .i64 x.f3] := ⟨[.string x.f0], [.string x.f1, .int .i64 x.f2, .int .i64 x.f3], rfl, rfl, ⟨[.string x.f1], [.int .i64 x.f2, .int .i64 x.f3], rfl, rfl, ⟨[.int .i64 x.f2], [.int .i64 x.f3], rfl, rfl, rfl⟩⟩⟩
structure S34 where
  f0 : Int
  f1 : ByteArray
  f2 : ByteArray
  f3 : (List Int)
  f4 : Int
  f5 : Int
  f6 : S32
def z34 : S34 := ⟨(0 : Int), (⟨#[]⟩ : ByteArray), (⟨#[]⟩ : ByteArray), ([] : List Int), (0 : Int), (0 : Int), z32⟩
def k34 : Kd S34 := Kd.iso (Kd.pair (Kd.int .i64) (Kd.pair Kd.string (Kd.pair Kd.string (Kd.pair (Kd.slice 5 (Kd.int .u8)) (Kd.pair (Kd.int .i64) (Kd.pair (Kd.int .i64) k32)))))) (fun x : S34 => (x.f0, x.f1, x.f2, x.f3, x.f4, x.f5, x.f6))
theorem k34_open {w : World} {x : S34} {cs : List Value} (h : k34.K w x cs) : ∃ A3 c3, cs = [.int .i64 x.f0, .string x.f1, .string x.f2, .slice A3 x.f3.length c3, .int .i64 x.f4, .int .i64 x.f5, .string x.f6.f0, .string x.f6.f1, .int .i64 x.f6.f2, .int .i64 x.f6.f3] ∧ x.f3.length ≤ c3 ∧ (Kd.int .u8).C w A3 x.f3.length x.f3 := by
  obtain ⟨_, _, rfl, rfl, ⟨_, _, rfl, rfl, ⟨_, _, rfl, rfl, ⟨_, _, rfl, ⟨A3, c3, rfl, l3, g3⟩, ⟨_, _, rfl, rfl, ⟨_, _, rfl, rfl, s6⟩⟩⟩⟩⟩⟩ := h
  obtain rfl := k32_open s6
  exact ⟨A3, c3, rfl, l3, g3⟩
theorem k34_mk (w : World) (x : S34) {A3 : Option Addr} {c3 : Nat} (l3 : x.f3.length ≤ c3) (g3 : (Kd.int .u8).C w A3 x.f3.length x.f3) : k34.K w x [.int .i64 x.f0, .string x.f1, .string x.f2, .slice A3 x.f3.length c3, .int .i64 x.f4, .int .i64 x.f5, .string x.f6.f0, .string x.f6.f1, .int .i64 x.f6.f2, .int .i64 x.f6.f3] := ⟨[.int .i64 x.f0], [.string x.f1, .string x.f2, .slice A3 x.f3.length c3, .int .i64 x.f4, .int .i64 x.f5, .string x.f6.f0, .string x.f6.f1, .int .i64 x.f6.f2, .int .i64 x.f6.f3], rfl, rfl, ⟨[.string x.f1], [.string x.f2, .slice A3 x.f3.length c3, .int .i64 x.f4, .int .i64 x.f5, .string x.f6.f0, .string x.f6.f1, .int .i64 x.f6.f2, .int .i64 x.f6.f3], rfl, rfl, ⟨[.string x.f2], [.slice A3 x.f3.length c3, .int .i64 x.f4, .int .i64 x.f5, .string x.f6.f0, .string x.f6.f1, .int .i64 x.f6.f2, .int .i64 x.f6.f3], rfl, rfl, ⟨[.slice A3 x.f3.length c3], [.int .i64 x.f4, .int .i64 x.f5, .string x.f6.f0, .string x.f6.f1, .int .i64 x.f6.f2, .int .i64 x.f6.f3], rfl, ⟨A3, c3, rfl, l3, g3⟩, ⟨[.int .i64 x.f4], [.int .i64 x.f5, .string x.f6.f0, .string x.f6.f1, .int .i64 x.f6.f2, .int .i64 x.f6.f3], rfl, rfl, ⟨[.int .i64 x.f5], [.string x.f6.f0, .string x.f6.f1, .int .i64 x.f6.f2, .int .i64 x.f6.f3], rfl, rfl, (k32_mk w x.f6 )⟩⟩⟩⟩⟩⟩
def rd_T34 (xs : List S34) (i : Int) : S34 := xs.getD i.toNat z34
theorem at_T34 {w : World} {A : Option Addr} {n : Nat} {xs : List S34} (h : Kd.C k34 w A n xs) (i : Int) (h0 : 0 ≤ i) (h1 : i < n) : ∃ ad A3 c3, A = some ad ∧ w.cell? (ad.add (i.toNat * 10)) = some (.int .i64 (rd_T34 xs i).f0) ∧ w.cell? ⟨(ad.add (i.toNat * 10)).block, (ad.add (i.toNat * 10)).off + 1, none⟩ = some (.string (rd_T34 xs i).f1) ∧ w.cell? ⟨(ad.add (i.toNat * 10)).block, (ad.add (i.toNat * 10)).off + 2, none⟩ = some (.string (rd_T34 xs i).f2) ∧ w.cell? ⟨(ad.add (i.toNat * 10)).block, (ad.add (i.toNat * 10)).off + 3, none⟩ = some (.slice A3 (rd_T34 xs i).f3.length c3) ∧ w.cell? ⟨(ad.add (i.toNat * 10)).block, (ad.add (i.toNat * 10)).off + 4, none⟩ = some (.int .i64 (rd_T34 xs i).f4) ∧ w.cell? ⟨(ad.add (i.toNat * 10)).block, (ad.add (i.toNat * 10)).off + 5, none⟩ = some (.int .i64 (rd_T34 xs i).f5) ∧ w.cell? ⟨(ad.add (i.toNat * 10)).block, (ad.add (i.toNat * 10)).off + 6, none⟩ = some (.string (rd_T34 xs i).f6.f0) ∧ w.cell? ⟨(ad.add (i.toNat * 10)).block, (ad.add (i.toNat * 10)).off + 7, none⟩ = some (.string (rd_T34 xs i).f6.f1) ∧ w.cell? ⟨(ad.add (i.toNat * 10)).block, (ad.add (i.toNat * 10)).off + 8, none⟩ = some (.int .i64 (rd_T34 xs i).f6.f2) ∧ w.cell? ⟨(ad.add (i.toNat * 10)).block, (ad.add (i.toNat * 10)).off + 9, none⟩ = some (.int .i64 (rd_T34 xs i).f6.f3) ∧ (rd_T34 xs i).f3.length ≤ c3 ∧ (Kd.int .u8).C w A3 (rd_T34 xs i).f3.length (rd_T34 xs i).f3 := by
  obtain ⟨ad, c, e, _, hK, hc0⟩ := Kd.C_get h z34 i h0 h1
  have hc : ∀ j u, c[j]? = some u → w.cell? (ad.add (i.toNat * 10 + j)) = some u := hc0
  obtain ⟨A3, c3, rfl, l3, g3⟩ := k34_open hK
  exact ⟨ad, A3, c3, e, hc 0 _ rfl, by rw [← add_field _ _ 1 (by omega)]; exact hc 1 _ rfl, by rw [← add_field _ _ 2 (by omega)]; exact hc 2 _ rfl, by rw [← add_field _ _ 3 (by omega)]; exact hc 3 _ rfl, by rw [← add_field _ _ 4 (by omega)]; exact hc 4 _ rfl, by rw [← add_field _ _ 5 (by omega)]; exact hc 5 _ rfl, by rw [← add_field _ _ 6 (by omega)]; exact hc 6 _ rfl, by rw [← add_field _ _ 7 (by omega)]; exact hc 7 _ rfl, by rw [← add_field _ _ 8 (by omega)]; exact hc 8 _ rfl, by rw [← add_field _ _ 9 (by omega)]; exact hc 9 _ rfl, l3, g3⟩

end Go.Proofs.YtjbjcfnbgcloiaaGreatDoor.PModelErrors

namespace Go.Proofs.YtjbjcfnbgcloiaaGreatDoor.PModelErrors
open Go.RowKit Go.Proofs.YtjbjcfnbgcloiaaGreatDoorW.PrintWords Go.Proofs.YtjbjcfnbgcloiaaGreatDoorW.PrintLast Go.Proofs.YtjbjcfnbgcloiaaGreatDoorW.PrintMore
attribute [local go_sem] max2_int min2_int max_two min_two max_three min_three max_four min_four   -- for this text's walks alone
set_option linter.unusedVariables false
set_option linter.unusedSimpArgs false

def strongboxlaw22_Room.l0 : Nat → List (S34) → Int → Option (Bool)
  | 0, _, _ => none
  | k + 1, x0, x5 => if x5 < (x0.length : Int) then (if 0 ≤ x5 then (if (((rd_T34 x0 x5).f1).size : Int) > 300 then (some false) else (if (((rd_T34 x0 x5).f2).size : Int) > 300 then (some false) else (if (((rd_T34 x0 x5).f3).length : Int) > 3000 then (some false) else (if (((rd_T34 x0 x5).f6.f0).size : Int) > 300 then (some false) else (if (((rd_T34 x0 x5).f6.f1).size : Int) > 300 then (some false) else (strongboxlaw22_Room.l0 k x0 (wrap64 (x5 + 1)))))))) else (none)) else (some true)
def strongboxlaw22_Room.f (k : Nat) (l0 : List (S34)) (a1 : Int) : Option (Bool) := if (l0.length : Int) > a1 then (some false) else (strongboxlaw22_Room.l0 k l0 0)
set_option maxHeartbeats 8000000 in
set_option maxRecDepth 100000 in
theorem strongboxlaw22_Room.calls (k : Nat) (A0 : Option Addr) (c0 : Nat) (l0 : List (S34)) (a1 : Int) (r : Bool) (w : World) (hr0 : Kd.C k34 w A0 l0.length l0) (hc0 : l0.length ≤ c0) (h : strongboxlaw22_Room.f k l0 a1 = some r) :
    Calls Tryz.prog 6 #[.slice A0 l0.length c0, .int .i64 a1] w fun e w' => e = .returned (.bool r) ∧ Below w.heap.size w w' := by
  have hu34 := Tryz.underlying34
  have HR0 := Aside0.mk hr0
  have HC0 := Aside0.mk hc0
  clear hr0 hc0
  have HB := Aside0.mk (Below.refl w.heap.size w)
  have H : (if (l0.length : Int) > a1 then (some false) else (strongboxlaw22_Room.l0 k l0 0)) = some r := h
  clear h
  by_cases c3 : (l0.length : Int) > a1
  · rw [if_pos c3] at H
    have c3b0 : decide (a1 < (l0.length : Int)) = true := decide_eq_true c3
    clear c3
    obtain rfl := Option.some.inj H
    go_enter Tryz.func6, Tryz.ntmps6
    go_wp2
    go_ret
    exact ⟨by first | rfl | (simp [errW_none, errW_some] <;> rfl) | (simp [*, errW_none, errW_some] <;> rfl), by repeat (first | (with_reducible first | exact HB.out | apply below_alloc | apply pw_below_drewN | apply below_drew1) | exact HB.out)⟩
  · rw [if_neg c3] at H
    have c3b0 : decide (a1 < (l0.length : Int)) = false := decide_eq_false c3
    clear c3
    have H' := Aside0.mk H
    clear H
    go_enter Tryz.func6, Tryz.ntmps6
    go_wp2
    go_loopg [5] k (fun kq v5 w' => ∃ (x5_1 : Int), v5 = .int .i64 x5_1 ∧ Aside0 (strongboxlaw22_Room.l0 kq l0 x5_1 = some r) ∧ Aside0 (kq ≤ k) ∧ Aside0 (Below w.heap.size w w'))
    case atStart => exact ⟨(0), (by first | rfl | (simp; done) | (simp [*]; done)), H', ⟨Nat.le_refl _⟩, ⟨by repeat (first | (with_reducible first | exact HB.out | apply below_alloc | apply pw_below_drewN | apply below_drew1) | exact HB.out)⟩⟩
    case round =>
      clear H'
      try clear p2
      try clear c3
      try clear c3b0
      obtain ⟨x5_1, rfl, HA, HK1, HB⟩ := hrel
      cases gk with
      | zero => exact absurd HA.out (by simp [strongboxlaw22_Room.l0])
      | succ k1 =>
        have H := HA.out
        clear HA
        simp only [strongboxlaw22_Room.l0] at H
        by_cases c4 : x5_1 < (l0.length : Int)
        · rw [if_pos c4] at H
          have c4b0 : decide (x5_1 < (l0.length : Int)) = true := decide_eq_true c4
          clear c4
          by_cases c5 : 0 ≤ x5_1
          · rw [if_pos c5] at H
            have c5b0 : decide (0 ≤ x5_1) = true := decide_eq_true c5
            clear c5
            by_cases c6 : (((rd_T34 l0 x5_1).f1).size : Int) > 300
            · rw [if_pos c6] at H
              have c6b0 : decide (300 < (((rd_T34 l0 x5_1).f1).size : Int)) = true := decide_eq_true c6
              have c6b1 : decide (300 < ((rd_T34 l0 x5_1).f1).size) = true := decide_eq_true (by omega)
              clear c6
              obtain rfl := Option.some.inj H
              have p108 : 0 ≤ (x5_1 : Int) := of_decide_eq_true (by first | (with_reducible assumption) | assumption)
              have q108 : x5_1 < (l0.length : Int) := of_decide_eq_true (by first | (with_reducible assumption) | assumption)
              obtain ⟨ad108, A108_3, c108_3, e108, hx108_0, hx108_1, hx108_2, hx108_3, hx108_4, hx108_5, hx108_6, hx108_7, hx108_8, hx108_9, hl108_3, hi108_3⟩ := at_T34 HR0.out x5_1 p108 q108
              cases e108
              replace hx108_0 := (HB.out.cell (World.block_lt_of_cell? w _ hx108_0)).trans hx108_0
              replace hx108_1 := (HB.out.cell (World.block_lt_of_cell? w _ hx108_1)).trans hx108_1
              replace hx108_2 := (HB.out.cell (World.block_lt_of_cell? w _ hx108_2)).trans hx108_2
              replace hx108_3 := (HB.out.cell (World.block_lt_of_cell? w _ hx108_3)).trans hx108_3
              replace hx108_4 := (HB.out.cell (World.block_lt_of_cell? w _ hx108_4)).trans hx108_4
              replace hx108_5 := (HB.out.cell (World.block_lt_of_cell? w _ hx108_5)).trans hx108_5
              replace hx108_6 := (HB.out.cell (World.block_lt_of_cell? w _ hx108_6)).trans hx108_6
              replace hx108_7 := (HB.out.cell (World.block_lt_of_cell? w _ hx108_7)).trans hx108_7
              replace hx108_8 := (HB.out.cell (World.block_lt_of_cell? w _ hx108_8)).trans hx108_8
              replace hx108_9 := (HB.out.cell (World.block_lt_of_cell? w _ hx108_9)).trans hx108_9
              have HR108_3 := Aside0.mk hi108_3
              have HC108_3 := Aside0.mk hl108_3
              clear hi108_3 hl108_3
              replace p108 := eq_true p108
              replace q108 := eq_true q108
              go_wp2_with (first | ((with_reducible refine gate_dst (N := 6) rfl ?_); (try (refine gate_guard (by rfl) ?_; dsimp only)); refine box_event ?hg (N := 6) ?hd (cs := #[.int .i64 0, .string (⟨#[]⟩ : ByteArray), .string (⟨#[]⟩ : ByteArray), .slice none 0 0, .int .i64 0, .int .i64 0, .string (⟨#[]⟩ : ByteArray), .string (⟨#[]⟩ : ByteArray), .int .i64 0, .int .i64 0]) (t := 34) ?hr ?_; (case hd => rfl); (case hg => rfl); (case hr => first | (go_simp; done) | (go_simp; rfl)); intro gb109 hg w7 hbox hb; have n0_ := Aside0.mk (below_step (by repeat (first | (with_reducible first | exact HB.out | apply below_alloc | apply pw_below_drewN | apply below_drew1) | exact HB.out)) hb); have n1_ := Aside0.mk (hbox); have n2_ := Aside0.mk ((by rw [hg]; exact (below_size (by repeat (first | (with_reducible first | exact HB.out | apply below_alloc | apply pw_below_drewN | apply below_drew1) | exact HB.out))) : w.heap.size ≤ gb109)); have n3_ := Aside0.mk ((by rw [hg]; exact (below_size (by repeat (first | (with_reducible first | exact HB.out | apply below_alloc | apply pw_below_drewN | apply below_drew1) | exact HB.out))) : w.heap.size ≤ gb109)); clear HB; have HB := n0_; have BK109 := n1_; have GW109 := n2_; have GE109 := n3_; clear n0_ n1_ n2_ n3_; clear hb hbox hg; have hcz8_0 : w7.cell? ⟨gb109, 0, none⟩ = some (.int .i64 0) := (blk_cell BK109.out 0).trans rfl; have hcz8_1 : w7.cell? ⟨gb109, 1, none⟩ = some (.string (⟨#[]⟩ : ByteArray)) := (blk_cell BK109.out 1).trans rfl; have hcz8_2 : w7.cell? ⟨gb109, 2, none⟩ = some (.string (⟨#[]⟩ : ByteArray)) := (blk_cell BK109.out 2).trans rfl; have hcz8_3 : w7.cell? ⟨gb109, 3, none⟩ = some (.slice none 0 0) := (blk_cell BK109.out 3).trans rfl; have hcz8_4 : w7.cell? ⟨gb109, 4, none⟩ = some (.int .i64 0) := (blk_cell BK109.out 4).trans rfl; have hcz8_5 : w7.cell? ⟨gb109, 5, none⟩ = some (.int .i64 0) := (blk_cell BK109.out 5).trans rfl; have hcz8_6 : w7.cell? ⟨gb109, 6, none⟩ = some (.string (⟨#[]⟩ : ByteArray)) := (blk_cell BK109.out 6).trans rfl; have hcz8_7 : w7.cell? ⟨gb109, 7, none⟩ = some (.string (⟨#[]⟩ : ByteArray)) := (blk_cell BK109.out 7).trans rfl; have hcz8_8 : w7.cell? ⟨gb109, 8, none⟩ = some (.int .i64 0) := (blk_cell BK109.out 8).trans rfl; have hcz8_9 : w7.cell? ⟨gb109, 9, none⟩ = some (.int .i64 0) := (blk_cell BK109.out 9).trans rfl; have hfz8_0 := blk_frozen BK109.out 0; have hfz8_1 := blk_frozen BK109.out 1; have hfz8_2 := blk_frozen BK109.out 2; have hfz8_3 := blk_frozen BK109.out 3; have hfz8_4 := blk_frozen BK109.out 4; have hfz8_5 := blk_frozen BK109.out 5; have hfz8_6 := blk_frozen BK109.out 6; have hfz8_7 := blk_frozen BK109.out 7; have hfz8_8 := blk_frozen BK109.out 8; have hfz8_9 := blk_frozen BK109.out 9))
              go_ret
              exact ⟨by first | rfl | (simp [errW_none, errW_some] <;> rfl) | (simp [*, errW_none, errW_some] <;> rfl), by repeat (first | (with_reducible first | exact HB.out | apply below_alloc | apply pw_below_drewN | apply below_drew1 | refine below_set ?_ GE109.out) | exact HB.out)⟩
            · rw [if_neg c6] at H
              have c6b0 : decide (300 < (((rd_T34 l0 x5_1).f1).size : Int)) = false := decide_eq_false c6
              have c6b1 : decide (300 < ((rd_T34 l0 x5_1).f1).size) = false := decide_eq_false (by omega)
              clear c6
              by_cases c9 : (((rd_T34 l0 x5_1).f2).size : Int) > 300
              · rw [if_pos c9] at H
                have c9b0 : decide (300 < (((rd_T34 l0 x5_1).f2).size : Int)) = true := decide_eq_true c9
                have c9b1 : decide (300 < ((rd_T34 l0 x5_1).f2).size) = true := decide_eq_true (by omega)
                clear c9
                obtain rfl := Option.some.inj H
                have p108 : 0 ≤ (x5_1 : Int) := of_decide_eq_true (by first | (with_reducible assumption) | assumption)
                have q108 : x5_1 < (l0.length : Int) := of_decide_eq_true (by first | (with_reducible assumption) | assumption)
                obtain ⟨ad108, A108_3, c108_3, e108, hx108_0, hx108_1, hx108_2, hx108_3, hx108_4, hx108_5, hx108_6, hx108_7, hx108_8, hx108_9, hl108_3, hi108_3⟩ := at_T34 HR0.out x5_1 p108 q108
                cases e108
                replace hx108_0 := (HB.out.cell (World.block_lt_of_cell? w _ hx108_0)).trans hx108_0
                replace hx108_1 := (HB.out.cell (World.block_lt_of_cell? w _ hx108_1)).trans hx108_1
                replace hx108_2 := (HB.out.cell (World.block_lt_of_cell? w _ hx108_2)).trans hx108_2
                replace hx108_3 := (HB.out.cell (World.block_lt_of_cell? w _ hx108_3)).trans hx108_3
                replace hx108_4 := (HB.out.cell (World.block_lt_of_cell? w _ hx108_4)).trans hx108_4
                replace hx108_5 := (HB.out.cell (World.block_lt_of_cell? w _ hx108_5)).trans hx108_5
                replace hx108_6 := (HB.out.cell (World.block_lt_of_cell? w _ hx108_6)).trans hx108_6
                replace hx108_7 := (HB.out.cell (World.block_lt_of_cell? w _ hx108_7)).trans hx108_7
                replace hx108_8 := (HB.out.cell (World.block_lt_of_cell? w _ hx108_8)).trans hx108_8
                replace hx108_9 := (HB.out.cell (World.block_lt_of_cell? w _ hx108_9)).trans hx108_9
                have HR108_3 := Aside0.mk hi108_3
                have HC108_3 := Aside0.mk hl108_3
                clear hi108_3 hl108_3
                replace p108 := eq_true p108
                replace q108 := eq_true q108
                go_wp2_with (first | ((with_reducible refine gate_dst (N := 6) rfl ?_); (try (refine gate_guard (by rfl) ?_; dsimp only)); refine box_event ?hg (N := 6) ?hd (cs := #[.int .i64 0, .string (⟨#[]⟩ : ByteArray), .string (⟨#[]⟩ : ByteArray), .slice none 0 0, .int .i64 0, .int .i64 0, .string (⟨#[]⟩ : ByteArray), .string (⟨#[]⟩ : ByteArray), .int .i64 0, .int .i64 0]) (t := 34) ?hr ?_; (case hd => rfl); (case hg => rfl); (case hr => first | (go_simp; done) | (go_simp; rfl)); intro gb109 hg w10 hbox hb; have n0_ := Aside0.mk (below_step (by repeat (first | (with_reducible first | exact HB.out | apply below_alloc | apply pw_below_drewN | apply below_drew1) | exact HB.out)) hb); have n1_ := Aside0.mk (hbox); have n2_ := Aside0.mk ((by rw [hg]; exact (below_size (by repeat (first | (with_reducible first | exact HB.out | apply below_alloc | apply pw_below_drewN | apply below_drew1) | exact HB.out))) : w.heap.size ≤ gb109)); have n3_ := Aside0.mk ((by rw [hg]; exact (below_size (by repeat (first | (with_reducible first | exact HB.out | apply below_alloc | apply pw_below_drewN | apply below_drew1) | exact HB.out))) : w.heap.size ≤ gb109)); clear HB; have HB := n0_; have BK109 := n1_; have GW109 := n2_; have GE109 := n3_; clear n0_ n1_ n2_ n3_; clear hb hbox hg; have hcz11_0 : w10.cell? ⟨gb109, 0, none⟩ = some (.int .i64 0) := (blk_cell BK109.out 0).trans rfl; have hcz11_1 : w10.cell? ⟨gb109, 1, none⟩ = some (.string (⟨#[]⟩ : ByteArray)) := (blk_cell BK109.out 1).trans rfl; have hcz11_2 : w10.cell? ⟨gb109, 2, none⟩ = some (.string (⟨#[]⟩ : ByteArray)) := (blk_cell BK109.out 2).trans rfl; have hcz11_3 : w10.cell? ⟨gb109, 3, none⟩ = some (.slice none 0 0) := (blk_cell BK109.out 3).trans rfl; have hcz11_4 : w10.cell? ⟨gb109, 4, none⟩ = some (.int .i64 0) := (blk_cell BK109.out 4).trans rfl; have hcz11_5 : w10.cell? ⟨gb109, 5, none⟩ = some (.int .i64 0) := (blk_cell BK109.out 5).trans rfl; have hcz11_6 : w10.cell? ⟨gb109, 6, none⟩ = some (.string (⟨#[]⟩ : ByteArray)) := (blk_cell BK109.out 6).trans rfl; have hcz11_7 : w10.cell? ⟨gb109, 7, none⟩ = some (.string (⟨#[]⟩ : ByteArray)) := (blk_cell BK109.out 7).trans rfl; have hcz11_8 : w10.cell? ⟨gb109, 8, none⟩ = some (.int .i64 0) := (blk_cell BK109.out 8).trans rfl; have hcz11_9 : w10.cell? ⟨gb109, 9, none⟩ = some (.int .i64 0) := (blk_cell BK109.out 9).trans rfl; have hfz11_0 := blk_frozen BK109.out 0; have hfz11_1 := blk_frozen BK109.out 1; have hfz11_2 := blk_frozen BK109.out 2; have hfz11_3 := blk_frozen BK109.out 3; have hfz11_4 := blk_frozen BK109.out 4; have hfz11_5 := blk_frozen BK109.out 5; have hfz11_6 := blk_frozen BK109.out 6; have hfz11_7 := blk_frozen BK109.out 7; have hfz11_8 := blk_frozen BK109.out 8; have hfz11_9 := blk_frozen BK109.out 9))
                go_ret
                exact ⟨by first | rfl | (simp [errW_none, errW_some] <;> rfl) | (simp [*, errW_none, errW_some] <;> rfl), by repeat (first | (with_reducible first | exact HB.out | apply below_alloc | apply pw_below_drewN | apply below_drew1 | refine below_set ?_ GE109.out) | exact HB.out)⟩
              · rw [if_neg c9] at H
                have c9b0 : decide (300 < (((rd_T34 l0 x5_1).f2).size : Int)) = false := decide_eq_false c9
                have c9b1 : decide (300 < ((rd_T34 l0 x5_1).f2).size) = false := decide_eq_false (by omega)
                clear c9
                by_cases c12 : (((rd_T34 l0 x5_1).f3).length : Int) > 3000
                · rw [if_pos c12] at H
                  have c12b0 : decide (3000 < (((rd_T34 l0 x5_1).f3).length : Int)) = true := decide_eq_true c12
                  have c12b1 : decide (3000 < ((rd_T34 l0 x5_1).f3).length) = true := decide_eq_true (by omega)
                  clear c12
                  obtain rfl := Option.some.inj H
                  have p108 : 0 ≤ (x5_1 : Int) := of_decide_eq_true (by first | (with_reducible assumption) | assumption)
                  have q108 : x5_1 < (l0.length : Int) := of_decide_eq_true (by first | (with_reducible assumption) | assumption)
                  obtain ⟨ad108, A108_3, c108_3, e108, hx108_0, hx108_1, hx108_2, hx108_3, hx108_4, hx108_5, hx108_6, hx108_7, hx108_8, hx108_9, hl108_3, hi108_3⟩ := at_T34 HR0.out x5_1 p108 q108
                  cases e108
                  replace hx108_0 := (HB.out.cell (World.block_lt_of_cell? w _ hx108_0)).trans hx108_0
                  replace hx108_1 := (HB.out.cell (World.block_lt_of_cell? w _ hx108_1)).trans hx108_1
                  replace hx108_2 := (HB.out.cell (World.block_lt_of_cell? w _ hx108_2)).trans hx108_2
                  replace hx108_3 := (HB.out.cell (World.block_lt_of_cell? w _ hx108_3)).trans hx108_3
                  replace hx108_4 := (HB.out.cell (World.block_lt_of_cell? w _ hx108_4)).trans hx108_4
                  replace hx108_5 := (HB.out.cell (World.block_lt_of_cell? w _ hx108_5)).trans hx108_5
                  replace hx108_6 := (HB.out.cell (World.block_lt_of_cell? w _ hx108_6)).trans hx108_6
                  replace hx108_7 := (HB.out.cell (World.block_lt_of_cell? w _ hx108_7)).trans hx108_7
                  replace hx108_8 := (HB.out.cell (World.block_lt_of_cell? w _ hx108_8)).trans hx108_8
                  replace hx108_9 := (HB.out.cell (World.block_lt_of_cell? w _ hx108_9)).trans hx108_9
                  have HR108_3 := Aside0.mk hi108_3
                  have HC108_3 := Aside0.mk hl108_3
                  clear hi108_3 hl108_3
                  replace p108 := eq_true p108
                  replace q108 := eq_true q108
                  go_wp2_with (first | ((with_reducible refine gate_dst (N := 6) rfl ?_); (try (refine gate_guard (by rfl) ?_; dsimp only)); refine box_event ?hg (N := 6) ?hd (cs := #[.int .i64 0, .string (⟨#[]⟩ : ByteArray), .string (⟨#[]⟩ : ByteArray), .slice none 0 0, .int .i64 0, .int .i64 0, .string (⟨#[]⟩ : ByteArray), .string (⟨#[]⟩ : ByteArray), .int .i64 0, .int .i64 0]) (t := 34) ?hr ?_; (case hd => rfl); (case hg => rfl); (case hr => first | (go_simp; done) | (go_simp; rfl)); intro gb109 hg w13 hbox hb; have n0_ := Aside0.mk (below_step (by repeat (first | (with_reducible first | exact HB.out | apply below_alloc | apply pw_below_drewN | apply below_drew1) | exact HB.out)) hb); have n1_ := Aside0.mk (hbox); have n2_ := Aside0.mk ((by rw [hg]; exact (below_size (by repeat (first | (with_reducible first | exact HB.out | apply below_alloc | apply pw_below_drewN | apply below_drew1) | exact HB.out))) : w.heap.size ≤ gb109)); have n3_ := Aside0.mk ((by rw [hg]; exact (below_size (by repeat (first | (with_reducible first | exact HB.out | apply below_alloc | apply pw_below_drewN | apply below_drew1) | exact HB.out))) : w.heap.size ≤ gb109)); clear HB; have HB := n0_; have BK109 := n1_; have GW109 := n2_; have GE109 := n3_; clear n0_ n1_ n2_ n3_; clear hb hbox hg; have hcz14_0 : w13.cell? ⟨gb109, 0, none⟩ = some (.int .i64 0) := (blk_cell BK109.out 0).trans rfl; have hcz14_1 : w13.cell? ⟨gb109, 1, none⟩ = some (.string (⟨#[]⟩ : ByteArray)) := (blk_cell BK109.out 1).trans rfl; have hcz14_2 : w13.cell? ⟨gb109, 2, none⟩ = some (.string (⟨#[]⟩ : ByteArray)) := (blk_cell BK109.out 2).trans rfl; have hcz14_3 : w13.cell? ⟨gb109, 3, none⟩ = some (.slice none 0 0) := (blk_cell BK109.out 3).trans rfl; have hcz14_4 : w13.cell? ⟨gb109, 4, none⟩ = some (.int .i64 0) := (blk_cell BK109.out 4).trans rfl; have hcz14_5 : w13.cell? ⟨gb109, 5, none⟩ = some (.int .i64 0) := (blk_cell BK109.out 5).trans rfl; have hcz14_6 : w13.cell? ⟨gb109, 6, none⟩ = some (.string (⟨#[]⟩ : ByteArray)) := (blk_cell BK109.out 6).trans rfl; have hcz14_7 : w13.cell? ⟨gb109, 7, none⟩ = some (.string (⟨#[]⟩ : ByteArray)) := (blk_cell BK109.out 7).trans rfl; have hcz14_8 : w13.cell? ⟨gb109, 8, none⟩ = some (.int .i64 0) := (blk_cell BK109.out 8).trans rfl; have hcz14_9 : w13.cell? ⟨gb109, 9, none⟩ = some (.int .i64 0) := (blk_cell BK109.out 9).trans rfl; have hfz14_0 := blk_frozen BK109.out 0; have hfz14_1 := blk_frozen BK109.out 1; have hfz14_2 := blk_frozen BK109.out 2; have hfz14_3 := blk_frozen BK109.out 3; have hfz14_4 := blk_frozen BK109.out 4; have hfz14_5 := blk_frozen BK109.out 5; have hfz14_6 := blk_frozen BK109.out 6; have hfz14_7 := blk_frozen BK109.out 7; have hfz14_8 := blk_frozen BK109.out 8; have hfz14_9 := blk_frozen BK109.out 9))
                  go_ret
                  exact ⟨by first | rfl | (simp [errW_none, errW_some] <;> rfl) | (simp [*, errW_none, errW_some] <;> rfl), by repeat (first | (with_reducible first | exact HB.out | apply below_alloc | apply pw_below_drewN | apply below_drew1 | refine below_set ?_ GE109.out) | exact HB.out)⟩
                · rw [if_neg c12] at H
                  have c12b0 : decide (3000 < (((rd_T34 l0 x5_1).f3).length : Int)) = false := decide_eq_false c12
                  have c12b1 : decide (3000 < ((rd_T34 l0 x5_1).f3).length) = false := decide_eq_false (by omega)
                  clear c12
                  by_cases c15 : (((rd_T34 l0 x5_1).f6.f0).size : Int) > 300
                  · rw [if_pos c15] at H
                    have c15b0 : decide (300 < (((rd_T34 l0 x5_1).f6.f0).size : Int)) = true := decide_eq_true c15
                    have c15b1 : decide (300 < ((rd_T34 l0 x5_1).f6.f0).size) = true := decide_eq_true (by omega)
                    clear c15
                    obtain rfl := Option.some.inj H
                    have p108 : 0 ≤ (x5_1 : Int) := of_decide_eq_true (by first | (with_reducible assumption) | assumption)
                    have q108 : x5_1 < (l0.length : Int) := of_decide_eq_true (by first | (with_reducible assumption) | assumption)
                    obtain ⟨ad108, A108_3, c108_3, e108, hx108_0, hx108_1, hx108_2, hx108_3, hx108_4, hx108_5, hx108_6, hx108_7, hx108_8, hx108_9, hl108_3, hi108_3⟩ := at_T34 HR0.out x5_1 p108 q108
                    cases e108
                    replace hx108_0 := (HB.out.cell (World.block_lt_of_cell? w _ hx108_0)).trans hx108_0
                    replace hx108_1 := (HB.out.cell (World.block_lt_of_cell? w _ hx108_1)).trans hx108_1
                    replace hx108_2 := (HB.out.cell (World.block_lt_of_cell? w _ hx108_2)).trans hx108_2
                    replace hx108_3 := (HB.out.cell (World.block_lt_of_cell? w _ hx108_3)).trans hx108_3
                    replace hx108_4 := (HB.out.cell (World.block_lt_of_cell? w _ hx108_4)).trans hx108_4
                    replace hx108_5 := (HB.out.cell (World.block_lt_of_cell? w _ hx108_5)).trans hx108_5
                    replace hx108_6 := (HB.out.cell (World.block_lt_of_cell? w _ hx108_6)).trans hx108_6
                    replace hx108_7 := (HB.out.cell (World.block_lt_of_cell? w _ hx108_7)).trans hx108_7
                    replace hx108_8 := (HB.out.cell (World.block_lt_of_cell? w _ hx108_8)).trans hx108_8
                    replace hx108_9 := (HB.out.cell (World.block_lt_of_cell? w _ hx108_9)).trans hx108_9
                    have HR108_3 := Aside0.mk hi108_3
                    have HC108_3 := Aside0.mk hl108_3
                    clear hi108_3 hl108_3
                    replace p108 := eq_true p108
                    replace q108 := eq_true q108
                    go_wp2_with (first | ((with_reducible refine gate_dst (N := 6) rfl ?_); (try (refine gate_guard (by rfl) ?_; dsimp only)); refine box_event ?hg (N := 6) ?hd (cs := #[.int .i64 0, .string (⟨#[]⟩ : ByteArray), .string (⟨#[]⟩ : ByteArray), .slice none 0 0, .int .i64 0, .int .i64 0, .string (⟨#[]⟩ : ByteArray), .string (⟨#[]⟩ : ByteArray), .int .i64 0, .int .i64 0]) (t := 34) ?hr ?_; (case hd => rfl); (case hg => rfl); (case hr => first | (go_simp; done) | (go_simp; rfl)); intro gb109 hg w16 hbox hb; have n0_ := Aside0.mk (below_step (by repeat (first | (with_reducible first | exact HB.out | apply below_alloc | apply pw_below_drewN | apply below_drew1) | exact HB.out)) hb); have n1_ := Aside0.mk (hbox); have n2_ := Aside0.mk ((by rw [hg]; exact (below_size (by repeat (first | (with_reducible first | exact HB.out | apply below_alloc | apply pw_below_drewN | apply below_drew1) | exact HB.out))) : w.heap.size ≤ gb109)); have n3_ := Aside0.mk ((by rw [hg]; exact (below_size (by repeat (first | (with_reducible first | exact HB.out | apply below_alloc | apply pw_below_drewN | apply below_drew1) | exact HB.out))) : w.heap.size ≤ gb109)); clear HB; have HB := n0_; have BK109 := n1_; have GW109 := n2_; have GE109 := n3_; clear n0_ n1_ n2_ n3_; clear hb hbox hg; have hcz17_0 : w16.cell? ⟨gb109, 0, none⟩ = some (.int .i64 0) := (blk_cell BK109.out 0).trans rfl; have hcz17_1 : w16.cell? ⟨gb109, 1, none⟩ = some (.string (⟨#[]⟩ : ByteArray)) := (blk_cell BK109.out 1).trans rfl; have hcz17_2 : w16.cell? ⟨gb109, 2, none⟩ = some (.string (⟨#[]⟩ : ByteArray)) := (blk_cell BK109.out 2).trans rfl; have hcz17_3 : w16.cell? ⟨gb109, 3, none⟩ = some (.slice none 0 0) := (blk_cell BK109.out 3).trans rfl; have hcz17_4 : w16.cell? ⟨gb109, 4, none⟩ = some (.int .i64 0) := (blk_cell BK109.out 4).trans rfl; have hcz17_5 : w16.cell? ⟨gb109, 5, none⟩ = some (.int .i64 0) := (blk_cell BK109.out 5).trans rfl; have hcz17_6 : w16.cell? ⟨gb109, 6, none⟩ = some (.string (⟨#[]⟩ : ByteArray)) := (blk_cell BK109.out 6).trans rfl; have hcz17_7 : w16.cell? ⟨gb109, 7, none⟩ = some (.string (⟨#[]⟩ : ByteArray)) := (blk_cell BK109.out 7).trans rfl; have hcz17_8 : w16.cell? ⟨gb109, 8, none⟩ = some (.int .i64 0) := (blk_cell BK109.out 8).trans rfl; have hcz17_9 : w16.cell? ⟨gb109, 9, none⟩ = some (.int .i64 0) := (blk_cell BK109.out 9).trans rfl; have hfz17_0 := blk_frozen BK109.out 0; have hfz17_1 := blk_frozen BK109.out 1; have hfz17_2 := blk_frozen BK109.out 2; have hfz17_3 := blk_frozen BK109.out 3; have hfz17_4 := blk_frozen BK109.out 4; have hfz17_5 := blk_frozen BK109.out 5; have hfz17_6 := blk_frozen BK109.out 6; have hfz17_7 := blk_frozen BK109.out 7; have hfz17_8 := blk_frozen BK109.out 8; have hfz17_9 := blk_frozen BK109.out 9))
                    go_ret
                    exact ⟨by first | rfl | (simp [errW_none, errW_some] <;> rfl) | (simp [*, errW_none, errW_some] <;> rfl), by repeat (first | (with_reducible first | exact HB.out | apply below_alloc | apply pw_below_drewN | apply below_drew1 | refine below_set ?_ GE109.out) | exact HB.out)⟩
                  · rw [if_neg c15] at H
                    have c15b0 : decide (300 < (((rd_T34 l0 x5_1).f6.f0).size : Int)) = false := decide_eq_false c15
                    have c15b1 : decide (300 < ((rd_T34 l0 x5_1).f6.f0).size) = false := decide_eq_false (by omega)
                    clear c15
                    by_cases c18 : (((rd_T34 l0 x5_1).f6.f1).size : Int) > 300
                    · rw [if_pos c18] at H
                      have c18b0 : decide (300 < (((rd_T34 l0 x5_1).f6.f1).size : Int)) = true := decide_eq_true c18
                      have c18b1 : decide (300 < ((rd_T34 l0 x5_1).f6.f1).size) = true := decide_eq_true (by omega)
                      clear c18
                      obtain rfl := Option.some.inj H
                      have p108 : 0 ≤ (x5_1 : Int) := of_decide_eq_true (by first | (with_reducible assumption) | assumption)
                      have q108 : x5_1 < (l0.length : Int) := of_decide_eq_true (by first | (with_reducible assumption) | assumption)
                      obtain ⟨ad108, A108_3, c108_3, e108, hx108_0, hx108_1, hx108_2, hx108_3, hx108_4, hx108_5, hx108_6, hx108_7, hx108_8, hx108_9, hl108_3, hi108_3⟩ := at_T34 HR0.out x5_1 p108 q108
                      cases e108
                      replace hx108_0 := (HB.out.cell (World.block_lt_of_cell? w _ hx108_0)).trans hx108_0
                      replace hx108_1 := (HB.out.cell (World.block_lt_of_cell? w _ hx108_1)).trans hx108_1
                      replace hx108_2 := (HB.out.cell (World.block_lt_of_cell? w _ hx108_2)).trans hx108_2
                      replace hx108_3 := (HB.out.cell (World.block_lt_of_cell? w _ hx108_3)).trans hx108_3
                      replace hx108_4 := (HB.out.cell (World.block_lt_of_cell? w _ hx108_4)).trans hx108_4
                      replace hx108_5 := (HB.out.cell (World.block_lt_of_cell? w _ hx108_5)).trans hx108_5
                      replace hx108_6 := (HB.out.cell (World.block_lt_of_cell? w _ hx108_6)).trans hx108_6
                      replace hx108_7 := (HB.out.cell (World.block_lt_of_cell? w _ hx108_7)).trans hx108_7
                      replace hx108_8 := (HB.out.cell (World.block_lt_of_cell? w _ hx108_8)).trans hx108_8
                      replace hx108_9 := (HB.out.cell (World.block_lt_of_cell? w _ hx108_9)).trans hx108_9
                      have HR108_3 := Aside0.mk hi108_3
                      have HC108_3 := Aside0.mk hl108_3
                      clear hi108_3 hl108_3
                      replace p108 := eq_true p108
                      replace q108 := eq_true q108
                      go_wp2_with (first | ((with_reducible refine gate_dst (N := 6) rfl ?_); (try (refine gate_guard (by rfl) ?_; dsimp only)); refine box_event ?hg (N := 6) ?hd (cs := #[.int .i64 0, .string (⟨#[]⟩ : ByteArray), .string (⟨#[]⟩ : ByteArray), .slice none 0 0, .int .i64 0, .int .i64 0, .string (⟨#[]⟩ : ByteArray), .string (⟨#[]⟩ : ByteArray), .int .i64 0, .int .i64 0]) (t := 34) ?hr ?_; (case hd => rfl); (case hg => rfl); (case hr => first | (go_simp; done) | (go_simp; rfl)); intro gb109 hg w19 hbox hb; have n0_ := Aside0.mk (below_step (by repeat (first | (with_reducible first | exact HB.out | apply below_alloc | apply pw_below_drewN | apply below_drew1) | exact HB.out)) hb); have n1_ := Aside0.mk (hbox); have n2_ := Aside0.mk ((by rw [hg]; exact (below_size (by repeat (first | (with_reducible first | exact HB.out | apply below_alloc | apply pw_below_drewN | apply below_drew1) | exact HB.out))) : w.heap.size ≤ gb109)); have n3_ := Aside0.mk ((by rw [hg]; exact (below_size (by repeat (first | (with_reducible first | exact HB.out | apply below_alloc | apply pw_below_drewN | apply below_drew1) | exact HB.out))) : w.heap.size ≤ gb109)); clear HB; have HB := n0_; have BK109 := n1_; have GW109 := n2_; have GE109 := n3_; clear n0_ n1_ n2_ n3_; clear hb hbox hg; have hcz20_0 : w19.cell? ⟨gb109, 0, none⟩ = some (.int .i64 0) := (blk_cell BK109.out 0).trans rfl; have hcz20_1 : w19.cell? ⟨gb109, 1, none⟩ = some (.string (⟨#[]⟩ : ByteArray)) := (blk_cell BK109.out 1).trans rfl; have hcz20_2 : w19.cell? ⟨gb109, 2, none⟩ = some (.string (⟨#[]⟩ : ByteArray)) := (blk_cell BK109.out 2).trans rfl; have hcz20_3 : w19.cell? ⟨gb109, 3, none⟩ = some (.slice none 0 0) := (blk_cell BK109.out 3).trans rfl; have hcz20_4 : w19.cell? ⟨gb109, 4, none⟩ = some (.int .i64 0) := (blk_cell BK109.out 4).trans rfl; have hcz20_5 : w19.cell? ⟨gb109, 5, none⟩ = some (.int .i64 0) := (blk_cell BK109.out 5).trans rfl; have hcz20_6 : w19.cell? ⟨gb109, 6, none⟩ = some (.string (⟨#[]⟩ : ByteArray)) := (blk_cell BK109.out 6).trans rfl; have hcz20_7 : w19.cell? ⟨gb109, 7, none⟩ = some (.string (⟨#[]⟩ : ByteArray)) := (blk_cell BK109.out 7).trans rfl; have hcz20_8 : w19.cell? ⟨gb109, 8, none⟩ = some (.int .i64 0) := (blk_cell BK109.out 8).trans rfl; have hcz20_9 : w19.cell? ⟨gb109, 9, none⟩ = some (.int .i64 0) := (blk_cell BK109.out 9).trans rfl; have hfz20_0 := blk_frozen BK109.out 0; have hfz20_1 := blk_frozen BK109.out 1; have hfz20_2 := blk_frozen BK109.out 2; have hfz20_3 := blk_frozen BK109.out 3; have hfz20_4 := blk_frozen BK109.out 4; have hfz20_5 := blk_frozen BK109.out 5; have hfz20_6 := blk_frozen BK109.out 6; have hfz20_7 := blk_frozen BK109.out 7; have hfz20_8 := blk_frozen BK109.out 8; have hfz20_9 := blk_frozen BK109.out 9))
                      go_ret
                      exact ⟨by first | rfl | (simp [errW_none, errW_some] <;> rfl) | (simp [*, errW_none, errW_some] <;> rfl), by repeat (first | (with_reducible first | exact HB.out | apply below_alloc | apply pw_below_drewN | apply below_drew1 | refine below_set ?_ GE109.out) | exact HB.out)⟩
                    · rw [if_neg c18] at H
                      have c18b0 : decide (300 < (((rd_T34 l0 x5_1).f6.f1).size : Int)) = false := decide_eq_false c18
                      have c18b1 : decide (300 < ((rd_T34 l0 x5_1).f6.f1).size) = false := decide_eq_false (by omega)
                      clear c18
                      have H' := Aside0.mk H
                      clear H
                      have p108 : 0 ≤ (x5_1 : Int) := of_decide_eq_true (by first | (with_reducible assumption) | assumption)
                      have q108 : x5_1 < (l0.length : Int) := of_decide_eq_true (by first | (with_reducible assumption) | assumption)
                      obtain ⟨ad108, A108_3, c108_3, e108, hx108_0, hx108_1, hx108_2, hx108_3, hx108_4, hx108_5, hx108_6, hx108_7, hx108_8, hx108_9, hl108_3, hi108_3⟩ := at_T34 HR0.out x5_1 p108 q108
                      cases e108
                      replace hx108_0 := (HB.out.cell (World.block_lt_of_cell? w _ hx108_0)).trans hx108_0
                      replace hx108_1 := (HB.out.cell (World.block_lt_of_cell? w _ hx108_1)).trans hx108_1
                      replace hx108_2 := (HB.out.cell (World.block_lt_of_cell? w _ hx108_2)).trans hx108_2
                      replace hx108_3 := (HB.out.cell (World.block_lt_of_cell? w _ hx108_3)).trans hx108_3
                      replace hx108_4 := (HB.out.cell (World.block_lt_of_cell? w _ hx108_4)).trans hx108_4
                      replace hx108_5 := (HB.out.cell (World.block_lt_of_cell? w _ hx108_5)).trans hx108_5
                      replace hx108_6 := (HB.out.cell (World.block_lt_of_cell? w _ hx108_6)).trans hx108_6
                      replace hx108_7 := (HB.out.cell (World.block_lt_of_cell? w _ hx108_7)).trans hx108_7
                      replace hx108_8 := (HB.out.cell (World.block_lt_of_cell? w _ hx108_8)).trans hx108_8
                      replace hx108_9 := (HB.out.cell (World.block_lt_of_cell? w _ hx108_9)).trans hx108_9
                      have HR108_3 := Aside0.mk hi108_3
                      have HC108_3 := Aside0.mk hl108_3
                      clear hi108_3 hl108_3
                      replace p108 := eq_true p108
                      replace q108 := eq_true q108
                      go_wp2_with (first | ((with_reducible refine gate_dst (N := 6) rfl ?_); (try (refine gate_guard (by rfl) ?_; dsimp only)); refine box_event ?hg (N := 6) ?hd (cs := #[.int .i64 0, .string (⟨#[]⟩ : ByteArray), .string (⟨#[]⟩ : ByteArray), .slice none 0 0, .int .i64 0, .int .i64 0, .string (⟨#[]⟩ : ByteArray), .string (⟨#[]⟩ : ByteArray), .int .i64 0, .int .i64 0]) (t := 34) ?hr ?_; (case hd => rfl); (case hg => rfl); (case hr => first | (go_simp; done) | (go_simp; rfl)); intro gb109 hg w21 hbox hb; have n0_ := Aside0.mk (below_step (by repeat (first | (with_reducible first | exact HB.out | apply below_alloc | apply pw_below_drewN | apply below_drew1) | exact HB.out)) hb); have n1_ := Aside0.mk (hbox); have n2_ := Aside0.mk ((by rw [hg]; exact (below_size (by repeat (first | (with_reducible first | exact HB.out | apply below_alloc | apply pw_below_drewN | apply below_drew1) | exact HB.out))) : w.heap.size ≤ gb109)); have n3_ := Aside0.mk ((by rw [hg]; exact (below_size (by repeat (first | (with_reducible first | exact HB.out | apply below_alloc | apply pw_below_drewN | apply below_drew1) | exact HB.out))) : w.heap.size ≤ gb109)); clear HB; have HB := n0_; have BK109 := n1_; have GW109 := n2_; have GE109 := n3_; clear n0_ n1_ n2_ n3_; clear hb hbox hg; have hcz22_0 : w21.cell? ⟨gb109, 0, none⟩ = some (.int .i64 0) := (blk_cell BK109.out 0).trans rfl; have hcz22_1 : w21.cell? ⟨gb109, 1, none⟩ = some (.string (⟨#[]⟩ : ByteArray)) := (blk_cell BK109.out 1).trans rfl; have hcz22_2 : w21.cell? ⟨gb109, 2, none⟩ = some (.string (⟨#[]⟩ : ByteArray)) := (blk_cell BK109.out 2).trans rfl; have hcz22_3 : w21.cell? ⟨gb109, 3, none⟩ = some (.slice none 0 0) := (blk_cell BK109.out 3).trans rfl; have hcz22_4 : w21.cell? ⟨gb109, 4, none⟩ = some (.int .i64 0) := (blk_cell BK109.out 4).trans rfl; have hcz22_5 : w21.cell? ⟨gb109, 5, none⟩ = some (.int .i64 0) := (blk_cell BK109.out 5).trans rfl; have hcz22_6 : w21.cell? ⟨gb109, 6, none⟩ = some (.string (⟨#[]⟩ : ByteArray)) := (blk_cell BK109.out 6).trans rfl; have hcz22_7 : w21.cell? ⟨gb109, 7, none⟩ = some (.string (⟨#[]⟩ : ByteArray)) := (blk_cell BK109.out 7).trans rfl; have hcz22_8 : w21.cell? ⟨gb109, 8, none⟩ = some (.int .i64 0) := (blk_cell BK109.out 8).trans rfl; have hcz22_9 : w21.cell? ⟨gb109, 9, none⟩ = some (.int .i64 0) := (blk_cell BK109.out 9).trans rfl; have hfz22_0 := blk_frozen BK109.out 0; have hfz22_1 := blk_frozen BK109.out 1; have hfz22_2 := blk_frozen BK109.out 2; have hfz22_3 := blk_frozen BK109.out 3; have hfz22_4 := blk_frozen BK109.out 4; have hfz22_5 := blk_frozen BK109.out 5; have hfz22_6 := blk_frozen BK109.out 6; have hfz22_7 := blk_frozen BK109.out 7; have hfz22_8 := blk_frozen BK109.out 8; have hfz22_9 := blk_frozen BK109.out 9))
                      go_roundg k1
                      case measure => have := HK1.out; omega
                      case rel => exact ⟨(wrap64 (x5_1 + 1)), (by first | rfl | (simp; done) | (simp [*]; done)), H', ⟨by have := HK1.out; omega⟩, ⟨by repeat (first | (with_reducible first | exact HB.out | apply below_alloc | apply pw_below_drewN | apply below_drew1 | refine below_set ?_ GE109.out) | exact HB.out)⟩⟩
          · rw [if_neg c5] at H
            exact absurd H (by simp)
        · rw [if_neg c4] at H
          have c4b0 : decide (x5_1 < (l0.length : Int)) = false := decide_eq_false c4
          clear c4
          obtain rfl := Option.some.inj H
          go_wp2
          go_ret
          exact ⟨by first | rfl | (simp [errW_none, errW_some] <;> rfl) | (simp [*, errW_none, errW_some] <;> rfl), by repeat (first | (with_reducible first | exact HB.out | apply below_alloc | apply pw_below_drewN | apply below_drew1) | exact HB.out)⟩

end Go.Proofs.YtjbjcfnbgcloiaaGreatDoor.PModelErrors

/- A life's choices as they lie; Room of the statements of layer 22. -/
namespace Go.Proofs.YtjbjcfnbgcloiaaGreatDoor
open Go.ChangeShapes Go.WideShapes Go.ChangeAt Go.RowKit Go.Deep Nam YtjbjcfnbgcloiaaGreatDoorW.PrintWords PModelErrors

structure Ch where
  d : Int
  bk : List UInt8
  ky : List UInt8
  dt : List UInt8
  n : Int
  a : Int
  pf : List UInt8
  fr : List UInt8
  fi : Int
  mo : Int
deriving DecidableEq

def chCells (x : Ch) (v : Value) : List Value := [.int .i64 x.d, .string (mkS x.bk), .string (mkS x.ky), v, .int .i64 x.n, .int .i64 x.a, .string (mkS x.pf), .string (mkS x.fr), .int .i64 x.fi, .int .i64 x.mo]
def kCh : Kd Ch := Kd.iso (Kd.pair (Kd.int .i64) (Kd.pair Kd.string (Kd.pair Kd.string (Kd.pair (Kd.slice 5 (Kd.int .u8)) (Kd.pair (Kd.int .i64) (Kd.pair (Kd.int .i64) (Kd.pair Kd.string (Kd.pair Kd.string (Kd.pair (Kd.int .i64) (Kd.int .i64)))))))))) (fun x : Ch => (x.d, mkS x.bk, mkS x.ky, byN x.dt, x.n, x.a, mkS x.pf, mkS x.fr, x.fi, x.mo))
abbrev Dt (W : World) (ok : Nat → Prop) (v : Value) (l : List UInt8) : Prop := Kd.V (Kd.int .u8) 5 W 0 ok v (byN l)
theorem kCh_open {w : World} {x : Ch} {cs : List Value} (h : kCh.K w x cs) : ∃ A c, cs = chCells x (.slice A (byN x.dt).length c) ∧ (byN x.dt).length ≤ c ∧ (Kd.int .u8).C w A (byN x.dt).length (byN x.dt) := by
  obtain ⟨_, _, rfl, rfl, ⟨_, _, rfl, rfl, ⟨_, _, rfl, rfl, ⟨_, _, rfl, ⟨A3, c3, rfl, l3, g3⟩, ⟨_, _, rfl, rfl, ⟨_, _, rfl, rfl, ⟨_, _, rfl, rfl, ⟨_, _, rfl, rfl, ⟨_, _, rfl, rfl, rfl⟩⟩⟩⟩⟩⟩⟩⟩⟩ := h
  exact ⟨A3, c3, rfl, l3, g3⟩
theorem kCh_mk (w : World) (x : Ch) {A : Option Addr} {c : Nat} (l3 : (byN x.dt).length ≤ c) (g3 : (Kd.int .u8).C w A (byN x.dt).length (byN x.dt)) : kCh.K w x (chCells x (.slice A (byN x.dt).length c)) :=
  ⟨[_], _, rfl, rfl, ⟨[_], _, rfl, rfl, ⟨[_], _, rfl, rfl, ⟨[_], _, rfl, ⟨A, c, rfl, l3, g3⟩, ⟨[_], _, rfl, rfl, ⟨[_], _, rfl, rfl, ⟨[_], _, rfl, rfl, ⟨[_], _, rfl, rfl, ⟨[_], [_], rfl, rfl, rfl⟩⟩⟩⟩⟩⟩⟩⟩⟩
theorem at_Ch {w : World} {A : Option Addr} {n : Nat} {xs : List Ch} (h : Kd.C kCh w A n xs) (k : Nat) (hk : k < xs.length) : ∃ ad A3 c3, A = some ad ∧ Dt w (fun _ => True) (.slice A3 (byN xs[k].dt).length c3) xs[k].dt ∧
    ∀ j u, (chCells xs[k] (.slice A3 (byN xs[k].dt).length c3))[j]? = some u → w.cell? (ad.add (k * 10 + j)) = some u := by
  have hn := h.1
  obtain ⟨ad, c, e, _, hK, hc0⟩ := Kd.C_get h xs[k] (k : Int) (by omega) (by omega)
  rw [List.getD_eq_getElem?_getD, Int.toNat_natCast, List.getElem?_eq_getElem hk, Option.getD_some] at hK
  obtain ⟨A3, c3, rfl, l3, g3⟩ := kCh_open hK
  refine ⟨ad, A3, c3, e, ⟨A3, c3, rfl, l3, fun W' hW => ?_⟩, fun j u hu => ?_⟩
  · exact Kd.Heap.C (Kd.heap_int .u8) (fun j hj => hW j trivial hj) g3
  · have := hc0 j u hu
    rwa [Int.toNat_natCast] at this

def toS (x : Ch) : S34 := ⟨x.d, mkS x.bk, mkS x.ky, byN x.dt, x.n, x.a, ⟨mkS x.pf, mkS x.fr, x.fi, x.mo⟩⟩
theorem C_toS {w : World} {A : Option Addr} {n : Nat} {l : List Ch} (h : Kd.C kCh w A n l) : Kd.C k34 w A n (l.map toS) := by
  obtain ⟨h1, h2, h3⟩ := h
  refine ⟨by rw [List.length_map]; exact h1, h2, fun hn => ?_⟩
  obtain ⟨ad, e, hc⟩ := h3 hn
  refine ⟨ad, e, fun j p hp => ?_⟩
  rw [List.getElem?_map] at hp
  cases hx : l[j]? with
  | none => rw [hx] at hp; cases hp
  | some x =>
    rw [hx] at hp
    simp only [Option.map_some, Option.some.injEq] at hp
    subst hp
    obtain ⟨c, hl, hK, hcell⟩ := hc j x hx
    refine ⟨c, hl, ?_, hcell⟩
    obtain ⟨A3, c3, rfl, l3, g3⟩ := kCh_open hK
    exact k34_mk w (toS x) l3 g3

def roomX (x : Ch) : Bool := decide (x.bk.length ≤ 300) && decide (x.ky.length ≤ 300) && decide (x.dt.length ≤ 3000) && decide (x.pf.length ≤ 300) && decide (x.fr.length ≤ 300)
def roomB (l : List Ch) (m : Nat) : Bool := decide (l.length ≤ m) && l.all roomX
theorem room_l0 (l : List Ch) (hl : l.length ≤ 1000000) : ∀ (k j : Nat), j ≤ l.length → l.length - j < k → strongboxlaw22_Room.l0 k (l.map toS) (j : Int) = some ((l.drop j).all roomX)
  | 0, j, _, h => by omega
  | k + 1, j, hj, h => by
    rw [strongboxlaw22_Room.l0, List.length_map]
    by_cases hlt : j < l.length
    · rw [if_pos (by omega), if_pos (by omega)]
      have hrd : rd_T34 (l.map toS) (j : Int) = toS l[j] := by
        unfold rd_T34
        rw [Int.toNat_natCast, List.getD_eq_getElem?_getD, List.getElem?_map, List.getElem?_eq_getElem hlt]
        rfl
      rw [hrd]
      have hw : wrap64 ((j : Int) + 1) = ((j + 1 : Nat) : Int) := by unfold wrap64; omega
      rw [hw, room_l0 l hl k (j + 1) (by omega) (by omega), List.drop_eq_getElem_cons hlt, List.all_cons]
      obtain ⟨x, hx⟩ : ∃ x, l[j] = x := ⟨_, rfl⟩
      rw [hx]
      unfold toS roomX
      simp only [mkS_size, byN_length]
      by_cases h1 : x.bk.length ≤ 300
      · rw [if_neg (by omega), decide_eq_true h1]
        by_cases h2 : x.ky.length ≤ 300
        · rw [if_neg (by omega), decide_eq_true h2]
          by_cases h3 : x.dt.length ≤ 3000
          · rw [if_neg (by omega), decide_eq_true h3]
            by_cases h4 : x.pf.length ≤ 300
            · rw [if_neg (by omega), decide_eq_true h4]
              by_cases h5 : x.fr.length ≤ 300
              · rw [if_neg (by omega), decide_eq_true h5]; simp
              · rw [if_pos (by omega), decide_eq_false h5]; simp
            · rw [if_pos (by omega), decide_eq_false h4]; simp
          · rw [if_pos (by omega), decide_eq_false h3]; simp
        · rw [if_pos (by omega), decide_eq_false h2]; simp
      · rw [if_pos (by omega), decide_eq_false h1]; simp
    · rw [if_neg (by omega), List.drop_eq_nil_of_le (by omega)]
      rfl
theorem room_is (l : List Ch) (m : Nat) (A : Option Addr) (c : Nat) (w : World) (hc : l.length ≤ c) (hm : m ≤ 1000000) (hC : Kd.C kCh w A l.length l) :
    Calls Tryz.prog 6 #[.slice A l.length c, .int .i64 (m : Int)] w fun e w' => e = .returned (.bool (roomB l m)) ∧ Below w.heap.size w w' := by
  have h := strongboxlaw22_Room.calls (l.length + 1) A c (l.map toS) (m : Int) (roomB l m) w (by rw [List.length_map]; exact C_toS hC) (by rw [List.length_map]; exact hc) (by
    unfold strongboxlaw22_Room.f roomB
    rw [List.length_map]
    by_cases h : l.length ≤ m
    · rw [if_neg (by omega), decide_eq_true h]
      have := room_l0 l (by omega) (l.length + 1) 0 (Nat.zero_le _) (by omega)
      rw [List.drop_zero] at this
      exact this
    · rw [if_pos (by omega), decide_eq_false h]; rfl)
  rw [List.length_map] at h
  exact h
theorem roomB_ok {l : List Ch} {m : Nat} (h : roomB l m = true) : l.length ≤ m ∧ ∀ x ∈ l, x.bk.length ≤ 300 ∧ x.ky.length ≤ 300 ∧ x.dt.length ≤ 3000 ∧ x.pf.length ≤ 300 ∧ x.fr.length ≤ 300 := by
  unfold roomB at h
  simp only [Bool.and_eq_true, decide_eq_true_eq, List.all_eq_true] at h
  refine ⟨h.1, fun x hx => ?_⟩
  have := h.2 x hx
  unfold roomX at this
  simp only [Bool.and_eq_true, decide_eq_true_eq] at this
  exact ⟨this.1.1.1.1, this.1.1.1.2, this.1.1.2, this.1.2, this.2⟩

structure Ch.Short (x : Ch) : Prop where
  bk : x.bk.length ≤ 300
  ky : x.ky.length ≤ 300
  dt : x.dt.length ≤ 3000
  pf : x.pf.length ≤ 300
  fr : x.fr.length ≤ 300
def ofNums (zs : List Int) : List UInt8 := zs.map fun z => UInt8.ofNat z.toNat
theorem byN_ofNums (zs : List Int) (h : ∀ z ∈ zs, 0 ≤ z ∧ z ≤ 255) : byN (ofNums zs) = zs := by
  unfold byN bytesOf ofNums
  rw [mkS_list, List.map_map]
  conv => rhs; rw [← List.map_id zs]
  apply List.map_congr_left
  intro z hz
  have := h z hz
  simp
  omega

instance : Inhabited Ch := ⟨⟨0, [], [], [], 0, 0, [], [], 0, 0⟩⟩
structure Ch.Num (x : Ch) : Prop where
  d : -9223372036854775808 ≤ x.d ∧ x.d ≤ 9223372036854775807
  n : -9223372036854775808 ≤ x.n ∧ x.n ≤ 9223372036854775807
  a : -9223372036854775808 ≤ x.a ∧ x.a ≤ 9223372036854775807
  fi : -9223372036854775808 ≤ x.fi ∧ x.fi ≤ 9223372036854775807
  mo : -9223372036854775808 ≤ x.mo ∧ x.mo ≤ 9223372036854775807

section
variable {H : Type} {enc : TypeId × Value → H}
set_option maxRecDepth 100000 in
theorem open_ch {w : World} {base : Nat} {spare : Nat → Bool} {held : Bool} {fuel : Nat} {cs : List Value} {x : DataW H × List MemPlace}
    (h : DataW.trod enc Tryz.prog w base spare held fuel 34 cs = some x) : ∃ c : Ch, kCh.K w c cs ∧ c.Num := by
  have c39 : Tryz.prog.cellsOf 34 = 10 := by kernel_rfl
  have c37 : Tryz.prog.cellsOf 32 = 4 := by kernel_rfl
  have c9 : Tryz.prog.cellsOf 9 = 1 := by kernel_rfl
  have c5 : Tryz.prog.cellsOf 30 = 1 := by kernel_rfl
  have cu : Tryz.prog.cellsOf 5 = 1 := by kernel_rfl
  have c3 : Tryz.prog.cellsOf 3 = 1 := by kernel_rfl
  obtain ⟨xs, n, _, _, hl, hxl, hf⟩ := DataW.trod_struct Tryz.underlying34 h
  rw [c39] at hl
  match cs, hl with
  | [v0, v1, v2, v3, v4, v5, v6, v7, v8, v9], _ =>
    have hxl : xs.length = 7 := hxl
    have k0 := hf 0 _ rfl
    have k1 := hf 1 _ rfl
    have k2 := hf 2 _ rfl
    have k3 := hf 3 _ rfl
    have k4 := hf 4 _ rfl
    have k5 := hf 5 _ rfl
    have k6 := hf 6 _ rfl
    rw [List.getElem?_eq_getElem (by omega)] at k0 k1 k2 k3 k4 k5 k6
    simp [c9, c5, c37, c3] at k0 k1 k2 k3 k4 k5 k6
    obtain ⟨i0, e0, _, w0⟩ := DataW.trod_int Tryz.underlying3 k0
    obtain ⟨s1, e1, _, _⟩ := DataW.trod_string Tryz.underlying9 k1
    obtain ⟨s2, e2, _, _⟩ := DataW.trod_string Tryz.underlying9 k2
    obtain ⟨i4, e4, _, w4⟩ := DataW.trod_int Tryz.underlying3 k4
    obtain ⟨i5, e5, _, w5⟩ := DataW.trod_int Tryz.underlying3 k5
    obtain ⟨ys, n', _, _, _, hyl, hg⟩ := DataW.trod_struct Tryz.underlying32 k6
    have hyl : ys.length = 4 := hyl
    have m0 := hg 0 _ rfl
    have m1 := hg 1 _ rfl
    have m2 := hg 2 _ rfl
    have m3 := hg 3 _ rfl
    rw [List.getElem?_eq_getElem (by omega)] at m0 m1 m2 m3
    simp [c9, c3] at m0 m1 m2 m3
    obtain ⟨s6, e6, _, _⟩ := DataW.trod_string Tryz.underlying9 m0
    obtain ⟨s7, e7, _, _⟩ := DataW.trod_string Tryz.underlying9 m1
    obtain ⟨i8, e8, _, w8⟩ := DataW.trod_int Tryz.underlying3 m2
    obtain ⟨i9, e9, _, w9⟩ := DataW.trod_int Tryz.underlying3 m3
    simp only [List.cons.injEq, and_true] at e0 e1 e2 e4 e5 e6 e7 e8 e9
    subst e0; subst e1; subst e2; subst e4; subst e5; subst e6; subst e7; subst e8; subst e9
    have hdt : ∃ (A : Option Addr) (zs : List Int) (c : Nat), v3 = .slice A zs.length c ∧ zs.length ≤ c ∧ (∀ z ∈ zs, 0 ≤ z ∧ z ≤ 255) ∧ (Kd.int .u8).C w A zs.length zs := by
      rcases open_ints Tryz.underlying30 Tryz.underlying5 cu k3 with ⟨hcs, _⟩ | ⟨a, len, cap, zs, hcs, _, hl, hm, hz, _, hcell, hwz⟩
      · simp only [List.cons.injEq, and_true] at hcs
        exact ⟨none, [], 0, hcs, Nat.le_refl _, (fun z hz => by cases hz), Kd.C_nil _ _⟩
      · simp only [List.cons.injEq, and_true] at hcs
        have hlz : len ≤ zs.length := by rw [hz]; split <;> omega
        have hlt : (zs.take len).length = len := by rw [List.length_take]; omega
        refine ⟨some a, zs.take len, cap, by rw [hlt]; exact hcs, by rw [hlt]; exact hl, fun z hz => wf_u8 (hwz z (List.mem_of_mem_take hz)), ?_⟩
        rw [hlt]
        unfold maxLen at hm
        refine Kd.C_of_reads (enc := Value.int .u8) (d := (0 : Int)) (h1 := fun _ => rfl) ⟨hlt, by omega, fun _ => ⟨a, rfl, fun j hj => ?_⟩⟩
        rw [hcell j (by omega), List.getD_eq_getElem?_getD, List.getD_eq_getElem?_getD, List.getElem?_take_of_lt hj]
    obtain ⟨A, zs, c, rfl, hc, hz, hC⟩ := hdt
    have hbz := byN_ofNums zs hz
    have key := kCh_mk w (⟨i0, s1.data.toList, s2.data.toList, ofNums zs, i4, i5, s6.data.toList, s7.data.toList, i8, i9⟩ : Ch) (A := A) (c := c) (by rw [hbz]; exact hc) (by rw [hbz]; exact hC)
    unfold chCells at key
    simp only [hbz, mkS_of] at key
    exact ⟨_, key, ⟨wf_i64 w0, wf_i64 w4, wf_i64 w5, wf_i64 w8, wf_i64 w9⟩⟩

set_option maxRecDepth 100000 in
theorem open_chs {w : World} {base : Nat} {r : Reach} {held : Bool} {v : Value} {d : DataW H} {ps : List MemPlace} (hval : Value.okWide Tryz.prog w r base 22 v)
    (hd : DataW.Trod enc Tryz.prog w 0 (fun _ => true) held 22 v d ps) : ∃ (l : List Ch) (A : Option Addr) (c : Nat), v = .slice A l.length c ∧ l.length ≤ c ∧ Kd.C kCh w A l.length l ∧ ∀ x ∈ l, x.Num := by
  have ht : Tryz.prog.underlying 22 = some (.slice 34) := Tryz.underlying22
  have c39 : Tryz.prog.cellsOf 34 = 10 := by kernel_rfl
  obtain ⟨a0, len0, cap0, rfl⟩ := okWide_slice ht hval
  obtain ⟨fuel, hf⟩ := hd
  rcases open_slice ht hf with ⟨h, _⟩ | ⟨a, len, cap, m, n, D, Pl, h, _, hl, hm, hmm, _, hx⟩
  · simp [Value.cells] at h
    obtain ⟨rfl, rfl, rfl⟩ := h
    exact ⟨[], none, 0, rfl, Nat.le_refl _, Kd.C_nil _ _, fun x hx => by cases hx⟩
  · simp [Value.cells] at h
    obtain ⟨rfl, rfl, rfl⟩ := h
    rw [if_pos rfl] at hmm
    obtain rfl : cap0 = m := hmm.symm
    have key : ∀ i, i < len0 → ∃ c : Ch, c.Num ∧ ∃ cs, cs.length = 10 ∧ kCh.K w c cs ∧ ∀ k u, cs[k]? = some u → w.cell? (a.add (i * 10 + k)) = some u := fun i hi => by
      obtain ⟨cs', h1, h2⟩ := hx i (by omega)
      rw [c39] at h1
      obtain ⟨c, hK, hN⟩ := open_ch h2
      obtain ⟨_, hl', hcell⟩ := World.cells?_some h1
      refine ⟨c, hN, cs', hl', hK, fun k u hu => ?_⟩
      have hk : k < 10 := by rw [← hl']; exact (List.getElem?_eq_some_iff.1 hu).1
      have := hcell k hk
      rw [hu, Go.Deep.add_add] at this
      exact this
    obtain ⟨E, hE⟩ := choose_lt (α := Ch) (p := fun i c => c.Num ∧ ∃ cs, cs.length = 10 ∧ kCh.K w c cs ∧ ∀ k u, cs[k]? = some u → w.cell? (a.add (i * 10 + k)) = some u) key
    refine ⟨(List.range len0).map E, some a, cap0, by simp, by simpa using hl, ?_, fun x hx => ?_⟩
    · unfold maxLen at hm
      refine ⟨by simp, by simp; omega, fun _ => ⟨a, rfl, fun j p hp => ?_⟩⟩
      rw [List.getElem?_map] at hp
      have hj : j < len0 := by
        by_cases h : j < len0
        · exact h
        · rw [List.getElem?_eq_none (by simp; omega)] at hp; cases hp
      rw [List.getElem?_range hj] at hp
      simp only [Option.map_some, Option.some.injEq] at hp
      subst hp
      exact (hE j hj).2
    · obtain ⟨j, hj, rfl⟩ := List.mem_map.1 hx
      exact (hE j (List.mem_range.1 hj)).1

end
theorem ch_short {l : List Ch} {m : Nat} (h : roomB l m = true) : ∀ x ∈ l, x.Short := fun x hx => by
  obtain ⟨h1, h2, h3, h4, h5⟩ := (roomB_ok h).2 x hx
  exact ⟨h1, h2, h3, h4, h5⟩
def HasC (w : World) (A : Option Addr) (l : List Ch) : Prop := ∀ w', Below w.heap.size w w' → Kd.C kCh w' A l.length l
theorem HasC.of {w : World} {A : Option Addr} {l : List Ch} (h : Kd.C kCh w A l.length l) : HasC w A l := fun _ hb => Kd.C_below h hb
def HasD (w : World) (v : Value) (l : List UInt8) : Prop := ∀ w', Below w.heap.size w w' → Dt w' (fun _ => True) v l
theorem HasD.of {w : World} {ok : Nat → Prop} {v : Value} {l : List UInt8} (h : Dt w ok v l) : HasD w v l := fun _ hb => Kd.V_mono (Kd.V_below h hb) (fun _ _ => trivial)
theorem HasD.below {w w' : World} {v : Value} {l : List UInt8} (h : HasD w v l) (hb : Below w.heap.size w w') : HasD w' v l := fun _ hb2 => h _ (hb.trans (hb2.mono hb.size))
theorem HasD.now {w : World} {v : Value} {l : List UInt8} (h : HasD w v l) : Dt w (fun _ => True) v l := h _ (Below.refl _ _)
end Go.Proofs.YtjbjcfnbgcloiaaGreatDoor

/- more of package model: a version more. -/
namespace Go.Proofs.YtjbjcfnbgcloiaaGreatDoor
open Go.RowKit Nam YtjbjcfnbgcloiaaGreatDoorW.PrintWords

theorem look1' {w : World} {g : Nat} {S : St} {n : Nat} {Q F : Nat → Prop} {mb : Nat} {D : DataW Unit} (h : Outer w g S n Q F mb D) {s : List UInt8} (hs : s.length ≤ maxLen) {ib : Nat} (hat : D.atKey (.string s) .nil = .lit (.int .i64 ib)) :
    (Instr.lookup 57 (.map (some mb)) (.string (mkS s)) false).run Tryz.prog w = .ok (.map (some ib)) w := by
  obtain ⟨v, ps, hrun, hv⟩ := h.o.lookup KS Tryz.underlying57 (zero63 w) (zd := .nil) (zp := []) rfl (key_str s hs)
  rw [hat] at hv
  rw [hrun, R1_one hv (show R1 (.map (some ib)) = some (.lit (.int .i64 ib), []) from rfl)]
theorem look1m {w : World} {n mb : Nat} {D : DataW Unit} (h : w.ownsMap Tryz.prog 9 R1 mb n D) {s : List UInt8} (hs : s.length ≤ maxLen) {ib : Nat} (hat : D.atKey (.string s) .nil = .lit (.int .i64 ib)) :
    (Instr.lookup 57 (.map (some mb)) (.string (mkS s)) false).run Tryz.prog w = .ok (.map (some ib)) w := by
  obtain ⟨v, ps, hrun, hv⟩ := h.lookup KS Tryz.underlying57 (zero63 w) (zd := .nil) (zp := []) rfl (key_str s hs)
  rw [hat] at hv
  rw [hrun, R1_one hv (show R1 (.map (some ib)) = some (.lit (.int .i64 ib), []) from rfl)]
theorem look2' {w : World} {b n : Nat} {D : DataW Unit} (h : w.ownsMap Tryz.prog 9 R2 b n D) {s : List UInt8} (hs : s.length ≤ maxLen) {v : Value} {ps : List MemPlace} (hv' : R2 v = some (D.atKey (.string s) .nil, ps)) :
    (Instr.lookup 63 (.map (some b)) (.string (mkS s)) false).run Tryz.prog w = .ok v w := by
  obtain ⟨u, ps', hrun, hv⟩ := h.lookup KS Tryz.underlying63 (zero77 w) (zd := .nil) (zp := []) rfl (key_str s hs)
  rw [hrun, R2_one hv hv']
theorem last_at {w : World} {F : Nat → Prop} {g c n : Nat} {l : List Kp} {y : Kp} (h : RowV w F (.slice (some ⟨g, 0, none⟩) n c) l) (hy : l.getLast? = some y) : w.cell? ⟨g, (l.length - 1) * 5, none⟩ = some (.int .i64 y.id) := by
  rw [List.getLast?_eq_getElem?] at hy
  obtain ⟨A, c', _, _, hcell⟩ := h.at_ (l.length - 1) hy
  exact hcell 0 _ rfl
theorem more_err {w w' : World} {g : Nat} {S : St} {n : Nat} {Q F Fx : Nat → Prop} {b k : List UInt8} {x : Kp} {err : Int} (h : moreE (S.V b k) x = err) (h0 : err ≠ 0) (hm : HasM w g S n Q F) (hb : Below w.heap.size w w') :
    MoreIs S n Q F Fx g b k x w (.returned (.tuple #[.agg #[.int .i64 0, .bool false, .int .i64 0, .int .u32 0], .int .i64 err])) w' := by
  unfold MoreIs St.more
  rw [h, if_neg h0, if_neg h0]
  exact ⟨rfl, ⟨F, (hm.below hb).mono (by omega), fun j hj => .inl hj⟩, Moved.of_below hb⟩

theorem belowA {w a : World} (h : Below w.heap.size w a) (o : Obj) : Below w.heap.size w (a.alloc o) := h.alloc h.size o
theorem more_fin {w w5 : World} {g n mb ib g3 cap3 : Nat} {S : St} {Q F Fx : Nat → Prop} {D D2 : DataW Unit} {b k : List UInt8} {x : Kp} {l : List Kp} {news : List Value} {A : Option Addr} {c : Nat} (hm : HasM w g S n Q F) (hB : b ∈ S.B) (hO : Outer w g S n Q F mb D)
    (hat : D.atKey (.string b) .nil = .lit (.int .i64 ib)) (hqi : Q ib) (hne : ib ≠ mb) (hin : w.ownsMap Tryz.prog 9 R2 ib n D2) (hv2 : ∀ s, ∃ v ps, R2 v = some (D2.atKey (.string s) .nil, ps) ∧ RowV w F v (S.V b s)) (hl : S.V b k = l) (hE : moreE (S.V b k) x = 0)
    (hxc : x.dt.length ≤ c) (hx : DatF w Fx A x.dt) (hfx : ∀ j, Fx j → IsC w j) (hr : Reps (KpF w F) 5 l news)
    (hown : w5.ownsMap Tryz.prog 9 R2 ib (n + 1) (D2.put (.string k) (.agg [.lit (.int .i64 g3), .lit (.int .i64 (l.length + 1 : Nat)), .lit (.int .i64 cap3)]))) (hmv : Moved (fun j => j = ib) w w5)
    (hrow : w5.ownsRow (w.heap.size + 2) 67 5 (.slice (some ⟨g3, 0, none⟩) (l.length + 1) cap3) (l.length + 1) (news ++ kpCells x (.slice A x.dt.length c))) :
    MoreIs S n Q F Fx g b k x w (.returned (.tuple #[.agg #[.int .i64 x.id, .bool x.mark, .int .i64 x.sz, .int .u32 x.sum], .int .i64 0])) (w5.setRow (w.heap.size + 1) #[.int .i64 x.id, .bool x.mark, .int .i64 x.sz, .int .u32 x.sum]) := by
  obtain ⟨w6, hw6⟩ : ∃ w6, w5.setRow (w.heap.size + 1) #[.int .i64 x.id, .bool x.mark, .int .i64 x.sz, .int .u32 x.sum] = w6 := ⟨_, rfl⟩
  have hmv6 := hmv.setRow (w.heap.size + 1) (by omega) #[.int .i64 x.id, .bool x.mark, .int .i64 x.sz, .int .u32 x.sum]
  rw [hw6] at hmv6
  have hib : ib < w.heap.size := isM_lt (hm.q ib hqi)
  have hck : FKept F w w6 := hmv6.cells (fun j hj => by subst hj; exact hm.q j hqi) hm.f
  have hcx : FKept Fx w w6 := hmv6.cells (fun j hj => by subst hj; exact hm.q j hqi) hfx
  have hg3 : w.heap.size + 2 ≤ g3 := own_base hrow g3 rfl
  have hrow6 : w6.ownsRow (w.heap.size + 2) 67 5 (.slice (some ⟨g3, 0, none⟩) (l.length + 1) cap3) (l.length + 1) (news ++ kpCells x (.slice A x.dt.length c)) := by
    rw [← hw6]
    exact own_move hrow (fun j hj => setRow_other _ _ _ _ (by simp [Value.ownBlock] at hj; omega))
  have hreps : Reps (KpF w6 (fun j => F j ∨ Fx j ∨ j = g3)) 5 (l ++ [x]) (news ++ kpCells x (.slice A x.dt.length c)) :=
    (reps_mono (reps_kept hr hck) (fun j hj => .inl hj)).snoc ⟨A, c, rfl, hxc, (hx.kept hcx).mono (fun j hj => .inr (.inl hj))⟩ rfl
  have hRV := rowV_of_own hrow6 hreps (by simp) (fun j hj => by simp [Value.ownBlock] at hj; exact .inr (.inr hj.symm))
  have hs := stored hm.q hm.f (F' := fun j => F j ∨ Fx j ∨ j = g3) (fun j hj => .inl hj) (fun j hj => by
      rcases hj with hj | hj | rfl
      · obtain ⟨a, b, c, e⟩ := hm.f j hj
        exact ⟨a, b, c, (hck j hj).trans e⟩
      · obtain ⟨a, b, c, e⟩ := hfx j hj
        exact ⟨a, b, c, (hcx j hj).trans e⟩
      · obtain ⟨cells, hc⟩ := own_typed hrow6 j rfl
        exact ⟨_, _, _, hc⟩) hm.nd hm.off hO hB hat hqi hne hin hv2 (v := .slice (some ⟨g3, 0, none⟩) (l.length + 1) cap3) rfl (ownsMap_kept hown (by rw [← hw6]; exact setRow_other _ _ _ _ (by omega))) hmv6 hRV
  unfold MoreIs St.more
  rw [hE, if_pos rfl, if_pos rfl, hl, hw6]
  exact ⟨rfl, ⟨_, hs.1, fun j hj => by rcases hj with hj | hj | rfl; exact .inl hj; exact .inr (.inl hj); exact .inr (.inr (by omega))⟩, hs.2⟩

set_option maxHeartbeats 1000000 in
set_option maxRecDepth 100000 in
theorem more_is (w : World) (g : Nat) (S : St) (n : Nat) (Q F Fx : Nat → Prop) (b k : List UInt8) (x : Kp) (A : Option Addr) (c : Nat) (hb : b.length ≤ 100000) (hk : k.length ≤ 100000) (hn : n ≤ 100000) (hm : HasM w g S n Q F) (hB : b ∈ S.B)
    (hxc : x.dt.length ≤ c) (hx : DatF w Fx A x.dt) (hfx : ∀ j, Fx j → IsC w j) :
    Calls Tryz.prog 51 #[.pointer (some ⟨g, 0, none⟩), .string (mkS b), .string (mkS k), .agg #[.int .i64 x.id, .bool x.mark, .int .i64 x.sz, .int .u32 x.sum, .slice A x.dt.length c]] w (MoreIs S n Q F Fx g b k x w) := by
  have HM := Lib.hid hm
  obtain ⟨mb, D, hO⟩ := hm.ex
  obtain ⟨ib, hat, hqi, hne, D2, hin, hv2⟩ := hO.at_ b hB
  obtain ⟨v, ps, hv, hrow⟩ := hv2 k
  obtain ⟨l, hl⟩ : ∃ l, S.V b k = l := ⟨_, rfl⟩
  rw [hl] at hrow
  obtain ⟨W2, hW2⟩ : ∃ W2, (w.alloc (.cells #[.int .i64 x.id, .bool x.mark, .int .i64 x.sz, .int .u32 x.sum, .slice A x.dt.length c] 67)).alloc (.cells #[.int .i64 0, .bool false, .int .i64 0, .int .u32 0] 38) = W2 := ⟨_, rfl⟩
  have hb2 : Below w.heap.size w W2 := by rw [← hW2]; exact ((Below.refl _ _).alloc (Nat.le_refl _) _).alloc (by simp) _
  have hbx : W2.heap[w.heap.size]? = some (.cells #[.int .i64 x.id, .bool x.mark, .int .i64 x.sz, .int .u32 x.sum, .slice A x.dt.length c] 67 (0, 0)) := by rw [← hW2]; exact (heap_alloc_old _ _ (by simp)).trans (heap_alloc_new w _)
  have hbv : W2.heap[w.heap.size + 1]? = some (.cells #[.int .i64 0, .bool false, .int .i64 0, .int .u32 0] 38 (0, 0)) := by
    rw [← hW2]
    have := heap_alloc_new (w.alloc (.cells #[.int .i64 x.id, .bool x.mark, .int .i64 x.sz, .int .u32 x.sum, .slice A x.dt.length c] 67)) (.cells #[.int .i64 0, .bool false, .int .i64 0, .int .u32 0] 38)
    simpa using this
  have hs2 : w.heap.size + 2 = W2.heap.size := by rw [← hW2]; simp
  have hO2 := hO.below hm.q hm.f hb2
  have hin2 : W2.ownsMap Tryz.prog 9 R2 ib n D2 := ownsMap_kept hin (hb2.block ib (isM_lt (hm.q ib hqi)))
  have hrow2 := hrow.kept (below_cells hb2 hm.f)
  have hrun1 := look1' hO2 (s := b) (by unfold maxLen; omega) hat
  have hrun2 := look2' hin2 (s := k) (by unfold maxLen; omega) hv
  have c0 := (blk_cell hO2.c 0).trans (rfl : _ = some (Value.map (some mb)))
  have x0 := (blk_cell hbx 0).trans (rfl : _ = some (Value.int .i64 x.id))
  have x1 := (blk_cell hbx 1).trans (rfl : _ = some (Value.bool x.mark))
  have x2 := (blk_cell hbx 2).trans (rfl : _ = some (Value.int .i64 x.sz))
  have x3 := (blk_cell hbx 3).trans (rfl : _ = some (Value.int .u32 x.sum))
  have x4 := (blk_cell hbx 4).trans (rfl : _ = some (Value.slice A x.dt.length c))
  have HBX := Lib.hid hbx
  have HBV := Lib.hid hbv
  have HB2 := Lib.hid hb2
  have HX := Lib.hid hx
  have HFX := Lib.hid hfx
  have HO := Lib.hid hO
  have HIN := Lib.hid hin
  have HV2 := Lib.hid hv2
  have HVK := Lib.hid hv
  have HAT := Lib.hid (And.intro hat (And.intro hqi hne))
  have HR2 := Lib.hid hrow2
  have HRW := Lib.hid hrow
  have HL := Lib.hid hl
  have HO2 := Lib.hid hO2
  have HIN2 := Lib.hid hin2
  obtain ⟨m, hmL⟩ : ∃ m, l.length = m := ⟨_, rfl⟩
  obtain ⟨A2, c2, hve, hlc⟩ := hrow2.slice
  rw [hmL] at hlc hve
  have HML := Lib.hid hmL
  clear hat hqi hne hin hv2 hv hrow hrow2 hl hb2 hbx hbv hO hO2 hin2 hm hx hfx hmL
  subst hve
  by_cases h64 : 64 ≤ m
  · have hR : Hid (moreE (S.V b k) x = 18) := by show _ = _; rw [HL.out]; unfold moreE; rw [if_pos (by rw [HML.out]; exact h64)]
    have hz : (64 : Int) ≤ (m : Int) := by omega
    clear h64
    go_enter Tryz.func51, Tryz.ntmps51
    go_upto_region 1 with (fail)
    clear hW2
    go_wp2_with (refine wpList_store_row rfl 38 (.tmp 8) (.tmp 23) rfl (w.heap.size + 1) #[.int .i64 0, .bool false, .int .i64 0, .int .u32 0] rfl rfl 38 _ HBV.out (by kernel_rfl) rfl (by simp [Value.oneCell']) ?_)
    refine bodyPost_ret (results_ct rfl _ _ (w.heap.size + 1) 38 #[.int .i64 0, .bool false, .int .i64 0, .int .u32 0] (0, 0) _ rfl (setRow_heap _ _ _ _ _ _ HBV.out) Tryz.underlying38 rfl (by kernel_rfl)) rfl ?_
    exact more_err hR.out (by decide) HM.out (below_setRow HB2.out (by omega) _)
  have hz : (m : Int) < (64 : Int) := by omega
  have hE : Hid (moreE (S.V b k) x = if x.id < 1 ∨ 2147483647 < x.id then 1 else match l.getLast? with
    | some y => if x.id ≤ y.id then 1 else 0
    | none => 0) := by show _ = _; rw [HL.out]; unfold moreE; rw [if_neg (by rw [HML.out]; exact h64)]; rfl
  clear h64
  by_cases h1 : x.id < 1
  · have hR : Hid (moreE (S.V b k) x = 1) := by show _ = _; rw [hE.out, if_pos (.inl h1)]
    have d1 : decide (x.id < 1) = true := decide_eq_true h1
    clear hE h1
    go_enter Tryz.func51, Tryz.ntmps51
    go_upto_region 1 with (fail)
    clear hW2
    go_wp2_with fail
    go_quiet (fail)
    go_wp2_with (refine wpList_store_row rfl 38 (.tmp 8) (.tmp 54) rfl (w.heap.size + 1) #[.int .i64 0, .bool false, .int .i64 0, .int .u32 0] rfl rfl 38 _ HBV.out (by kernel_rfl) rfl (by simp [Value.oneCell']) ?_)
    refine bodyPost_ret (results_ct rfl _ _ (w.heap.size + 1) 38 #[.int .i64 0, .bool false, .int .i64 0, .int .u32 0] (0, 0) _ rfl (setRow_heap _ _ _ _ _ _ HBV.out) Tryz.underlying38 rfl (by kernel_rfl)) rfl ?_
    exact more_err hR.out (by decide) HM.out (below_setRow (HB2.out.drewN nq) (by omega) _)
  have d1 : decide (x.id < 1) = false := decide_eq_false h1
  by_cases h2 : 2147483647 < x.id
  · have hR : Hid (moreE (S.V b k) x = 1) := by show _ = _; rw [hE.out, if_pos (.inr h2)]
    have d2 : decide (2147483647 < x.id) = true := decide_eq_true h2
    clear hE h1 h2
    go_enter Tryz.func51, Tryz.ntmps51
    go_upto_region 1 with (fail)
    clear hW2
    go_wp2_with fail
    go_quiet (fail)
    go_wp2_with (refine wpList_store_row rfl 38 (.tmp 8) (.tmp 54) rfl (w.heap.size + 1) #[.int .i64 0, .bool false, .int .i64 0, .int .u32 0] rfl rfl 38 _ HBV.out (by kernel_rfl) rfl (by simp [Value.oneCell']) ?_)
    refine bodyPost_ret (results_ct rfl _ _ (w.heap.size + 1) 38 #[.int .i64 0, .bool false, .int .i64 0, .int .u32 0] (0, 0) _ rfl (setRow_heap _ _ _ _ _ _ HBV.out) Tryz.underlying38 rfl (by kernel_rfl)) rfl ?_
    exact more_err hR.out (by decide) HM.out (below_setRow (HB2.out.drewN nq) (by omega) _)
  have d2 : decide (2147483647 < x.id) = false := decide_eq_false h2
  have hE2 : Hid (moreE (S.V b k) x = match l.getLast? with
    | some y => if x.id ≤ y.id then 1 else 0
    | none => 0) := by show _ = _; rw [hE.out, if_neg (by omega)]
  clear hE h1 h2
  by_cases hlast : ∃ y, l.getLast? = some y ∧ x.id ≤ y.id
  · obtain ⟨y, hy, hxy⟩ := hlast
    have hR : Hid (moreE (S.V b k) x = 1) := by show _ = _; rw [hE2.out, hy]; simp only []; rw [if_pos hxy]
    obtain ⟨m1, hm1⟩ : ∃ m1, m = m1 + 1 := ⟨m - 1, by
      have : l.length ≠ 0 := fun e => by
        have : l = [] := List.length_eq_zero_iff.1 e
        subst this
        cases hy
      have := HML.out
      omega⟩
    obtain ⟨g2, hA2⟩ : ∃ g2, A2 = some ⟨g2, 0, none⟩ := by
      obtain ⟨nw, h1, _⟩ := HR2.out
      rcases h1 with ⟨_, h0, _⟩ | ⟨g2, cc, hvv, _⟩
      · have : l = [] := List.length_eq_zero_iff.1 h0
        subst this
        cases hy
      · injection hvv with e _ _
        exact ⟨g2, e⟩
    subst hA2
    have y0 := last_at HR2.out hy
    rw [HML.out, show m - 1 = m1 by omega] at y0
    have wm : IntKind.i64.wrap ((m : Int) - 1) = (m1 : Int) := by rw [IntWalk.i64_in _ (by omega)]; omega
    have nn : (m1 : Int) < (m : Int) := by omega
    have n0 : (0 : Int) ≤ (m1 : Int) := by omega
    have hm0 : (0 : Int) < (m : Int) := by omega
    have hm0n : 0 < m := by omega
    have d3 : decide (x.id ≤ y.id) = true := decide_eq_true hxy
    clear hE2 hy hxy hm1
    go_enter Tryz.func51, Tryz.ntmps51
    go_upto_region 1 with (fail)
    clear hW2
    go_wp2_with fail
    go_quiet (fail)
    go_wp2_with (refine wpList_store_row rfl 38 (.tmp 8) (.tmp 54) rfl (w.heap.size + 1) #[.int .i64 0, .bool false, .int .i64 0, .int .u32 0] rfl rfl 38 _ HBV.out (by kernel_rfl) rfl (by simp [Value.oneCell']) ?_)
    refine bodyPost_ret (results_ct rfl _ _ (w.heap.size + 1) 38 #[.int .i64 0, .bool false, .int .i64 0, .int .u32 0] (0, 0) _ rfl (setRow_heap _ _ _ _ _ _ HBV.out) Tryz.underlying38 rfl (by kernel_rfl)) rfl ?_
    exact more_err hR.out (by decide) HM.out (below_setRow (HB2.out.drewN nq) (by omega) _)
  have hR : Hid (moreE (S.V b k) x = 0) := by
    show _ = _
    rw [hE2.out]
    cases hy : l.getLast? with
    | none => rfl
    | some y => simp only []; rw [if_neg (fun e => hlast ⟨y, hy, e⟩)]
  have HLA := Lib.hid hlast
  clear hE2 hlast
  have HBD : Hid (l.length ≤ 1000) := by show _ ≤ _; rw [HML.out]; omega
  have hmx : n < maxLen := by unfold maxLen; omega
  obtain ⟨i0, hi, hz0, hz1, hz2⟩ := info_parts infoKp
  have HI := Lib.hid (And.intro hi (And.intro hz0 (And.intro hz1 hz2)))
  clear hi hz0 hz1 hz2
  go_enter Tryz.func51, Tryz.ntmps51
  go_upto_region 1 with (fail)
  clear hW2
  go_upto_if 24 with (fail)
  go_cut [24] (fun v24 wx => ∃ nq, wx = W2.drewN nq ∧ v24 = .bool false)
  case first =>
    have hcs : (A2 = none ∧ m = 0 ∧ c2 = 0) ∨ ∃ g2, A2 = some ⟨g2, 0, none⟩ := by
      obtain ⟨nw, h1, _⟩ := HR2.out
      rcases h1 with ⟨h0, _, _⟩ | ⟨g2, cc, hvv, _⟩
      · injection h0 with e1 e2 e3
        exact .inl ⟨e1, e2, e3⟩
      · injection hvv with e _ _
        exact .inr ⟨g2, e⟩
    rcases hcs with ⟨rfl, rfl, rfl⟩ | ⟨g2, rfl⟩
    · have hmz : decide ((0 : Int) < 0) = false := by decide
      go_wp2_with fail
      go_quiet (fail)
      go_wp2_with fail
      go_meet
      case rel => exact ⟨nq, rfl, rfl⟩
    · by_cases hm0 : m = 0
      · subst hm0
        go_wp2_with fail
        go_quiet (fail)
        go_wp2_with fail
        go_meet
        case rel => exact ⟨nq, rfl, rfl⟩
      · obtain ⟨m1, hm1⟩ : ∃ m1, m = m1 + 1 := ⟨m - 1, by omega⟩
        obtain ⟨y, hy⟩ : ∃ y, l.getLast? = some y := by
          cases hl : l.getLast? with
          | some y => exact ⟨y, rfl⟩
          | none =>
            rw [List.getLast?_eq_none_iff] at hl
            have := HML.out
            rw [hl] at this
            exact absurd this.symm hm0
        have hxy : ¬ x.id ≤ y.id := fun e => HLA.out ⟨y, hy, e⟩
        have y0 := last_at HR2.out hy
        rw [HML.out, show m - 1 = m1 by omega] at y0
        have wm : IntKind.i64.wrap ((m : Int) - 1) = (m1 : Int) := by rw [IntWalk.i64_in _ (by omega)]; omega
        have nn : (m1 : Int) < (m : Int) := by omega
        have n0 : (0 : Int) ≤ (m1 : Int) := by omega
        have hm0i : (0 : Int) < (m : Int) := by omega
        have hm0n : 0 < m := by omega
        have d3 : decide (x.id ≤ y.id) = false := decide_eq_false hxy
        clear hy hxy hm1 hm0
        go_wp2_with fail
        go_quiet (fail)
        go_wp2_with fail
        go_meet
        case rel => exact ⟨nq, rfl, rfl⟩
  case rest =>
  obtain ⟨nq, hwc, rfl⟩ := hcut
  have hbc : Below W2.heap.size W2 wc := by rw [hwc]; exact (Below.refl _ _).drewN nq
  clear hwc
  have hq2 := (HM.out.below HB2.out).q
  have hf2 := (HM.out.below HB2.out).f
  have hOc := HO2.out.below hq2 hf2 hbc
  have hqc : ∀ k, Q k → IsM wc k := ((HM.out.below HB2.out).below hbc).q
  have HFc : Hid (∀ k, F k → IsC wc k) := ((HM.out.below HB2.out).below hbc).f
  have HOc := Lib.hid (And.intro hOc hqc)
  have HINc : Hid (wc.ownsMap Tryz.prog 9 R2 ib n D2) := ownsMap_kept HIN2.out (hbc.block ib (isM_lt (hq2 ib HAT.out.2.1)))
  have hibc : ib < wc.heap.size := isM_lt (hqc ib HAT.out.2.1)
  have HBXc := Lib.hid (blk_below HBX.out hbc)
  have HBVc := Lib.hid (blk_below HBV.out hbc)
  have hwcs : w.heap.size + 2 ≤ wc.heap.size := by have := hbc.size; omega
  have HBc : Hid (Below w.heap.size w wc) := HB2.out.trans (hbc.mono HB2.out.size)
  obtain ⟨news, hna, hrn⟩ := HRW.out
  have HRN := Lib.hid hrn
  have hnl : news.length = m * 5 := by rw [hrn.1, HML.out]
  rw [HML.out] at hna
  have HNA := Lib.hid hna
  clear hrn hna hq2 hf2 hOc hqc hbc
  have HSf : Hid (∀ V, Below wc.heap.size wc V → V.cell? ⟨g, 0, none⟩ = some (.map (some mb)) ∧ (Instr.lookup 57 (.map (some mb)) (.string (mkS b)) false).run Tryz.prog V = .ok (.map (some ib)) V ∧ V.cell? ⟨w.heap.size, 0, none⟩ = some (.int .i64 x.id) ∧ V.cell? ⟨w.heap.size, 1, none⟩ = some (.bool x.mark) ∧ V.cell? ⟨w.heap.size, 2, none⟩ = some (.int .i64 x.sz) ∧ V.cell? ⟨w.heap.size, 3, none⟩ = some (.int .u32 x.sum) ∧ V.cell? ⟨w.heap.size, 4, none⟩ = some (.slice A x.dt.length c)) := fun V hV => by
    have hO := HOc.out.1.below HOc.out.2 HFc.out hV
    have hbx := blk_below HBXc.out hV
    exact ⟨(blk_cell hO.c 0).trans rfl, look1' hO (by unfold maxLen; omega) HAT.out.1, (blk_cell hbx 0).trans rfl, (blk_cell hbx 1).trans rfl, (blk_cell hbx 2).trans rfl, (blk_cell hbx 3).trans rfl, (blk_cell hbx 4).trans rfl⟩
  have HCl : Hid (∀ V, Below wc.heap.size wc V → Calls Tryz.prog 21 #[.slice A2 m c2] V fun e w' => (∃ v', e = .returned v' ∧ Hid (w'.ownsRow wc.heap.size 67 5 v' m news)) ∧ Below wc.heap.size wc w' ∧ Hid (Below V.heap.size V w')) := fun V hV =>
    (kclone_at V F _ news m (by omega) hnl (reps_ones HRN.out) (HNA.out.kept ((below_cells HBc.out HM.out.f).trans (below_cells hV HFc.out)))).mono fun e w' ⟨⟨v', he, ho⟩, hb⟩ => ⟨⟨v', he, own_weaken ho hV.size⟩, hV.trans (hb.mono hV.size), hb⟩
  have HUp : Hid (∀ (W4 : World) (g3 cap3 : Nat), Below wc.heap.size wc W4 → ∃ w5, (Instr.mapUpdate 63 (.map (some ib)) (.string (mkS k)) (.slice (some ⟨g3, 0, none⟩) (m + 1) cap3)).run Tryz.prog W4 = .ok () w5 ∧ Hid (w5.ownsMap Tryz.prog 9 R2 ib (n + 1) (D2.put (.string k) (.agg [.lit (.int .i64 g3), .lit (.int .i64 (m + 1 : Nat)), .lit (.int .i64 cap3)]))) ∧ Hid (W4.grownBy w5 (some ib))) := fun W4 g3 cap3 h4 => by
    obtain ⟨w5, h1, h2, h3⟩ := (ownsMap_kept HINc.out (h4.block ib hibc)).update KS Tryz.underlying63 hmx (key_str k (by unfold maxLen; omega)) (show R2 (.slice (some ⟨g3, 0, none⟩) (m + 1) cap3) = some (.agg [.lit (.int .i64 g3), .lit (.int .i64 (m + 1 : Nat)), .lit (.int .i64 cap3)], []) from rfl)
    exact ⟨w5, h1, h2, h3⟩
  have HFi : Hid (∀ (W4 w5 : World) (g3 cap3 : Nat), Below wc.heap.size wc W4 → w5.ownsMap Tryz.prog 9 R2 ib (n + 1) (D2.put (.string k) (.agg [.lit (.int .i64 g3), .lit (.int .i64 (m + 1 : Nat)), .lit (.int .i64 cap3)])) → W4.grownBy w5 (some ib) → W4.ownsRow wc.heap.size 67 5 (.slice (some ⟨g3, 0, none⟩) (m + 1) cap3) (m + 1) (news ++ kpCells x (.slice A x.dt.length c)) →
      w5.heap[w.heap.size]? = some (.cells #[.int .i64 x.id, .bool x.mark, .int .i64 x.sz, .int .u32 x.sum, .slice A x.dt.length c] 67 (0, 0)) ∧ w5.heap[w.heap.size + 1]? = some (.cells #[.int .i64 0, .bool false, .int .i64 0, .int .u32 0] 38 (0, 0)) ∧
      MoreIs S n Q F Fx g b k x w (.returned (.tuple #[.agg #[.int .i64 x.id, .bool x.mark, .int .i64 x.sz, .int .u32 x.sum], .int .i64 0])) (w5.setRow (w.heap.size + 1) #[.int .i64 x.id, .bool x.mark, .int .i64 x.sz, .int .u32 x.sum])) := fun W4 w5 g3 cap3 h4 hown5 hg5 hrow4 => by
    have hib : ib < w.heap.size := isM_lt (HM.out.q ib HAT.out.2.1)
    have e1 : w5.heap[w.heap.size]? = wc.heap[w.heap.size]? := (hg5.block _ (by have := h4.size; omega) (by simp; omega)).trans (h4.block _ (by omega))
    have e2 : w5.heap[w.heap.size + 1]? = wc.heap[w.heap.size + 1]? := (hg5.block _ (by have := h4.size; omega) (by simp; omega)).trans (h4.block _ (by omega))
    refine ⟨e1.trans HBXc.out, e2.trans HBVc.out, ?_⟩
    have hmv : Moved (fun j => j = ib) w w5 := (Moved.of_below (HBc.out.trans (h4.mono HBc.out.size))).trans (Moved.of_grown hg5 (Q := fun j => j = ib) rfl) (fun i hi => .inl hi)
    have hlm := HML.out
    subst hlm
    have hg3 : wc.heap.size ≤ g3 := own_base hrow4 g3 rfl
    refine more_fin HM.out hB HO.out HAT.out.1 HAT.out.2.1 HAT.out.2.2 HIN.out HV2.out HL.out hR.out hxc HX.out HFX.out HRN.out hown5 hmv (own_weaken (own_other hrow4 hg5 (.inr ?_)) hwcs)
    simp only [Value.ownBlock]
    intro e
    injection e with e
    omega
  have HSm : Hid (∀ (W4 w5 : World), Below wc.heap.size wc W4 → W4.grownBy w5 (some ib) → w5.cell? ⟨g, 0, none⟩ = some (.map (some mb)) ∧ (Instr.lookup 57 (.map (some mb)) (.string (mkS b)) false).run Tryz.prog w5 = .ok (.map (some ib)) w5 ∧ w5.cell? ⟨w.heap.size, 0, none⟩ = some (.int .i64 x.id) ∧ w5.cell? ⟨w.heap.size, 1, none⟩ = some (.bool x.mark) ∧ w5.cell? ⟨w.heap.size, 2, none⟩ = some (.int .i64 x.sz) ∧ w5.cell? ⟨w.heap.size, 3, none⟩ = some (.int .u32 x.sum) ∧ w5.cell? ⟨w.heap.size, 4, none⟩ = some (.slice A x.dt.length c)) := fun W4 w5 h4 hg5 => by
    have hold : ∀ j, j < wc.heap.size → j ≠ ib → w5.heap[j]? = wc.heap[j]? := fun j hj hne => (hg5.block j (by have := h4.size; omega) (by simp; exact hne)).trans (h4.block j hj)
    have hib : ib < w.heap.size := isM_lt (HM.out.q ib HAT.out.2.1)
    have hO := HOc.out.1
    have hg : g ≠ ib := fun e => isC_not ⟨_, _, _, hO.c⟩ (HOc.out.2 g (by rw [e]; exact HAT.out.2.1))
    have hc := (hold g (isC_lt ⟨_, _, _, hO.c⟩) hg).trans hO.c
    have hbx := (hold w.heap.size (by omega) (by omega)).trans HBXc.out
    have hmo := ownsMap_kept hO.o (hold mb (isM_lt (HOc.out.2 mb hO.qm)) (fun e => HAT.out.2.2 e.symm))
    exact ⟨(blk_cell hc 0).trans rfl, look1m hmo (by unfold maxLen; omega) HAT.out.1, (blk_cell hbx 0).trans rfl, (blk_cell hbx 1).trans rfl, (blk_cell hbx 2).trans rfl, (blk_cell hbx 3).trans rfl, (blk_cell hbx 4).trans rfl⟩
  have hB0 : Below wc.heap.size wc wc.drew := (Below.refl _ _).drew
  have hBA : ∀ o, Below wc.heap.size wc (wc.alloc o).drew := fun o => ((Below.refl _ _).alloc (Nat.le_refl _) o).drew
  have HBA := Lib.hid hBA; clear hBA
  clear c0 x0 x1 x2 x3 x4 hrun1 hrun2
  go_wp2_with fail
  go_region_held_law (fun V => V.cell? ⟨g, 0, none⟩ = some (.map (some mb)) ∧ (Instr.lookup 57 (.map (some mb)) (.string (mkS b)) false).run Tryz.prog V = .ok (.map (some ib)) V ∧ V.cell? ⟨w.heap.size, 0, none⟩ = some (.int .i64 x.id) ∧ V.cell? ⟨w.heap.size, 1, none⟩ = some (.bool x.mark) ∧ V.cell? ⟨w.heap.size, 2, none⟩ = some (.int .i64 x.sz) ∧ V.cell? ⟨w.heap.size, 3, none⟩ = some (.int .u32 x.sum) ∧ V.cell? ⟨w.heap.size, 4, none⟩ = some (.slice A x.dt.length c))
    (first | (with_reducible exact (HSf.out _ (by with_reducible assumption))) | (exact HSf.out _ (belowA (by with_reducible assumption) _)) | (exact HSf.out _ (HBA.out _)) | (exact HSm.out _ _ (by with_reducible assumption) HG5.out) | go_keep)
    ((first
      | (go_at_call 21; refine (HCl.out _ (by with_reducible assumption)).mono ?_; rintro e w3 ⟨⟨v', rfl, HOW⟩, hb3, HBV3⟩)
      | (go_at_call 21; refine (HCl.out _ (HBA.out _)).mono ?_; rintro e w3 ⟨⟨v', rfl, HOW⟩, hb3, HBV3⟩)
      | (refine step_append_lies _ (by rfl) (.tmp 63) (.tmp 65) 64 (by rfl) wc.heap.size 67 i0 _ 5 56 Tryz.underlying64 HI.out.1 HI.out.2.1 HI.out.2.2.1 HI.out.2.2.2 rfl (by decide) v' m news (by rfl) (HOW.out.alloc _) ⟨w3.heap.size, 0, none⟩ 1 1 (kpCells x (.slice A x.dt.length c)) (by rfl) rfl (World.news_of_block (heap_alloc_new w3 _)) (by simp [kpCells, Value.oneCell']) (by decide) (by unfold maxLen; omega) (by omega) (hb3.alloc hb3.size _).size (w3.heap.size + 1) (by simp) ?_; intro g3 cap3 w4 hown4 hgr4 hat4 hlt4; have hb4 : Below wc.heap.size wc w4 := (hb3.alloc hb3.size _).grown hgr4 (hb3.alloc hb3.size _).size (fun j hj => own_base HOW.out j hj); obtain ⟨w5, hrun5, HOW5, HG5⟩ := HUp.out w4 g3 cap3 hb4; have HOW4 := Lib.hid hown4; clear hown4 hgr4 hat4 hlt4)
      | (refine step_append_lies _ (by rfl) (.tmp 63) (.tmp 65) 64 (by rfl) wc.heap.size 67 i0 _ 5 56 Tryz.underlying64 HI.out.1 HI.out.2.1 HI.out.2.2.1 HI.out.2.2.2 rfl (by decide) v' m news (by rfl) HOW.out ⟨wc.heap.size, 0, none⟩ 1 1 (kpCells x (.slice A x.dt.length c)) (by rfl) rfl (World.news_of_block (show w3.heap[wc.heap.size]? = some (.cells #[.int .i64 x.id, .bool x.mark, .int .i64 x.sz, .int .u32 x.sum, .slice A x.dt.length c] 67 (0, 0)) from blk_below (w := (wc.alloc _).drew) (blk_new wc _) HBV3.out)) (by simp [kpCells, Value.oneCell']) (by decide) (by unfold maxLen; omega) (by omega) hb3.size w3.heap.size rfl ?_; intro g3 cap3 w4 hown4 hgr4 hat4 hlt4; have hb4 : Below wc.heap.size wc w4 := hb3.grown hgr4 hb3.size (fun j hj => own_base HOW.out j hj); obtain ⟨w5, hrun5, HOW5, HG5⟩ := HUp.out w4 g3 cap3 hb4; have HOW4 := Lib.hid hown4; clear hown4 hgr4 hat4 hlt4)))
  all_goals
    obtain ⟨hbx5, hbv5, hfin⟩ := HFi.out _ _ _ _ hb4 HOW5.out HG5.out HOW4.out
    have z0 := (blk_cell hbx5 0).trans (rfl : _ = some (Value.int .i64 x.id))
    have z1 := (blk_cell hbx5 1).trans (rfl : _ = some (Value.bool x.mark))
    have z2 := (blk_cell hbx5 2).trans (rfl : _ = some (Value.int .i64 x.sz))
    have z3 := (blk_cell hbx5 3).trans (rfl : _ = some (Value.int .u32 x.sum))
    have HBV5 := Lib.hid hbv5
    have HFIN := Lib.hid hfin
    clear hbx5 hbv5 hfin hrun5 hb4 hb3 HUp HFi HSm HSf HCl HBA HOW5 HG5 HOW4 HOW HBV3 HNA HRN HBc HBXc HBVc HINc HOc HFc HI HBD HR2 HRW HVK HV2 HIN HIN2 HO2 HO HAT
    go_wp2_with (refine wpList_store_row rfl 38 (.tmp 8) (.tmp 68) rfl (w.heap.size + 1) #[.int .i64 x.id, .bool x.mark, .int .i64 x.sz, .int .u32 x.sum] rfl rfl 38 _ HBV5.out (by kernel_rfl) rfl (by simp [Value.oneCell']) ?_)
    refine bodyPost_ret (results_ct rfl _ _ (w.heap.size + 1) 38 #[.int .i64 x.id, .bool x.mark, .int .i64 x.sz, .int .u32 x.sum] (0, 0) _ rfl (setRow_heap _ _ _ _ _ _ HBV5.out) Tryz.underlying38 rfl (by kernel_rfl)) rfl ?_
    exact HFIN.out
end Go.Proofs.YtjbjcfnbgcloiaaGreatDoor

/- Put of package model. -/
namespace Go.Proofs.YtjbjcfnbgcloiaaGreatDoor
open Go.RowKit Nam YtjbjcfnbgcloiaaGreatDoorW.PrintWords

def kpOf (id : Int) (d : List UInt8) : Kp := ⟨id, false, d.length, sumC d, d⟩
def St.putE (S : St) (id : Int) (b k d : List UInt8) : Int := if namedB b k = false then 12 else if 65536 < d.length then 3 else if b ∉ S.B then 13 else moreE (S.V b k) (kpOf id d)
def St.doPut (S : St) (id : Int) (b k d : List UInt8) : St := if S.putE id b k d = 0 then S.put b k (S.V b k ++ [kpOf id d]) else S
def PutIs (S' : St) (n : Nat) (Q F : Nat → Prop) (g : Nat) (y : Kp) (err : Int) (w : World) (e : Ending) (w' : World) : Prop :=
  e = .returned (.tuple #[verV y, .int .i64 err]) ∧ (∃ F', HasM w' g S' (n + 1) Q F' ∧ ∀ j, F' j → F j ∨ w.heap.size ≤ j) ∧ Moved Q w w'
theorem put_same {S : St} {n : Nat} {Q F : Nat → Prop} {g : Nat} {err : Int} {w w' : World} (hm : HasM w g S n Q F) (hb : Below w.heap.size w w') :
    PutIs S n Q F g kp0 err w (.returned (.tuple #[.agg #[.int .i64 0, .bool false, .int .i64 0, .int .u32 0], .int .i64 err])) w' :=
  ⟨rfl, ⟨F, (hm.below hb).mono (by omega), fun j hj => .inl hj⟩, Moved.of_below hb⟩
theorem HasM.setRow {w : World} {g : Nat} {S : St} {n : Nat} {Q F : Nat → Prop} (h : HasM w g S n Q F) (r : Nat) (cs : Array Value) (hq : ¬ Q r) (hf : ¬ F r) : HasM (w.setRow r cs) g S n Q F :=
  h.kept (fun k hk => setRow_other _ _ _ _ (fun e => hf (by rw [← e]; exact hk))) (fun k hk => setRow_other _ _ _ _ (fun e => hq (by rw [← e]; exact hk)))

set_option maxHeartbeats 1000000 in
set_option maxRecDepth 100000 in
theorem put_is (w : World) (g : Nat) (S : St) (n : Nat) (Q F : Nat → Prop) (id : Int) (b k d : List UInt8) (A : Option Addr) (c : Nat) (hb : b.length ≤ 100000) (hk : k.length ≤ 100000) (hd : d.length ≤ 1000000) (hn : n ≤ 100000) (hm : HasM w g S n Q F)
    (hC : (Kd.int .u8).C w A d.length (byN d)) (hT : Tabs w) :
    Calls Tryz.prog 17 #[.pointer (some ⟨g, 0, none⟩), .int .i64 id, .string (mkS b), .string (mkS k), .slice A d.length c] w
      (PutIs (S.doPut id b k d) n Q F g (if S.putE id b k d = 0 then kpOf id d else kp0) (S.putE id b k d) w) := by
  have HM := Lib.hid hm
  obtain ⟨mb, D, hO⟩ := hm.ex
  obtain ⟨W1, hW1⟩ : ∃ W1, w.alloc (.cells #[.int .i64 0, .bool false, .int .i64 0, .int .u32 0] 38) = W1 := ⟨_, rfl⟩
  have hb1 : Below w.heap.size w W1 := by rw [← hW1]; exact (Below.refl _ _).alloc (Nat.le_refl _) _
  have hbv : W1.heap[w.heap.size]? = some (.cells #[.int .i64 0, .bool false, .int .i64 0, .int .u32 0] 38 (0, 0)) := by rw [← hW1]; exact heap_alloc_new w _
  have hs1 : w.heap.size + 1 = W1.heap.size := by rw [← hW1]; simp
  have hO1 := hO.below hm.q hm.f hb1
  have HO1 := Lib.hid hO1
  have HBV := Lib.hid hbv
  have HB1 := Lib.hid hb1
  have HC := Lib.hid hC
  obtain ⟨nm, hnm⟩ : ∃ nm, namedB b k = nm := ⟨_, rfl⟩
  have hna := named_is W1 g mb b k hb hk (hT.below hb1) hO1.c
  rw [hnm] at hna
  have HNA := Lib.hid hna
  have HNM := Lib.hid hnm
  clear hO hO1 hbv hb1 hC hna hnm hm hT
  obtain ⟨m, hmL⟩ : ∃ m, d.length = m := ⟨_, rfl⟩
  have HML := Lib.hid hmL
  cases nm with
  | false =>
    have hR : S.putE id b k d = 12 := by unfold St.putE; rw [if_pos HNM.out]
    have hS : S.doPut id b k d = S := by unfold St.doPut; rw [hR, if_neg (by decide)]
    rw [hS, hR, if_neg (by decide)]
    clear hR hS hmL
    go_enter Tryz.func17, Tryz.ntmps17
    go_upto_region 1 with (fail)
    clear hW1
    go_wp2_with fail
    refine HNA.out.mono ?_
    rintro e w2 ⟨rfl, hb2⟩
    have HBV2 := Lib.hid (blk_below HBV.out hb2)
    have HB2 := Lib.hid (HB1.out.trans (hb2.mono HB1.out.size))
    clear hb2
    simp only [Bool.false_eq_true, if_false]
    go_wp2_with (refine wpList_store_row rfl 38 (.tmp 10) (.tmp 19) rfl w.heap.size #[.int .i64 0, .bool false, .int .i64 0, .int .u32 0] rfl rfl 38 _ HBV2.out (by kernel_rfl) rfl (by simp [Value.oneCell']) ?_)
    refine bodyPost_ret (results_ct rfl _ _ w.heap.size 38 #[.int .i64 0, .bool false, .int .i64 0, .int .u32 0] (0, 0) _ rfl (setRow_heap _ _ _ _ _ _ HBV2.out) Tryz.underlying38 rfl (by kernel_rfl)) rfl ?_
    exact put_same HM.out (below_setRow HB2.out (Nat.le_refl _) _)
  | true =>
    have hE : S.putE id b k d = if 65536 < d.length then 3 else if b ∉ S.B then 13 else moreE (S.V b k) (kpOf id d) := by unfold St.putE; rw [if_neg (by rw [HNM.out]; simp)]
    by_cases h6 : 65536 < m
    · have hR : S.putE id b k d = 3 := by rw [hE, if_pos (by rw [hmL]; exact h6)]
      have hS : S.doPut id b k d = S := by unfold St.doPut; rw [hR, if_neg (by decide)]
      rw [hS, hR, if_neg (by decide), hmL]
      have d6 : decide ((65536 : Int) < (m : Int)) = true := decide_eq_true (by omega)
      clear hR hS hmL hE h6
      go_enter Tryz.func17, Tryz.ntmps17
      go_upto_region 1 with (fail)
      clear hW1
      go_wp2_with fail
      refine HNA.out.mono ?_
      rintro e w2 ⟨rfl, hb2⟩
      have HBV2 := Lib.hid (blk_below HBV.out hb2)
      have HB2 := Lib.hid (HB1.out.trans (hb2.mono HB1.out.size))
      clear hb2
      simp only [if_true]
      go_wp2_with (refine wpList_store_row rfl 38 (.tmp 10) (.tmp 24) rfl w.heap.size #[.int .i64 0, .bool false, .int .i64 0, .int .u32 0] rfl rfl 38 _ HBV2.out (by kernel_rfl) rfl (by simp [Value.oneCell']) ?_)
      refine bodyPost_ret (results_ct rfl _ _ w.heap.size 38 #[.int .i64 0, .bool false, .int .i64 0, .int .u32 0] (0, 0) _ rfl (setRow_heap _ _ _ _ _ _ HBV2.out) Tryz.underlying38 rfl (by kernel_rfl)) rfl ?_
      exact put_same HM.out (below_setRow HB2.out (Nat.le_refl _) _)
    · rw [if_neg (by rw [hmL]; exact h6)] at hE
      have d6 : decide ((65536 : Int) < (m : Int)) = false := decide_eq_false (by omega)
      have hqe := fun (w : World) (r : Option Nat) => run_eql_map_nil (P := Tryz.prog) w 63 _ _ r Tryz.underlying63
      clear h6
      by_cases hB : b ∈ S.B
      rotate_left
      · have hR : S.putE id b k d = 13 := by rw [hE, if_pos hB]
        have hS : S.doPut id b k d = S := by unfold St.doPut; rw [hR, if_neg (by decide)]
        rw [hS, hR, if_neg (by decide), hmL]
        have HNB := Lib.hid hB
        clear hR hS hmL hE hB
        go_enter Tryz.func17, Tryz.ntmps17
        go_upto_region 1 with (fail)
        clear hW1
        go_wp2_with fail
        refine HNA.out.mono ?_
        rintro e w2 ⟨rfl, hb2⟩
        have HBV2 := Lib.hid (blk_below HBV.out hb2)
        have HB2 := Lib.hid (HB1.out.trans (hb2.mono HB1.out.size))
        have hO2 := HO1.out.below (HM.out.below HB1.out).q (HM.out.below HB1.out).f hb2
        have c0 := (blk_cell hO2.c 0).trans (rfl : _ = some (Value.map (some mb)))
        rcases look1 hO2 b (by unfold maxLen; omega) with ⟨_, hrun⟩ | ⟨h, _⟩
        rotate_left
        · exact absurd h HNB.out
        clear hb2 hO2
        simp only [if_true]
        go_wp2_with (refine wpList_store_row rfl 38 (.tmp 10) (.tmp 32) rfl w.heap.size #[.int .i64 0, .bool false, .int .i64 0, .int .u32 0] rfl rfl 38 _ HBV2.out (by kernel_rfl) rfl (by simp [Value.oneCell']) ?_)
        refine bodyPost_ret (results_ct rfl _ _ w.heap.size 38 #[.int .i64 0, .bool false, .int .i64 0, .int .u32 0] (0, 0) _ rfl (setRow_heap _ _ _ _ _ _ HBV2.out) Tryz.underlying38 rfl (by kernel_rfl)) rfl ?_
        exact put_same HM.out (below_setRow HB2.out (Nat.le_refl _) _)
      · have hE2 : S.putE id b k d = moreE (S.V b k) (kpOf id d) := by rw [hE, if_neg (fun h => h hB)]
        have hS : S.doPut id b k d = S.more b k (kpOf id d) := by unfold St.doPut St.more; rw [hE2]
        rw [hS, hE2]
        have HMo : Hid (∀ W A' c' Fb Q F, HasM W g S n Q F → d.length ≤ c' → DatF W Fb A' d → (∀ j, Fb j → IsC W j) → Calls Tryz.prog 51 #[.pointer (some ⟨g, 0, none⟩), .string (mkS b), .string (mkS k), .agg #[.int .i64 id, .bool false, .int .i64 (m : Int), .int .u32 (sumC d), .slice A' m c']] W (MoreIs S n Q F Fb g b k (kpOf id d) W)) := fun W A' c' Fb Q F hm hc hx hf => by
          subst hmL
          exact more_is W g S n Q F Fb b k (kpOf id d) A' c' hb hk hn hm hB hc hx hf
        have HSu : Hid (∀ W, (Kd.int .u8).C W A d.length (byN d) → Calls Tryz.prog 52 #[.slice A m c] W fun e w' => e = .returned (.int .u32 (sumC d)) ∧ W = w') := fun W h => by
          subst hmL
          exact sum_is d A c W hd h
        have HCl : Hid (∀ W, (Kd.int .u8).C W A d.length (byN d) → Calls Tryz.prog 53 #[.slice A m c] W fun e w' => (∃ A' c', e = .returned (.slice A' m c') ∧ d.length ≤ c' ∧ ∃ Fb, DatF w' Fb A' d ∧ ∀ k, Fb k → IsC w' k ∧ W.heap.size ≤ k) ∧ Below W.heap.size W w') := fun W h => by
          subst hmL
          exact bclone_is W A c d hd h
        obtain ⟨er, her⟩ : ∃ er, moreE (S.V b k) (kpOf id d) = er := ⟨_, rfl⟩
        obtain ⟨y, hy⟩ : ∃ y, (if moreE (S.V b k) (kpOf id d) = 0 then kpOf id d else kp0) = y := ⟨_, rfl⟩
        rw [hy, her, hmL]
        have HE := Lib.hid (And.intro hy her)
        have HBB := Lib.hid hB
        clear hE hE2 hS hmL hy her hB
        go_enter Tryz.func17, Tryz.ntmps17
        go_upto_region 1 with (fail)
        clear hW1
        go_wp2_with fail
        refine HNA.out.mono ?_
        rintro e w2 ⟨rfl, hb2⟩
        have HBV2 := Lib.hid (blk_below HBV.out hb2)
        have HB2 := Lib.hid (HB1.out.trans (hb2.mono HB1.out.size))
        have hs2 : w.heap.size + 1 ≤ w2.heap.size := by have := hb2.size; omega
        have hO2 := HO1.out.below (HM.out.below HB1.out).q (HM.out.below HB1.out).f hb2
        have c0 := (blk_cell hO2.c 0).trans (rfl : _ = some (Value.map (some mb)))
        rcases look1 hO2 b (by unfold maxLen; omega) with ⟨h, _⟩ | ⟨_, ib, _, _, _, _, hrun⟩
        · exact absurd HBB.out h
        clear hb2 hO2
        simp only [if_true]
        go_wp2_with fail
        refine (HSu.out _ (Kd.C_below HC.out HB2.out)).mono ?_
        rintro e w' ⟨rfl, rfl⟩
        go_wp2_with fail
        refine (HCl.out _ (Kd.C_below HC.out HB2.out)).mono ?_
        rintro e w3 ⟨⟨A', c', rfl, hc', Fb, hdf, hfb⟩, hb3⟩
        have HBV3 := Lib.hid (blk_below HBV2.out hb3)
        have HB3 := Lib.hid (HB2.out.trans (hb3.mono HB2.out.size))
        have hs3 : w.heap.size + 1 ≤ w3.heap.size := by have := hb3.size; omega
        have HFB := Lib.hid hfb
        have HDF := Lib.hid hdf
        clear hb3 hfb hdf
        go_wp2_with fail
        refine (HMo.out _ _ _ Fb Q F (HM.out.below HB3.out) hc' HDF.out (fun j hj => (HFB.out j hj).1)).mono ?_
        rintro e w4 ⟨rfl, ⟨F4, hm4, hf4⟩, hmv⟩
        rw [HE.out.1, HE.out.2]
        have hr : w.heap.size < w3.heap.size := by omega
        have hq4 : ¬ Q w.heap.size := fun h => by have := isM_lt (HM.out.q _ h); omega
        have hbv4 := (hmv.block w.heap.size hr hq4).trans HBV3.out
        have HBV4 := Lib.hid hbv4
        have HFin := Lib.hid (And.intro hm4 (And.intro hf4 (And.intro hmv hq4)))
        clear hm4 hf4 hmv hbv4 hq4
        unfold verV
        go_wp2_with (refine wpList_store_row rfl 38 (.tmp 10) (.tmp 46) rfl w.heap.size #[.int .i64 y.id, .bool y.mark, .int .i64 y.sz, .int .u32 y.sum] rfl rfl 38 _ HBV4.out (by kernel_rfl) rfl (by simp [Value.oneCell']) ?_)
        refine bodyPost_ret (results_ct rfl _ _ w.heap.size 38 #[.int .i64 y.id, .bool y.mark, .int .i64 y.sz, .int .u32 y.sum] (0, 0) _ rfl (setRow_heap _ _ _ _ _ _ HBV4.out) Tryz.underlying38 rfl (by kernel_rfl)) rfl ?_
        have hF4 : ∀ j, F4 j → F j ∨ w.heap.size + 1 ≤ j := fun j hj => by
          rcases HFin.out.2.1 j hj with h | h | h
          · exact .inl h
          · exact .inr (by have := (HFB.out j h).2; omega)
          · exact .inr (by omega)
        refine ⟨rfl, ⟨F4, HFin.out.1.setRow _ _ HFin.out.2.2.2 (fun h => ?_), fun j hj => (hF4 j hj).imp (fun h => h) (fun h => by omega)⟩, ?_⟩
        · rcases hF4 _ h with h | h
          · have := isC_lt (HM.out.f _ h); omega
          · omega
        · exact ((Moved.of_below HB3.out).trans HFin.out.2.2.1 (fun i hi => .inl hi)).setRow _ (Nat.le_refl _) _
end Go.Proofs.YtjbjcfnbgcloiaaGreatDoor
