/- The document's Print: what the program's prints. -/
import Derived.Test.YtghllfihmmlcnaaDoorScrRT
import Derived.Deep.RegionHeld3
namespace Go.Proofs.YtghllfihmmlcnaaDoor
open Go.RowKit Nam YtghllfihmmlcnaaDoorW.PrintWords PScriptPrints

theorem rnumber_is (n : Int) (w : World) (h0 : -9223372036854775808 ≤ n) (h1 : n ≤ 9223372036854775807) :
    Calls Tryd.prog 23 #[.int .i64 n] w fun e w' => e = .returned (.string (mkS (Lib.itoa n))) ∧ Below w.heap.size w w' :=
  (strongboxref23_number.calls 31 n _ w (number_is n h0 h1 31 (by omega))).mono fun e w' ⟨he, hb⟩ => ⟨he, by first | exact hb | exact hb.below⟩

/-- What has been written after some choices, and whether it is too long. -/
def WroteR (hd : List UInt8) (l : List Ch) (bs : List UInt8) (lg : Bool) : Prop := bs.length ≤ 65536 ∧ (if lg = true then 65536 < (hd ++ bodyC l).length else bs = hd ++ bodyC l)

theorem cat_is {P : Program} (x y : ByteArray) (a b c : List UInt8) (hx : x = mkS a) (hy : y = mkS b) (hc : a ++ b = c) (hl : a.length + b.length ≤ 1000000) (V : World) : (Op.stringOp .add x y).run P V = .ok (.string (mkS c)) V := by
  subst hx; subst hy; subst hc
  rw [run_string_add_sum V _ _ (by rw [mkS_size, mkS_size]; omega), mkS_app]

set_option maxHeartbeats 6000000 in
set_option maxRecDepth 100000 in
theorem rprint_is (k m b o : Int) (l : List Ch) (A : Option Addr) (c : Nat) (w : World) (hh : ∀ n ∈ [k, m, b, o], -9223372036854775808 ≤ n ∧ n ≤ 9223372036854775807) (hl : l.length ≤ 1000) (hx : ∀ x ∈ l, x.Ok 20000) (hC : Kd.C kCh w A l.length l) :
    Calls Tryd.prog 10 #[.agg #[.int .i64 k, .int .i64 m, .int .i64 b], .int .i64 o, .slice A l.length c] w fun e w' => e = .returned (.tuple #[.string (mkS (printC [k, m, b, o] l).1), .int .i64 (printC [k, m, b, o] l).2]) ∧ Below w.heap.size w w' := by
  have HH := Lib.hid hh; clear hh
  have HX := Lib.hid hx; clear hx
  have HC := Lib.hid hC; clear hC
  have hrg : ∀ n ∈ [k, m, b, o], (Lib.itoa n).length ≤ 21 := fun n hn => Lib.itoa_length_le n (HH.out n hn).1 (HH.out n hn).2
  have hzk := hrg k (by simp)
  have hzm := hrg m (by simp)
  have hzb := hrg b (by simp)
  have hzo := hrg o (by simp)
  clear hrg
  obtain ⟨K1, hK1⟩ : ∃ K, ([97, 114, 114, 97, 121, 32] : List UInt8) ++ Lib.itoa k = K := ⟨_, rfl⟩
  obtain ⟨K2, hK2⟩ : ∃ K, K1 ++ ([32] : List UInt8) = K := ⟨_, rfl⟩
  obtain ⟨K3, hK3⟩ : ∃ K, K2 ++ Lib.itoa m = K := ⟨_, rfl⟩
  obtain ⟨K4, hK4⟩ : ∃ K, K3 ++ ([32] : List UInt8) = K := ⟨_, rfl⟩
  obtain ⟨K5, hK5⟩ : ∃ K, K4 ++ Lib.itoa b = K := ⟨_, rfl⟩
  obtain ⟨K6, hK6⟩ : ∃ K, K5 ++ ([32] : List UInt8) = K := ⟨_, rfl⟩
  obtain ⟨K7, hK7⟩ : ∃ K, K6 ++ Lib.itoa o = K := ⟨_, rfl⟩
  have l1 : K1.length ≤ 27 := by rw [← hK1]; simp; omega
  have l2 : K2.length ≤ 28 := by rw [← hK2]; simp; omega
  have l3 : K3.length ≤ 49 := by rw [← hK3]; simp; omega
  have l4 : K4.length ≤ 50 := by rw [← hK4]; simp; omega
  have l5 : K5.length ≤ 71 := by rw [← hK5]; simp; omega
  have l6 : K6.length ≤ 72 := by rw [← hK6]; simp; omega
  have l7 : K7.length ≤ 93 := by rw [← hK7]; simp; omega
  have hH8 : K7 ++ ([10] : List UInt8) = headC [k, m, b, o] := by
    rw [← hK7, ← hK6, ← hK5, ← hK4, ← hK3, ← hK2, ← hK1]
    unfold headC numsB
    simp
  have hhd : (headC [k, m, b, o]).length ≤ 94 := by rw [← hH8]; simp; omega
  have s1 : ∀ V, (Op.stringOp .add ⟨#[97, 114, 114, 97, 121, 32]⟩ (mkS (Lib.itoa k))).run Tryd.prog V = .ok (.string (mkS K1)) V := cat_is _ _ _ _ _ rfl rfl hK1 (by simp; omega)
  have s2 : ∀ V, (Op.stringOp .add (mkS K1) ⟨#[32]⟩).run Tryd.prog V = .ok (.string (mkS K2)) V := cat_is _ _ _ _ _ rfl rfl hK2 (by simp; omega)
  have s3 : ∀ V, (Op.stringOp .add (mkS K2) (mkS (Lib.itoa m))).run Tryd.prog V = .ok (.string (mkS K3)) V := cat_is _ _ _ _ _ rfl rfl hK3 (by omega)
  have s4 : ∀ V, (Op.stringOp .add (mkS K3) ⟨#[32]⟩).run Tryd.prog V = .ok (.string (mkS K4)) V := cat_is _ _ _ _ _ rfl rfl hK4 (by simp; omega)
  have s5 : ∀ V, (Op.stringOp .add (mkS K4) (mkS (Lib.itoa b))).run Tryd.prog V = .ok (.string (mkS K5)) V := cat_is _ _ _ _ _ rfl rfl hK5 (by omega)
  have s6 : ∀ V, (Op.stringOp .add (mkS K5) ⟨#[32]⟩).run Tryd.prog V = .ok (.string (mkS K6)) V := cat_is _ _ _ _ _ rfl rfl hK6 (by simp; omega)
  have s7 : ∀ V, (Op.stringOp .add (mkS K6) (mkS (Lib.itoa o))).run Tryd.prog V = .ok (.string (mkS K7)) V := cat_is _ _ _ _ _ rfl rfl hK7 (by omega)
  have s8 : ∀ V, (Op.stringOp .add (mkS K7) ⟨#[10]⟩).run Tryd.prog V = .ok (.string (mkS (headC [k, m, b, o]))) V := cat_is _ _ _ _ _ rfl rfl hH8 (by simp; omega)
  clear hK1 hK2 hK3 hK4 hK5 hK6 hK7 hH8 hzk hzm hzb hzo
  obtain ⟨w0, hw0⟩ : ∃ w0, w.alloc (.cells #[.int .i64 k, .int .i64 m, .int .i64 b] 26) = w0 := ⟨_, rfl⟩
  have hbw : Below w.heap.size w w0 := by rw [← hw0]; exact (Below.refl _ _).alloc (Nat.le_refl _) _
  have hk0 : w0.heap[w.heap.size]? = some (.cells #[.int .i64 k, .int .i64 m, .int .i64 b] 26 (0, 0)) := by rw [← hw0]; exact blk_new w _
  have HBW := Lib.hid hbw
  have HC0 : Hid (Kd.C kCh w0 A l.length l) := Kd.C_below HC.out hbw
  clear HC hbw
  have HNb : Hid (∀ n V, n ∈ [k, m, b, o] → Below w0.heap.size w0 V → Calls Tryd.prog 23 #[.int .i64 n] V fun e w' => e = .returned (.string (mkS (Lib.itoa n))) ∧ Below w0.heap.size w0 w') := fun n V hn hV =>
    (rnumber_is n V (HH.out n hn).1 (HH.out n hn).2).mono fun e w' ⟨he, hb⟩ => ⟨he, hV.trans (hb.mono hV.size)⟩
  have HSf : Hid (∀ V, Below w0.heap.size w0 V → V.cell? ⟨w.heap.size, 0, none⟩ = some (.int .i64 k) ∧ V.cell? ⟨w.heap.size, 1, none⟩ = some (.int .i64 m) ∧ V.cell? ⟨w.heap.size, 2, none⟩ = some (.int .i64 b)) := fun V hV =>
    ⟨(blk_cell (blk_below hk0 hV) 0).trans rfl, (blk_cell (blk_below hk0 hV) 1).trans rfl, (blk_cell (blk_below hk0 hV) 2).trans rfl⟩
  clear hk0
  have hB0 : Below w0.heap.size w0 w0.drew := (Below.refl _ _).drew
  have hB1 : Below w0.heap.size w0 w0 := Below.refl _ _
  obtain ⟨n, hn⟩ : ∃ n, l.length = n := ⟨_, rfl⟩
  rw [hn] at hl HC0 ⊢
  have HN := Lib.hid hn; clear hn
  go_enter Tryd.func10, Tryd.ntmps10
  go_wp2_with fail
  clear hw0
  go_region_held3 (fun V => V.cell? ⟨w.heap.size, 0, none⟩ = some (.int .i64 k) ∧ V.cell? ⟨w.heap.size, 1, none⟩ = some (.int .i64 m) ∧ V.cell? ⟨w.heap.size, 2, none⟩ = some (.int .i64 b))
    (first | (with_reducible exact (HSf.out _ (by with_reducible assumption))) | go_keep)
    (first
      | (go_at_call 23; refine (HNb.out _ _ (by simp) (by with_reducible assumption)).mono ?_; rintro e w' ⟨rfl, hbk⟩))
  rename_i hHeld
  clear hHeld
  have HBk := Lib.hid hbk
  clear s1 s2 s3 s4 s5 s6 s7 s8 l1 l2 l3 l4 l5 l6 l7 hbk HSf HNb hB0 hB1
  have hlong : decide ((2000 : Int) < (n : Int) + 1) = false := decide_eq_false (by omega)
  go_wp2_with fail
  go_loopw [8, 9, 10] (fun vo vg vi wr => ∃ (j : Nat) (bs : List UInt8) (lg : Bool), vi = .int .i64 j ∧ j ≤ n ∧ vo = .string (mkS bs) ∧ vg = .bool lg ∧ Hid (WroteR (headC [k, m, b, o]) (l.take j) bs lg) ∧ Hid ((l.take j).any (fun x => (textC x).isNone) = false) ∧ Hid (Below w0.heap.size w0 wr)) (fun _ _ vi _ => n - (intOf vi).toNat)
  case atStart => exact ⟨0, _, false, rfl, Nat.zero_le _, rfl, rfl, ⟨by omega, by simp [bodyC]⟩, rfl, HBk⟩
  case round =>
    obtain ⟨j, bs, lg, rfl, hj, rfl, rfl, HW, HA, HS⟩ := hrel
    by_cases hlt : j < n
    · have hltz : (j : Int) < (n : Int) := by omega
      have hlL : j < l.length := by rw [HN.out]; exact hlt
      obtain ⟨ad, A3, c3_, hA, hdt, hcell⟩ := at_Ch (Kd.C_below HC0.out HS.out) j hlL
      subst hA
      obtain ⟨x, hx⟩ : ∃ x, l[j] = x := ⟨_, rfl⟩
      rw [hx] at hdt hcell
      have hok := HX.out x (by rw [← hx]; exact List.getElem_mem _)
      have htk : l.take (j + 1) = l.take j ++ [x] := by rw [List.take_succ_eq_append_getElem hlL, hx]
      have c0 := hcell 0 _ rfl
      have cf : ∀ i u, (chCells x (.slice A3 (byN x.dt).length c3_))[i + 1]? = some u → wr.cell? ⟨(ad.add (j * 10)).block, (ad.add (j * 10)).off + (i + 1), none⟩ = some u := fun i u hu => by
        rw [← add_field _ _ (i + 1) (by omega)]; exact hcell (i + 1) u hu
      have c1 := cf 0 _ rfl
      have c2 := cf 1 _ rfl
      have c3 := cf 2 _ rfl
      have c4 := cf 3 _ rfl
      have c5 := cf 4 _ rfl
      have c6 := cf 5 _ rfl
      have c7 := cf 6 _ rfl
      have c8 := cf 7 _ rfl
      have c9 := cf 8 _ rfl
      rw [Nat.add_zero] at c0
      have HTK := Lib.hid htk; clear htk
      have hbsl : (mkS bs).size ≤ 65536 := by rw [mkS_size]; exact HW.out.1
      clear hcell cf hx hlL
      simp only [Nat.zero_add] at c1
      go_wp2_with fail
      refine (rtext_is x _ _ (hok.mono (by omega)) hdt).mono ?_
      rintro e w3 ⟨rfl, hb3⟩
      have HS3 : Hid (Below w0.heap.size w0 w3) := HS.out.trans (hb3.mono HS.out.size)
      clear hb3 c0 c1 c2 c3 c4 c5 c6 c7 c8 c9 hdt
      cases ht : textC x with
      | none =>
        have hR : Hid (printC [k, m, b, o] l = ([], 1)) := by
          show _ = _
          unfold printC
          rw [if_pos]
          rw [List.any_eq_true]
          exact ⟨x, List.mem_of_mem_take (show x ∈ l.take (j + 1) by rw [HTK.out]; simp), by rw [ht]; rfl⟩
        clear ht
        go_wp2_with fail
        go_ret2
        exact ⟨by rw [hR.out]; rfl, HBW.out.trans (HS3.out.mono HBW.out.size)⟩
      | some t =>
        have htl := textC_le x 20000 hok t ht
        have hzt : (mkS t).size ≤ 200130 := by rw [mkS_size]; omega
        have hA2 : Hid ((l.take (j + 1)).any (fun x => (textC x).isNone) = false) := by
          show _ = _
          rw [HTK.out, List.any_append, HA.out]
          simp [ht]
        have hWs : Hid (∀ bs' lg', (lg = true ∧ bs' = bs ∧ lg' = true) ∨ (lg = false ∧ 65536 < bs.length + t.length + 1 ∧ bs' = bs ∧ lg' = true) ∨ (lg = false ∧ bs.length + t.length + 1 ≤ 65536 ∧ bs' = bs ++ t ++ [10] ∧ lg' = false) → WroteR (headC [k, m, b, o]) (l.take (j + 1)) bs' lg') := by
          intro bs' lg' h
          have hw := HW.out
          unfold WroteR at hw ⊢
          rw [HTK.out, bodyC_snoc, ht, Option.getD_some, ← List.append_assoc]
          obtain ⟨hw1, hw2⟩ := hw
          rcases h with ⟨rfl, rfl, rfl⟩ | ⟨rfl, h1, rfl, rfl⟩ | ⟨rfl, h1, rfl, rfl⟩
          · simp only [if_true] at hw2 ⊢
            exact ⟨hw1, by rw [List.length_append]; omega⟩
          · simp only [Bool.false_eq_true, if_false] at hw2
            simp only [if_true]
            refine ⟨hw1, ?_⟩
            rw [← hw2]
            simp only [List.length_append, List.length_cons, List.length_nil]
            omega
          · simp only [Bool.false_eq_true, if_false] at hw2 ⊢
            refine ⟨by simp only [List.length_append, List.length_cons, List.length_nil]; omega, ?_⟩
            rw [← hw2, List.append_assoc]
        have hfin : Hid ((mkS bs ++ mkS t) ++ ⟨#[10]⟩ = mkS (bs ++ t ++ [10])) := by
          show _ = _
          rw [show (⟨#[10]⟩ : ByteArray) = mkS [10] from rfl, mkS_app, mkS_app]
        clear ht HA htl
        simp only [Option.getD_some, Option.isSome_some]
        cases lg with
        | true =>
          have HW2 := Lib.hid (hWs.out bs true (.inl ⟨rfl, rfl, rfl⟩))
          clear hWs
          go_wp2_with fail
          go_roundw
          case rel => exact ⟨j + 1, bs, true, by go_num, by omega, rfl, rfl, HW2, hA2, HS3⟩
          case measure => simp [intOf]; omega
        | false =>
          by_cases hlong2 : 65536 < bs.length + t.length + 1
          · have hl2 : decide ((65536 : Int) < ((mkS bs).size : Int) + ((mkS t).size : Int) + 1) = true := decide_eq_true (by rw [mkS_size, mkS_size]; omega)
            have hl3 : (65536 : Int) < ((mkS bs).size : Int) + ((mkS t).size : Int) + 1 := of_decide_eq_true hl2
            have HW2 := Lib.hid (hWs.out bs true (.inr (.inl ⟨rfl, hlong2, rfl, rfl⟩)))
            clear hWs hlong2
            go_wp2_with fail
            go_roundw
            case rel => exact ⟨j + 1, bs, true, by go_num, by omega, rfl, rfl, HW2, hA2, HS3⟩
            case measure => simp [intOf]; omega
          · have hl2 : decide ((65536 : Int) < ((mkS bs).size : Int) + ((mkS t).size : Int) + 1) = false := decide_eq_false (by rw [mkS_size, mkS_size]; omega)
            have hl3 : ((mkS bs).size : Int) + ((mkS t).size : Int) + 1 ≤ (65536 : Int) := by rw [mkS_size, mkS_size]; omega
            have HW2 := Lib.hid (hWs.out (bs ++ t ++ [10]) false (.inr (.inr ⟨rfl, by omega, rfl, rfl⟩)))
            clear hWs hlong2
            go_wp2_with fail
            rw [hfin.out]
            go_roundw
            case rel => exact ⟨j + 1, _, false, by go_num, by omega, rfl, rfl, HW2, hA2, HS3⟩
            case measure => simp [intOf]; omega
    · obtain rfl : j = n := by omega
      have hlL : l.take j = l := List.take_of_length_le (by rw [HN.out]; exact Nat.le_refl _)
      have hR : Hid (printC [k, m, b, o] l = if lg = true then ([], 3) else (bs, 0)) := by
        show _ = _
        have hw := HW.out
        have ha := HA.out
        rw [hlL] at hw ha
        unfold printC
        rw [ha, if_neg (by simp)]
        obtain ⟨hw1, hw2⟩ := hw
        cases lg with
        | true =>
          simp only [if_true] at hw2 ⊢
          rw [if_pos (.inl hw2)]
        | false =>
          simp only [Bool.false_eq_true, if_false] at hw2 ⊢
          rw [← hw2, if_neg (by rw [HN.out]; omega)]
      clear HW HA hj hlt hlL
      cases lg with
      | true =>
        go_wp2_with fail
        go_ret2
        exact ⟨by rw [hR.out]; rfl, HBW.out.trans (HS.out.mono HBW.out.size)⟩
      | false =>
        go_wp2_with fail
        go_ret2
        exact ⟨by rw [hR.out]; rfl, HBW.out.trans (HS.out.mono HBW.out.size)⟩
end Go.Proofs.YtghllfihmmlcnaaDoor
