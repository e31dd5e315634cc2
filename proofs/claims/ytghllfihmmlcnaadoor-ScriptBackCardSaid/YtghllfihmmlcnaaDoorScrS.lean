/- The statements' rows of choices: how many, how long; are two the same? -/
import Derived.Test.YtghllfihmmlcnaaDoorScrZ
import Derived.Deep.RegionHeld3
namespace Go.Proofs.YtghllfihmmlcnaaDoor
open Go.RowKit Nam YtghllfihmmlcnaaDoorW.PrintWords PScriptPrints

/-- A choice as the printed texts have it. -/
def toS (x : Ch) : S39 := ⟨x.d, mkS x.bk, mkS x.ky, byN x.dt, x.n, x.a, ⟨mkS x.pf, mkS x.fr, x.fi, x.mo⟩⟩
theorem C_toS {w : World} {A : Option Addr} {n : Nat} {l : List Ch} (h : Kd.C kCh w A n l) : Kd.C k39 w A n (l.map toS) := by
  obtain ⟨h1, h2, h3⟩ := h
  refine ⟨by rw [List.length_map]; exact h1, h2, fun hn => ?_⟩
  obtain ⟨ad, e, hc⟩ := h3 hn
  refine ⟨ad, e, fun j p hp => ?_⟩
  rw [List.getElem?_map] at hp
  cases hx : l[j]? with
  | none => rw [hx] at hp; cases hp
  | some x =>
    rw [hx] at hp
    simp only [Option.map_some, Option.some.injEq] at hp
    subst hp
    obtain ⟨c, hl, hK, hcell⟩ := hc j x hx
    refine ⟨c, hl, ?_, hcell⟩
    obtain ⟨A3, c3, rfl, l3, g3⟩ := kCh_open hK
    exact k39_mk w (toS x) l3 g3

/-- Few choices, short texts. -/
def roomX (x : Ch) : Bool := decide (x.bk.length ≤ 300) && decide (x.ky.length ≤ 300) && decide (x.dt.length ≤ 3000) && decide (x.pf.length ≤ 300) && decide (x.fr.length ≤ 300)
def roomB (l : List Ch) (m : Nat) : Bool := decide (l.length ≤ m) && l.all roomX
theorem room_l0 (l : List Ch) (hl : l.length ≤ 1000000) : ∀ (k j : Nat), j ≤ l.length → l.length - j < k → strongboxlaw22_Room.l0 k (l.map toS) (j : Int) = some ((l.drop j).all roomX)
  | 0, j, _, h => by omega
  | k + 1, j, hj, h => by
    rw [strongboxlaw22_Room.l0, List.length_map]
    by_cases hlt : j < l.length
    · rw [if_pos (by omega), if_pos (by omega)]
      have hrd : rd_T39 (l.map toS) (j : Int) = toS l[j] := by
        unfold rd_T39
        rw [Int.toNat_natCast, List.getD_eq_getElem?_getD, List.getElem?_map, List.getElem?_eq_getElem hlt]
        rfl
      rw [hrd]
      have hw : wrap64 ((j : Int) + 1) = ((j + 1 : Nat) : Int) := by unfold wrap64; omega
      rw [hw, room_l0 l hl k (j + 1) (by omega) (by omega), List.drop_eq_getElem_cons hlt, List.all_cons]
      obtain ⟨x, hx⟩ : ∃ x, l[j] = x := ⟨_, rfl⟩
      rw [hx]
      unfold toS roomX
      simp only [mkS_size, byN_length]
      by_cases h1 : x.bk.length ≤ 300
      · rw [if_neg (by omega), decide_eq_true h1]
        by_cases h2 : x.ky.length ≤ 300
        · rw [if_neg (by omega), decide_eq_true h2]
          by_cases h3 : x.dt.length ≤ 3000
          · rw [if_neg (by omega), decide_eq_true h3]
            by_cases h4 : x.pf.length ≤ 300
            · rw [if_neg (by omega), decide_eq_true h4]
              by_cases h5 : x.fr.length ≤ 300
              · rw [if_neg (by omega), decide_eq_true h5]; simp
              · rw [if_pos (by omega), decide_eq_false h5]; simp
            · rw [if_pos (by omega), decide_eq_false h4]; simp
          · rw [if_pos (by omega), decide_eq_false h3]; simp
        · rw [if_pos (by omega), decide_eq_false h2]; simp
      · rw [if_pos (by omega), decide_eq_false h1]; simp
    · rw [if_neg (by omega), List.drop_eq_nil_of_le (by omega)]
      rfl
theorem room_is (l : List Ch) (m : Nat) (A : Option Addr) (c : Nat) (w : World) (hc : l.length ≤ c) (hm : m ≤ 1000000) (hC : Kd.C kCh w A l.length l) :
    Calls Tryd.prog 9 #[.slice A l.length c, .int .i64 (m : Int)] w fun e w' => e = .returned (.bool (roomB l m)) ∧ Below w.heap.size w w' := by
  have h := strongboxlaw22_Room.calls (l.length + 1) A c (l.map toS) (m : Int) (roomB l m) w (by rw [List.length_map]; exact C_toS hC) (by rw [List.length_map]; exact hc) (by
    unfold strongboxlaw22_Room.f roomB
    rw [List.length_map]
    by_cases h : l.length ≤ m
    · rw [if_neg (by omega), decide_eq_true h]
      have := room_l0 l (by omega) (l.length + 1) 0 (Nat.zero_le _) (by omega)
      rw [List.drop_zero] at this
      exact this
    · rw [if_pos (by omega), decide_eq_false h]; rfl)
  rw [List.length_map] at h
  exact h
theorem roomB_ok {l : List Ch} {m : Nat} (h : roomB l m = true) : l.length ≤ m ∧ ∀ x ∈ l, x.bk.length ≤ 300 ∧ x.ky.length ≤ 300 ∧ x.dt.length ≤ 3000 ∧ x.pf.length ≤ 300 ∧ x.fr.length ≤ 300 := by
  unfold roomB at h
  simp only [Bool.and_eq_true, decide_eq_true_eq, List.all_eq_true] at h
  refine ⟨h.1, fun x hx => ?_⟩
  have := h.2 x hx
  unfold roomX at this
  simp only [Bool.and_eq_true, decide_eq_true_eq] at this
  exact ⟨this.1.1.1.1, this.1.1.1.2, this.1.1.2, this.1.2, this.2⟩

theorem mkS_toList (l : List UInt8) : (mkS l).toList = l := by rw [ByteArray.toList_eq]; rfl
theorem same_is (x y : Ch) (v u : Value) (w : World) (hv : Dt w (fun _ => True) v x.dt) (hu : Dt w (fun _ => True) u y.dt) :
    Calls Tryd.prog 15 #[.agg (chCells x v).toArray, .agg (chCells y u).toArray] w fun e w' => e = .returned (.bool (decide (x = y))) ∧ Below w.heap.size w w' := by
  obtain ⟨A, c, rfl, l1, f1⟩ := hv
  obtain ⟨B, d, rfl, l2, f2⟩ := hu
  refine strongboxref23_SameChoice.calls x.d (mkS x.bk) (mkS x.ky) A c (byN x.dt) x.n x.a (mkS x.pf) (mkS x.fr) x.fi x.mo y.d (mkS y.bk) (mkS y.ky) B d (byN y.dt) y.n y.a (mkS y.pf) (mkS y.fr) y.fi y.mo _ w (Kd.F_now f1) l1 (Kd.F_now f2) l2 ?_
  unfold strongboxref23_SameChoice.f
  simp only [mkS_toList, byN_str]
  obtain ⟨d1, b1, k1, t1, n1, a1, p1, r1, i1, m1⟩ := x
  obtain ⟨d2, b2, k2, t2, n2, a2, p2, r2, i2, m2⟩ := y
  simp only [Ch.mk.injEq]
  by_cases e1 : d1 = d2
  · rw [if_pos e1]
    by_cases e2 : b1 = b2
    · rw [if_pos e2]
      by_cases e3 : k1 = k2
      · rw [if_pos e3]
        by_cases e4 : t1 = t2
        · rw [if_pos e4]
          by_cases e5 : n1 = n2
          · rw [if_pos e5]
            by_cases e6 : a1 = a2
            · rw [if_pos e6]
              simp only [e1, e2, e3, e4, e5, e6, true_and, Option.some.injEq]
              rw [Bool.eq_iff_iff]
              simp
            · rw [if_neg e6]; simp [e6]
          · rw [if_neg e5]; simp [e5]
        · rw [if_neg e4]; simp [e4]
      · rw [if_neg e3]; simp [e3]
    · rw [if_neg e2]; simp [e2]
  · rw [if_neg e1]; simp [e1]

set_option maxHeartbeats 1000000 in
set_option maxRecDepth 100000 in
theorem sames_is (l m : List Ch) (A B : Option Addr) (c d : Nat) (w : World) (hl : l.length ≤ 100000) (hm : m.length ≤ 100000) (hC : Kd.C kCh w A l.length l) (hD : Kd.C kCh w B m.length m) :
    Calls Tryd.prog 21 #[.slice A l.length c, .slice B m.length d] w fun e w' => e = .returned (.bool (decide (l = m))) ∧ Below w.heap.size w w' := by
  obtain ⟨n, hn⟩ : ∃ n, l.length = n := ⟨_, rfl⟩
  obtain ⟨n2, hn2⟩ : ∃ n, m.length = n := ⟨_, rfl⟩
  rw [hn] at hC hl ⊢
  rw [hn2] at hD hm ⊢
  have HC := Lib.hid hC; clear hC
  have HD := Lib.hid hD; clear hD
  have HN := Lib.hid hn; clear hn
  have HN2 := Lib.hid hn2; clear hn2
  by_cases hlen : n = n2
  · subst hlen
    have hnn : ((n : Int) == (n : Int)) = true := by simp
    go_enter Tryd.func21, Tryd.ntmps21
    go_wp2_with fail
    go_loopw [5] (fun vi wr => ∃ (j : Nat), vi = .int .i64 j ∧ j ≤ n ∧ Hid (l.take j = m.take j) ∧ Hid (Below w.heap.size w wr)) (fun vi _ => n - (intOf vi).toNat)
    case atStart => exact ⟨0, rfl, Nat.zero_le _, rfl, Below.refl _ _⟩
    case round =>
      obtain ⟨j, rfl, hj, HT, HB⟩ := hrel
      by_cases hlt : j < n
      · have hltz : (j : Int) < (n : Int) := by omega
        have hlL : j < l.length := by rw [HN.out]; exact hlt
        have hlM : j < m.length := by rw [HN2.out]; exact hlt
        obtain ⟨ad, A3, c3_, hA, hdt, hcell⟩ := at_Ch (Kd.C_below HC.out HB.out) j hlL
        subst hA
        obtain ⟨be, A4, c4_, hA, hdu, hcelm⟩ := at_Ch (Kd.C_below HD.out HB.out) j hlM
        subst hA
        obtain ⟨x, hx⟩ : ∃ x, l[j] = x := ⟨_, rfl⟩
        obtain ⟨y, hy⟩ : ∃ y, m[j] = y := ⟨_, rfl⟩
        rw [hx] at hdt hcell
        rw [hy] at hdu hcelm
        have hne : x ≠ y → l ≠ m := fun h e => h (by subst e; rw [← hx, ← hy])
        have htk : x = y → l.take (j + 1) = m.take (j + 1) := fun e => by rw [List.take_succ_eq_append_getElem hlL, List.take_succ_eq_append_getElem hlM, hx, hy, e, HT.out]
        have HNE := Lib.hid hne
        have HTK := Lib.hid htk
        clear hne htk hx hy hlL hlM
        have hSf : ∀ V, Below wr.heap.size wr V → V.cell? (ad.add (j * 10)) = some (.int .i64 x.d) ∧ V.cell? ⟨(ad.add (j * 10)).block, (ad.add (j * 10)).off + 1, none⟩ = some (.string (mkS x.bk)) ∧ V.cell? ⟨(ad.add (j * 10)).block, (ad.add (j * 10)).off + 2, none⟩ = some (.string (mkS x.ky)) ∧ V.cell? ⟨(ad.add (j * 10)).block, (ad.add (j * 10)).off + 3, none⟩ = some (.slice A3 (byN x.dt).length c3_) ∧ V.cell? ⟨(ad.add (j * 10)).block, (ad.add (j * 10)).off + 4, none⟩ = some (.int .i64 x.n) ∧ V.cell? ⟨(ad.add (j * 10)).block, (ad.add (j * 10)).off + 5, none⟩ = some (.int .i64 x.a) ∧ V.cell? ⟨(ad.add (j * 10)).block, (ad.add (j * 10)).off + 6, none⟩ = some (.string (mkS x.pf)) ∧ V.cell? ⟨(ad.add (j * 10)).block, (ad.add (j * 10)).off + 7, none⟩ = some (.string (mkS x.fr)) ∧ V.cell? ⟨(ad.add (j * 10)).block, (ad.add (j * 10)).off + 8, none⟩ = some (.int .i64 x.fi) ∧ V.cell? ⟨(ad.add (j * 10)).block, (ad.add (j * 10)).off + 9, none⟩ = some (.int .i64 x.mo) ∧ V.cell? (be.add (j * 10)) = some (.int .i64 y.d) ∧ V.cell? ⟨(be.add (j * 10)).block, (be.add (j * 10)).off + 1, none⟩ = some (.string (mkS y.bk)) ∧ V.cell? ⟨(be.add (j * 10)).block, (be.add (j * 10)).off + 2, none⟩ = some (.string (mkS y.ky)) ∧ V.cell? ⟨(be.add (j * 10)).block, (be.add (j * 10)).off + 3, none⟩ = some (.slice A4 (byN y.dt).length c4_) ∧ V.cell? ⟨(be.add (j * 10)).block, (be.add (j * 10)).off + 4, none⟩ = some (.int .i64 y.n) ∧ V.cell? ⟨(be.add (j * 10)).block, (be.add (j * 10)).off + 5, none⟩ = some (.int .i64 y.a) ∧ V.cell? ⟨(be.add (j * 10)).block, (be.add (j * 10)).off + 6, none⟩ = some (.string (mkS y.pf)) ∧ V.cell? ⟨(be.add (j * 10)).block, (be.add (j * 10)).off + 7, none⟩ = some (.string (mkS y.fr)) ∧ V.cell? ⟨(be.add (j * 10)).block, (be.add (j * 10)).off + 8, none⟩ = some (.int .i64 y.fi) ∧ V.cell? ⟨(be.add (j * 10)).block, (be.add (j * 10)).off + 9, none⟩ = some (.int .i64 y.mo) := fun V hV => by
          have key : ∀ p u, wr.cell? p = some u → V.cell? p = some u := fun p u h => (hV.cell (World.block_lt_of_cell? wr _ h)).trans h
          have cf : ∀ i u, (chCells x (.slice A3 (byN x.dt).length c3_))[i + 1]? = some u → V.cell? ⟨(ad.add (j * 10)).block, (ad.add (j * 10)).off + (i + 1), none⟩ = some u := fun i u hu => by
            rw [← add_field _ _ (i + 1) (by omega)]; exact key _ _ (hcell (i + 1) u hu)
          have df : ∀ i u, (chCells y (.slice A4 (byN y.dt).length c4_))[i + 1]? = some u → V.cell? ⟨(be.add (j * 10)).block, (be.add (j * 10)).off + (i + 1), none⟩ = some u := fun i u hu => by
            rw [← add_field _ _ (i + 1) (by omega)]; exact key _ _ (hcelm (i + 1) u hu)
          exact ⟨key _ _ (hcell 0 _ rfl), cf 0 _ rfl, cf 1 _ rfl, cf 2 _ rfl, cf 3 _ rfl, cf 4 _ rfl, cf 5 _ rfl, cf 6 _ rfl, cf 7 _ rfl, cf 8 _ rfl, key _ _ (hcelm 0 _ rfl), df 0 _ rfl, df 1 _ rfl, df 2 _ rfl, df 3 _ rfl, df 4 _ rfl, df 5 _ rfl, df 6 _ rfl, df 7 _ rfl, df 8 _ rfl⟩
        have HSF := Lib.hid hSf; clear hSf
        have hSm : ∀ V, Below wr.heap.size wr V → Calls Tryd.prog 15 #[.agg (chCells x (.slice A3 (byN x.dt).length c3_)).toArray, .agg (chCells y (.slice A4 (byN y.dt).length c4_)).toArray] V fun e w' => e = .returned (.bool (decide (x = y))) ∧ Below wr.heap.size wr w' := fun V hV =>
          (same_is x y _ _ V (Kd.V_below hdt hV) (Kd.V_below hdu hV)).mono fun e w' ⟨he, hb⟩ => ⟨he, hV.trans (hb.mono hV.size)⟩
        have HSM := Lib.hid hSm; clear hSm hdt hdu hcell hcelm
        have hB0 : Below wr.heap.size wr wr.drew := (Below.refl _ _).drew
        have hB1 : Below wr.heap.size wr wr := Below.refl _ _
        go_wp2_with fail
        go_region_held3 (fun V => V.cell? (ad.add (j * 10)) = some (.int .i64 x.d) ∧ V.cell? ⟨(ad.add (j * 10)).block, (ad.add (j * 10)).off + 1, none⟩ = some (.string (mkS x.bk)) ∧ V.cell? ⟨(ad.add (j * 10)).block, (ad.add (j * 10)).off + 2, none⟩ = some (.string (mkS x.ky)) ∧ V.cell? ⟨(ad.add (j * 10)).block, (ad.add (j * 10)).off + 3, none⟩ = some (.slice A3 (byN x.dt).length c3_) ∧ V.cell? ⟨(ad.add (j * 10)).block, (ad.add (j * 10)).off + 4, none⟩ = some (.int .i64 x.n) ∧ V.cell? ⟨(ad.add (j * 10)).block, (ad.add (j * 10)).off + 5, none⟩ = some (.int .i64 x.a) ∧ V.cell? ⟨(ad.add (j * 10)).block, (ad.add (j * 10)).off + 6, none⟩ = some (.string (mkS x.pf)) ∧ V.cell? ⟨(ad.add (j * 10)).block, (ad.add (j * 10)).off + 7, none⟩ = some (.string (mkS x.fr)) ∧ V.cell? ⟨(ad.add (j * 10)).block, (ad.add (j * 10)).off + 8, none⟩ = some (.int .i64 x.fi) ∧ V.cell? ⟨(ad.add (j * 10)).block, (ad.add (j * 10)).off + 9, none⟩ = some (.int .i64 x.mo) ∧ V.cell? (be.add (j * 10)) = some (.int .i64 y.d) ∧ V.cell? ⟨(be.add (j * 10)).block, (be.add (j * 10)).off + 1, none⟩ = some (.string (mkS y.bk)) ∧ V.cell? ⟨(be.add (j * 10)).block, (be.add (j * 10)).off + 2, none⟩ = some (.string (mkS y.ky)) ∧ V.cell? ⟨(be.add (j * 10)).block, (be.add (j * 10)).off + 3, none⟩ = some (.slice A4 (byN y.dt).length c4_) ∧ V.cell? ⟨(be.add (j * 10)).block, (be.add (j * 10)).off + 4, none⟩ = some (.int .i64 y.n) ∧ V.cell? ⟨(be.add (j * 10)).block, (be.add (j * 10)).off + 5, none⟩ = some (.int .i64 y.a) ∧ V.cell? ⟨(be.add (j * 10)).block, (be.add (j * 10)).off + 6, none⟩ = some (.string (mkS y.pf)) ∧ V.cell? ⟨(be.add (j * 10)).block, (be.add (j * 10)).off + 7, none⟩ = some (.string (mkS y.fr)) ∧ V.cell? ⟨(be.add (j * 10)).block, (be.add (j * 10)).off + 8, none⟩ = some (.int .i64 y.fi) ∧ V.cell? ⟨(be.add (j * 10)).block, (be.add (j * 10)).off + 9, none⟩ = some (.int .i64 y.mo)) (first | (with_reducible exact (HSF.out _ (by with_reducible assumption))) | go_keep)
          (first
            | (go_at_call 15; refine (HSM.out _ (by with_reducible assumption)).mono ?_; rintro e w' ⟨rfl, hbn⟩))
        · by_cases hxy : x = y
          · have hr : decide (x = y) = true := decide_eq_true hxy
            have HT2 := Lib.hid (HTK.out hxy)
            have HBN : Hid (Below w.heap.size w w') := HB.out.trans (hbn.mono HB.out.size)
            rw [hr]
            clear hxy hr hbn
            go_wp2_with fail
            go_roundw
            case rel => exact ⟨j + 1, by go_num, by omega, HT2, HBN⟩
            case measure => simp [intOf]; omega
          · have hr : decide (x = y) = false := decide_eq_false hxy
            have HNQ := Lib.hid (HNE.out hxy)
            have HBN : Hid (Below w.heap.size w w') := HB.out.trans (hbn.mono HB.out.size)
            rw [hr]
            clear hxy hr hbn
            go_wp2_with fail
            go_ret
            exact ⟨by rw [decide_eq_false HNQ.out]; rfl, HBN.out⟩
      · obtain rfl : j = n := by omega
        have hz : decide ((j : Int) < (j : Int)) = false := decide_eq_false (by omega)
        have hlm : l = m := by
          have := HT.out
          rw [List.take_of_length_le (by rw [HN.out]; exact Nat.le_refl _), List.take_of_length_le (by rw [HN2.out]; exact Nat.le_refl _)] at this
          exact this
        have HLM := Lib.hid hlm
        clear hlt hlm HT
        go_wp2_with fail
        go_ret
        exact ⟨by rw [decide_eq_true HLM.out]; rfl, HB.out⟩
  · have hz : ((n : Int) == (n2 : Int)) = false := by rw [beq_eq_false_iff_ne]; omega
    have hr : decide (l = m) = false := decide_eq_false (fun e => hlen (by rw [← HN.out, ← HN2.out, e]))
    rw [hr]
    clear hr
    go_enter Tryd.func21, Tryd.ntmps21
    go_wp2_with fail
    go_ret
    exact ⟨rfl, Below.refl _ _⟩
end Go.Proofs.YtghllfihmmlcnaaDoor
