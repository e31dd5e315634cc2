/- ScriptLines: a line that is none, among lines that are, is told by its number; without it the others are read. -/
import Derived.Test.YtghllfihmmlcnaaDoorScrMF
import Derived.Test.YtghllfihmmlcnaaDoorScrRP
import Derived.Test.YtghllfihmmlcnaaDoorScrLn
import Derived.Test.YtghllfihmmlcnaaDoorCards
import Derived.Test.YtghllfihmmlcnaaDoorTie
import Derived.Deep.DeepHandedRow
import Derived.Lib.LaidIn
namespace Go.Proofs.YtghllfihmmlcnaaDoor.scriptLines
open Go.ChangeShapes Go.WideShapes Go.ChangeAt Go.RowKit Nam YtghllfihmmlcnaaDoorW.PrintWords

def headL : List UInt8 := [97, 114, 114, 97, 121, 32, 49, 32, 49, 32, 49, 54, 32, 57, 57, 10]
theorem head_99 : headC [1, 1, 16, 99] = headL := by
  unfold headC numsB headL
  simp [itoa_1, itoa_16, itoa_99]
theorem headL_lt : ∀ i : Fin 15, (((headL[i.val]'(by have := i.isLt; show i.val < 16; omega)).toNat : Int) != 10) = true := by decide
theorem byte_at (s r : List UInt8) (h : s = headL ++ r) (i : Nat) (hi : i < 16) : ∃ hb : i < (mkS s).size, (mkS s)[i]'hb = headL[i]'(by show i < 16; exact hi) := by
  subst h
  have hl : headL.length = 16 := rfl
  refine ⟨by rw [mkS_size, List.length_append, hl]; omega, ?_⟩
  exact List.getElem_append_left (show i < headL.length by rw [hl]; exact hi)

theorem belowA {w a : World} (h : Below w.heap.size w a) (o : Obj) : Below w.heap.size w (a.alloc o) := h.alloc h.size o
theorem belowA1 (w : World) (o : Obj) : Below w.heap.size w (w.alloc o).drew := ((Below.refl _ _).alloc (Nat.le_refl _) o).drew
theorem drew_new3 {w w8 : World} {a b c : Value} {t : TypeId} (h : Below (w.alloc (.cells #[a, b, c] t)).drew.heap.size (w.alloc (.cells #[a, b, c] t)).drew w8) :
    w8.cell? ⟨w.heap.size, 0, none⟩ = some a ∧ w8.cell? ⟨w.heap.size, 1, none⟩ = some b ∧ w8.cell? ⟨w.heap.size, 2, none⟩ = some c ∧ w8.frozen? ⟨w.heap.size, 0, none⟩ = false ∧ w8.frozen? ⟨w.heap.size, 1, none⟩ = false ∧ w8.frozen? ⟨w.heap.size, 2, none⟩ = false := by
  have hk : w8.heap[w.heap.size]? = some (.cells #[a, b, c] t (0, 0)) := blk_below (w := (w.alloc (.cells #[a, b, c] t)).drew) (blk_new w _) h
  exact ⟨(blk_cell hk 0).trans rfl, (blk_cell hk 1).trans rfl, (blk_cell hk 2).trans rfl, blk_frozen hk 0, blk_frozen hk 1, blk_frozen hk 2⟩
theorem belowS3 {w a : World} {g : Nat} (h : Below w.heap.size w a) (hg : w.heap.size ≤ g) (x y z : Value) : Below w.heap.size w (((a.setCell ⟨g, 0, none⟩ x).setCell ⟨g, 1, none⟩ y).setCell ⟨g, 2, none⟩ z) :=
  ((h.setCell (p := ⟨g, 0, none⟩) hg x).setCell (p := ⟨g, 1, none⟩) hg y).setCell (p := ⟨g, 2, none⟩) hg z

set_option maxHeartbeats 1000000 in
set_option maxRecDepth 100000 in
theorem walk0 (l : List Ch) (A : Option Addr) (c : Nat) (at_ kd : Int) (w0 : World) (hat : 0 ≤ at_ ∧ at_ ≤ 255) (hkd : 0 ≤ kd ∧ kd ≤ 255) (hc : l.length ≤ c) (hC : Kd.C kCh w0 A l.length l) (hN : ∀ x ∈ l, x.Num) (hE : Env w0) :
    Calls Tryd.prog 3 #[.slice A l.length c, .int .u8 at_, .int .u8 kd] w0 fun e W' => e = .returned (.bool true) ∧ Below w0.heap.size w0 W' := by
  have HE := Lib.hid hE; clear hE
  have HC : Hid (HasC w0 A l) := HasC.of hC
  clear hC
  have HNm := Lib.hid hN; clear hN
  have HAw : Hid (∀ V, Below w0.heap.size w0 V → Calls Tryd.prog 8 #[] V fun e w' => e = .returned (.bool true) ∧ Below w0.heap.size w0 w') := fun V hV =>
    (awake_is V (HE.out.below hV)).mono fun e w' ⟨he, hb⟩ => ⟨he, hV.trans (hb.mono hV.size)⟩
  obtain ⟨R, hR⟩ : ∃ R, roomB l 40 = R := ⟨_, rfl⟩
  have HRm : Hid (∀ V, Below w0.heap.size w0 V → Calls Tryd.prog 9 #[.slice A l.length c, .int .i64 40] V fun e w' => e = .returned (.bool R) ∧ Below w0.heap.size w0 w') := fun V hV => by
    rw [← hR]
    exact (room_is l 40 A c V hc (by decide) (HC.out V hV)).mono fun e w' ⟨he, hb⟩ => ⟨he, hV.trans (hb.mono hV.size)⟩
  have hb0 : Below w0.heap.size w0 w0 := Below.refl _ _
  obtain ⟨n, hn⟩ : ∃ n, l.length = n := ⟨_, rfl⟩
  rw [hn] at HRm hc ⊢
  cases R with
  | false =>
    go_enter Tryd.func3, Tryd.ntmps3
    go_wp2_with fail
    refine (HAw.out _ hb0).mono ?_
    rintro e w1 ⟨rfl, hbw1⟩
    go_wp2_with (go_at_call 9; refine (HRm.out _ hbw1).mono ?_; rintro e w2 ⟨rfl, hbw2⟩)
    go_ret
    exact ⟨rfl, hbw2⟩
  | true =>
    have hl40 := (roomB_ok hR).1
    rw [hn] at hl40
    go_enter Tryd.func3, Tryd.ntmps3
    go_wp2_with fail
    refine (HAw.out _ hb0).mono ?_
    rintro e w1 ⟨rfl, hbw1⟩
    go_wp2_with (go_at_call 9; refine (HRm.out _ hbw1).mono ?_; rintro e w2 ⟨rfl, hbw2⟩)
    have hShort := ch_short hR
    have hOk : ∀ x ∈ l, x.Ok 3000 := fun x hx => ch_ok (HNm.out x hx) (hShort x hx)
    obtain ⟨j, hj, hjn⟩ : ∃ j : Nat, at_ % ((n : Int) + 1) = (j : Int) ∧ j ≤ n := ⟨(at_ % ((n : Int) + 1)).toNat, by
      have h1 := Int.emod_nonneg at_ (show ((n : Int) + 1) ≠ 0 by omega)
      omega, by
      have h1 := Int.emod_nonneg at_ (show ((n : Int) + 1) ≠ 0 by omega)
      have h2 := Int.emod_lt_of_pos at_ (show (0 : Int) < (n : Int) + 1 by omega)
      omega⟩
    obtain ⟨W3, hW3⟩ : ∃ W3, w2.alloc (.cells #[.int .i64 1, .int .i64 1, .int .i64 16] 26) = W3 := ⟨_, rfl⟩
    have hbw3 : Below w0.heap.size w0 W3 := by rw [← hW3]; exact hbw2.alloc hbw2.size _
    have hk3 : W3.heap[w2.heap.size]? = some (.cells #[.int .i64 1, .int .i64 1, .int .i64 16] 26 (0, 0)) := by rw [← hW3]; exact blk_new w2 _
    have HK3 := Lib.hid hk3; clear hk3
    have HBW := Lib.hid hbw3
    have HE3 : Hid (Env W3) := HE.out.below hbw3
    have HC3 : Hid (HasC W3 A l) := HC.out.below hbw3
    have HSf : Hid (∀ V, Below W3.heap.size W3 V → V.cell? ⟨w2.heap.size, 0, none⟩ = some (.int .i64 1) ∧ V.cell? ⟨w2.heap.size, 1, none⟩ = some (.int .i64 1) ∧ V.cell? ⟨w2.heap.size, 2, none⟩ = some (.int .i64 16)) := fun V hV =>
      ⟨(blk_cell (blk_below HK3.out hV) 0).trans rfl, (blk_cell (blk_below HK3.out hV) 1).trans rfl, (blk_cell (blk_below HK3.out hV) 2).trans rfl⟩
    have h99 : ∀ n ∈ ([1, 1, 16, 99] : List Int), -9223372036854775808 ≤ n ∧ n ≤ 9223372036854775807 := by decide
    obtain ⟨s1, hs1⟩ : ∃ s1, (printC [1, 1, 16, 99] (l.take j)).1 = s1 := ⟨_, rfl⟩
    obtain ⟨e1, he1⟩ : ∃ e1, (printC [1, 1, 16, 99] (l.take j)).2 = e1 := ⟨_, rfl⟩
    have HP1 : Hid (∀ V, Below W3.heap.size W3 V → Calls Tryd.prog 10 #[.agg #[.int .i64 1, .int .i64 1, .int .i64 16], .int .i64 99, .slice A j c] V fun e w' => e = .returned (.tuple #[.string (mkS s1), .int .i64 e1]) ∧ Below W3.heap.size W3 w') := fun V hV => by
      subst hs1; subst he1; subst hn
      have hlt : (l.take j).length = j := by rw [List.length_take]; omega
      have := rprint_is 1 1 16 99 (l.take j) A c V h99 (by omega) (fun x hx => (hOk x (List.mem_of_mem_take hx)).mono (by omega)) (Kd.C_take (HC3.out V hV) hjn)
      rw [hlt] at this
      exact this.mono fun e w' ⟨he, hb⟩ => ⟨he, hV.trans (hb.mono hV.size)⟩
    obtain ⟨s2, hs2⟩ : ∃ s2, (printC [1, 1, 16, 99] (l.drop j)).1 = s2 := ⟨_, rfl⟩
    obtain ⟨e2, he2⟩ : ∃ e2, (printC [1, 1, 16, 99] (l.drop j)).2 = e2 := ⟨_, rfl⟩
    have HP2 : Hid (∀ V, Below W3.heap.size W3 V → Calls Tryd.prog 10 #[.agg #[.int .i64 1, .int .i64 1, .int .i64 16], .int .i64 99, .slice (if c = j then A else A.map (·.add (j * 10))) (n - j) (c - j)] V fun e w' => e = .returned (.tuple #[.string (mkS s2), .int .i64 e2]) ∧ Below W3.heap.size W3 w') := fun V hV => by
      subst hs2; subst he2; subst hn
      have hlt : (l.drop j).length = l.length - j := List.length_drop
      have := rprint_is 1 1 16 99 (l.drop j) (if c = j then A else A.map (·.add (j * 10))) (c - j) V h99 (by omega) (fun x hx => (hOk x (List.mem_of_mem_drop hx)).mono (by omega)) (Kd.C_drop (HC3.out V hV) hjn hc)
      rw [hlt] at this
      exact this.mono fun e w' ⟨he, hb⟩ => ⟨he, hV.trans (hb.mono hV.size)⟩
    rw [hj, hW3]
    have hj0 : (0 : Int) ≤ (j : Int) := by omega
    have hjc : (j : Int) ≤ (c : Int) := by omega
    have hjz : (j : Int) ≤ (n : Int) := by omega
    have hB0 : Below W3.heap.size W3 W3.drew := (Below.refl _ _).drew
    clear hW3 hj
    go_region_held3 (fun V => V.cell? ⟨w2.heap.size, 0, none⟩ = some (.int .i64 1) ∧ V.cell? ⟨w2.heap.size, 1, none⟩ = some (.int .i64 1) ∧ V.cell? ⟨w2.heap.size, 2, none⟩ = some (.int .i64 16))
      (first | (with_reducible exact (HSf.out _ (by with_reducible assumption))) | go_keep)
      (first
        | (go_at_call 10; refine (HP1.out _ (by with_reducible assumption)).mono ?_; rintro e w4 ⟨rfl, hbw4⟩))
    go_wp2_with fail
    have hB4 : Below W3.heap.size W3 w4.drew := hbw4.drew
    obtain ⟨A2, hA2⟩ : ∃ A2, (if c = j then A else A.map (·.add (j * 10))) = A2 := ⟨_, rfl⟩
    rw [hA2] at HP2
    go_region_held3 (fun V => V.cell? ⟨w2.heap.size, 0, none⟩ = some (.int .i64 1) ∧ V.cell? ⟨w2.heap.size, 1, none⟩ = some (.int .i64 1) ∧ V.cell? ⟨w2.heap.size, 2, none⟩ = some (.int .i64 16))
      (first | (with_reducible exact (HSf.out _ (by with_reducible assumption))) | go_keep)
      (first
        | (go_at_call 10; refine (HP2.out _ (by with_reducible assumption)).mono ?_; rintro e w5 ⟨rfl, hbw5⟩))
    clear hA2 hB0
    clear hB4
    have hz1 : (mkS s1).size = s1.length := mkS_size _
    have hz2 : (mkS s2).size = s2.length := mkS_size _
    by_cases h1 : e1 = 0
    rotate_left
    · have hz : (e1 != 0) = true := by simpa using h1
      go_wp2_with fail
      go_ret
      exact ⟨rfl, HBW.out.trans (hbw5.mono HBW.out.size)⟩
    by_cases h2 : e2 = 0
    rotate_left
    · have hz : (e2 != 0) = true := by simpa using h2
      have hz' : (e1 != 0) = false := by simpa using h1
      go_wp2_with fail
      go_ret
      exact ⟨rfl, HBW.out.trans (hbw5.mono HBW.out.size)⟩
    obtain ⟨t1, q1, r1, _⟩ := print_all (h := [1, 1, 16, 99]) (l := l.take j) (by rw [he1]; exact h1)
    obtain ⟨t2, q2, r2, _⟩ := print_all (h := [1, 1, 16, 99]) (l := l.drop j) (by rw [he2]; exact h2)
    rw [hs1] at q1
    rw [hs2] at q2
    rw [← q1] at r1
    rw [← q2] at r2
    have hzz1 : (mkS s1).size ≤ 65536 := by rw [hz1]; exact r1
    have hzz2 : (mkS s2).size ≤ 65536 := by rw [hz2]; exact r2
    have Q1 := Lib.hid q1
    have Q2 := Lib.hid q2
    have T1 := Lib.hid t1
    have T2 := Lib.hid t2
    clear q1 q2 t1 t2 hs1 hs2 he1 he2 HP1 HP2
    have hz : (e2 != 0) = false := by simpa using h2
    have hz' : (e1 != 0) = false := by simpa using h1
    by_cases h3 : s1.length + s2.length ≤ 50000
    rotate_left
    · have hd2 : (50000 : Int) < ((mkS s1).size : Int) + ((mkS s2).size : Int) := by rw [hz1, hz2]; omega
      have hd : decide ((50000 : Int) < ((mkS s1).size : Int) + ((mkS s2).size : Int)) = true := decide_eq_true hd2
      clear hz1 hz2 r1 r2 h3
      go_wp2_with fail
      go_ret
      exact ⟨rfl, HBW.out.trans (hbw5.mono HBW.out.size)⟩
    have hd2 : ((mkS s1).size : Int) + ((mkS s2).size : Int) ≤ (50000 : Int) := by rw [hz1, hz2]; omega
    have H3 := Lib.hid h3
    have Z1 := Lib.hid hz1
    have Z2 := Lib.hid hz2
    clear hz1 hz2 r1 r2 h3
    go_wp2_with fail
    have q2 := Q2.out
    rw [head_99] at q2
    have HBY := Lib.hid (byte_at s2 _ q2)
    have hsz2 : 16 ≤ (mkS s2).size := by rw [q2, mkS_size, List.length_append]; have hl : headL.length = 16 := rfl; omega
    clear q2
    go_loopw [13] (fun vi wr => ∃ (i : Nat), vi = .int .i64 i ∧ i ≤ 15 ∧ wr = w5) (fun vi _ => 15 - (intOf vi).toNat)
    case atStart => exact ⟨0, rfl, Nat.zero_le _, rfl⟩
    case round =>
      obtain ⟨i, rfl, hi, rfl⟩ := hrel
      obtain ⟨hib, hbe⟩ := HBY.out i (by omega)
      have hibz : (i : Int) < ((mkS s2).size : Int) := by omega
      by_cases hlt : i < 15
      · have hne : ((((mkS s2)[i]'hib).toNat : Int) != 10) = true := by rw [hbe]; exact headL_lt ⟨i, hlt⟩
        clear hbe
        go_wp2_with fail
        go_roundw
        case rel => exact ⟨i + 1, by go_num, by omega, by trivial⟩
        case measure => simp [intOf]; omega
      · obtain rfl : i = 15 := by omega
        have hne : ((((mkS s2)[15]'hib).toNat : Int) != 10) = false := by rw [hbe]; rfl
        clear hbe hlt hi
        obtain ⟨tl, htl⟩ : ∃ tl, s2.drop 16 = tl := ⟨_, rfl⟩
        have HTl := Lib.hid htl; clear htl
        have q2' : tl = bodyC (l.drop j) := by rw [← HTl.out, Q2.out, head_99]; exact List.drop_left' rfl
        have hl3 : s1.length + tl.length ≤ 50000 := by have h3 := H3.out; rw [← HTl.out, List.length_drop]; omega
        have hOk6 : ∀ x ∈ l, x.Ok 65536 := fun x hx => (hOk x hx).mono (by omega)
        have HG := Lib.hid (good_is [1, 1, 16, 99] 1 1 16 99 rfl l j s1 s2 tl h99 hOk6 hShort T1.out T2.out Q1.out q2' hl3 (by omega))
        have HB := Lib.hid (fun z hz => bad_is [1, 1, 16, 99] 1 1 16 99 rfl l j (by omega) s1 tl z hz h99 hOk6 hShort T1.out T2.out Q1.out q2' hl3 (by omega))
        have HPa1 : Hid (∀ V, Below W3.heap.size W3 V → Calls Tryd.prog 11 #[.string (mkS (s1 ++ tl))] V fun e w' => (∃ (k m b o : Int) (B : Option Addr) (c' : Nat), e = .returned (.tuple #[.agg #[.int .i64 k, .int .i64 m, .int .i64 b], .int .i64 o, .slice B n c', .int .i64 0, .int .i64 0])) ∧ Below V.heap.size V w') := fun V hV => by
          subst hn
          obtain ⟨hp, hp1, hp2⟩ := HG.out
          refine (parse_is _ V hp1 hp2 (HE3.out.below hV)).mono ?_
          rintro e w' ⟨⟨k', m', b', o', v, rfl, he, hv, _⟩, hb⟩
          rw [hp] at hv ⊢
          obtain ⟨B, c', rfl, _, hB⟩ := Kd.N_reads hv
          exact ⟨⟨k', m', b', o', B, c', rfl⟩, hb⟩
        have HPa2 : Hid (∀ z ∈ badL, ∀ V, Below W3.heap.size W3 V → Calls Tryd.prog 11 #[.string (mkS (s1 ++ (z ++ [10]) ++ tl))] V fun e w' => (∃ (k m b o : Int) (B : Option Addr) (c' : Nat), e = .returned (.tuple #[.agg #[.int .i64 k, .int .i64 m, .int .i64 b], .int .i64 o, .slice B 0 c', .int .i64 ((j : Int) + 2), .int .i64 19])) ∧ Below V.heap.size V w') := fun z hz V hV => by
          obtain ⟨hp, hp1, hp2⟩ := HB.out z hz
          refine (parse_is _ V hp1 hp2 (HE3.out.below hV)).mono ?_
          rintro e w' ⟨⟨k', m', b', o', v, rfl, he, hv, _⟩, hb⟩
          rw [hp] at hv ⊢
          obtain ⟨B, c', rfl, _, hB⟩ := Kd.N_reads hv
          exact ⟨⟨k', m', b', o', B, c', by show _ = Ending.returned (.tuple #[_, _, _, .int .i64 ((j : Int) + 2), _]); rfl⟩, hb⟩
        clear q2' hl3 hOk6
        have hex : (mkS s2).extract 16 (mkS s2).size = mkS tl := by
          rw [extract_mkS, mkS_list, HTl.out, mkS_size]
          congr 1
          exact List.take_of_length_le (by rw [← HTl.out, List.length_drop]; omega)
        obtain ⟨q, hq, hq10⟩ : ∃ q : Nat, kd % 10 = (q : Int) ∧ q < 10 := ⟨(kd % 10).toNat, by omega, by omega⟩
        have hlq : q < badL.length := hq10
        obtain ⟨z, hz⟩ : ∃ z, badL[q] = z := ⟨_, rfl⟩
        have hzm : z ∈ badL := by rw [← hz]; exact List.getElem_mem _
        have hzl := (bad_10 z hzm).2
        obtain ⟨zb, hzb⟩ : ∃ zb, z ++ [10] = zb := ⟨_, rfl⟩
        have hzbs : (mkS zb).size ≤ 13 := by rw [← hzb, mkS_size, List.length_append]; show z.length + 1 ≤ 13; omega
        have hcs : ∀ W : World, (W.alloc (.cells ((badL.map (fun b => b ++ [10])).map (fun b => Value.string (mkS b))).toArray 9)).heap[W.heap.size]? = some (.cells ((badL.map (fun b => b ++ [10])).map (fun b => Value.string (mkS b))).toArray 9 (0, 0)) := fun W => blk_new W _
        have hcq : ((badL.map (fun b => b ++ [10])).map (fun b => Value.string (mkS b))).toArray[q]? = some (.string (mkS zb)) := by
          rw [List.getElem?_toArray, List.getElem?_map, List.getElem?_map, List.getElem?_eq_getElem hlq, hz, ← hzb]; rfl
        have HCQ := Lib.hid (And.intro (hcs wr) hcq)
        clear hcs hcq hz
        have HZ := Lib.hid (And.intro hzm hzb)
        clear hzm hzb hzl hlq
        have HEx := Lib.hid hex
        clear hex
        have HQ := Lib.hid hq
        clear hq
        go_wp2_with fail
        obtain ⟨wS, hwS⟩ : ∃ wS, wr.alloc (.cells ((badL.map (fun b => b ++ [10])).map (fun b => Value.string (mkS b))).toArray 9) = wS := ⟨_, rfl⟩
        have hbS : Below W3.heap.size W3 wS := by rw [← hwS]; exact hbw5.alloc hbw5.size _
        have HCl : Hid (∀ V, Below wS.heap.size wS V → V.cell? ⟨wr.heap.size, q, none⟩ = some (.string (mkS zb))) := fun V hV =>
          (blk_cell (blk_below (by rw [← hwS]; exact HCQ.out.1) hV) q).trans HCQ.out.2
        have HP1 := HPa1.out wS hbS
        rw [← mkS_app, ← HEx.out, ← hwS] at HP1
        refine HP1.mono ?_
        clear HP1
        rintro e w6 ⟨⟨k1, m1, b1, o1, B1, c1, rfl⟩, hbw6⟩
        rw [hwS] at hbw6
        have hb3S : Below W3.heap.size W3 w6 := hbS.trans (hbw6.mono hbS.size)
        have HBS6 := Lib.hid hbw6
        have HB6 := Lib.hid hb3S
        have HWS := Lib.hid hwS
        clear hwS hbw6 hb3S
        go_wp2_with fail
        obtain ⟨w7, hw7⟩ : ∃ w7, w6.alloc (.cells #[.int .i64 k1, .int .i64 m1, .int .i64 b1] 26) = w7 := ⟨_, rfl⟩
        have hb7 : Below W3.heap.size W3 w7 := by rw [← hw7]; exact HB6.out.alloc HB6.out.size _
        have hbS7 : Below wS.heap.size wS w7 := by rw [← hw7]; exact HBS6.out.alloc HBS6.out.size _
        have HB7 := Lib.hid hb7
        have HCl7 : Hid (∀ V, Below w7.heap.size w7 V → V.cell? ⟨wr.heap.size, q, none⟩ = some (.string (mkS zb))) := fun V hV => HCl.out V (hbS7.trans (hV.mono hbS7.size))
        have hB0 : Below w7.heap.size w7 w7.drew := (Below.refl _ _).drew
        have hB1 : Below W3.heap.size W3 w7.drew := hb7.drew
        obtain ⟨K1, hK1⟩ : ∃ K, s1 ++ zb = K := ⟨_, rfl⟩
        obtain ⟨K2, hK2⟩ : ∃ K, K1 ++ tl = K := ⟨_, rfl⟩
        have hex := HEx.out
        have hz1 := Z1.out
        have hzt : tl.length ≤ 65536 := by rw [← HTl.out, List.length_drop, ← Z2.out]; omega
        have hzbl : zb.length ≤ 13 := by rw [← mkS_size]; exact hzbs
        have hK1l : K1.length ≤ 65549 := by rw [← hK1, List.length_append]; omega
        have a1 : ∀ V, (Op.stringOp .add (mkS s1) (mkS zb)).run Tryd.prog V = .ok (.string (mkS K1)) V := cat_is _ _ _ _ _ rfl rfl hK1 (by omega)
        have a2 : ∀ V, (Op.stringOp .add (mkS K1) (mkS tl)).run Tryd.prog V = .ok (.string (mkS K2)) V := cat_is _ _ _ _ _ rfl rfl hK2 (by omega)
        have HP7 : Hid (∀ V, Below w7.heap.size w7 V → Calls Tryd.prog 11 #[.string (mkS K2)] V fun e w' => (∃ (k m b o : Int) (B : Option Addr) (c' : Nat), e = .returned (.tuple #[.agg #[.int .i64 k, .int .i64 m, .int .i64 b], .int .i64 o, .slice B 0 c', .int .i64 ((j : Int) + 2), .int .i64 19])) ∧ Below w7.heap.size w7 w' ∧ Below V.heap.size V w') := fun V hV => by
          have := HPa2.out z HZ.out.1 V (hb7.trans (hV.mono hb7.size))
          rw [HZ.out.2, hK1, hK2] at this
          exact this.mono fun e w' ⟨he, hb⟩ => ⟨he, hV.trans (hb.mono hV.size), hb⟩
        have HGt : Hid (∀ V, Below w7.heap.size w7 V → V.cell? ⟨wr.heap.size, q, none⟩ = some (.string (mkS zb))) := HCl7
        clear hK1 hK2 hz1 hzt hzbl hK1l hzbs hzz1
        have hq := HQ.out
        have hqt : Int.tmod kd 10 = (q : Int) := by rw [Int.tmod_eq_emod_of_nonneg hkd.1]; exact hq
        have hq0 : (0 : Int) ≤ (q : Int) := by omega
        have hq1 : (q : Int) < 10 := by omega
        rw [hw7]
        clear hw7 hb7 hbS7
        have hz16 : (16 : Int) ≤ ((mkS s2).size : Int) := by omega
        have hs16 : IntKind.i64.wrap 16 = 16 := by decide
        have hwk : IntKind.i64.wrap kd = kd := IntWalk.i64_in _ (by omega)
        have hwq : IntKind.i64.wrap (q : Int) = (q : Int) := IntWalk.i64_in _ (by omega)
        go_region_held3 (fun V => V.cell? ⟨wr.heap.size, q, none⟩ = some (.string (mkS zb)))
          (first | (with_reducible exact (HCl7.out _ (by with_reducible assumption))) | (refine HCl7.out _ ?_; first | (exact belowA (by with_reducible assumption) _) | (exact belowA1 _ _) | (exact belowS3 (by with_reducible assumption) (Nat.le_refl _) _ _ _)) | go_keep)
          (first
            | (go_at_call 11; refine (HP7.out _ (by with_reducible assumption)).mono ?_; rintro e w8 ⟨⟨k2, m2, b2, o2, B2, c2, rfl⟩, hbw8, _⟩)
            | (go_at_call 11; refine (HP7.out _ (belowA1 _ _)).mono ?_; rintro e w8 ⟨⟨k2, m2, b2, o2, B2, c2, rfl⟩, hbw8, hbv8⟩; obtain ⟨k80, k81, k82, f80, f81, f82⟩ := drew_new3 hbv8; clear hbv8))
        · go_wp2_with fail
          go_ret
          exact ⟨rfl, HBW.out.trans ((HB7.out.trans ((belowA hbw8 _).mono HB7.out.size)).mono HBW.out.size)⟩
        · go_wp2_with fail
          go_ret
          exact ⟨rfl, HBW.out.trans ((HB7.out.trans ((belowS3 hbw8 (Nat.le_refl _) _ _ _).mono HB7.out.size)).mono HBW.out.size)⟩

section
variable {H : Type} {enc : TypeId × Value → H}
set_option maxRecDepth 100000 in
theorem walk (u : Value) (d' : DataW H) (ps' : List MemPlace) {W : World} {base' : Nat} (o' : Value.okWide Tryd.prog W .any base' 22 u) (h' : DataW.Trod enc Tryd.prog W 0 (fun _ => true) true 22 u d' ps') (a : Int) (wa : (Lit.int .u8 a).wf = true) (b : Int) (wb : (Lit.int .u8 b).wf = true) (W0 : World) (hW : W0 = W) (hE : Env W0) :
    Calls Tryd.prog 3 #[u, .int .u8 a, .int .u8 b] W0 fun e W' => e = .returned (.bool true) ∧ Below W0.heap.size W0 W' := by
  subst hW
  obtain ⟨l, A, c, rfl, hc, hC, hN⟩ := open_chs o' h'
  exact walk0 l A c a b W0 (wf_u8 wa) (wf_u8 wb) hc hC hN hE
end
theorem laid_met (os : Os) : laidMet Tryd.prog Rows.scriptLinesRow.laid ((laidWorld os).forCall (fun _ _ => 0) ⟨#[], #[.slice none 0 0, .int .u8 0, .int .u8 0], []⟩).memory :=
  laidMet_of_run' 8 (by kernel_rfl) (by kernel_rfl)
theorem reads (os : Os) {H : Type} (enc : TypeId × Value → H) : ∃ places, DataW.whole enc Tryd.prog ((laidWorld os).forCall (fun _ _ => 0) ⟨#[], #[.slice none 0 0, .int .u8 0, .int .u8 0], []⟩).memory Tryd.f3.params.toList Rows.scriptLinesSpec.vars false (#[.slice none 0 0, .int .u8 0, .int .u8 0] : Array Value).toList 8 = some ([.nil, .lit (.int .u8 0), .lit (.int .u8 0)], [], places) :=
  ⟨[], by kernel_rfl⟩
theorem tabs_of {W : World} (h : laidMetH Tryd.prog Rows.scriptLinesRow.laid W) : Env W := env_of5 h
set_option maxRecDepth 100000 in
theorem lifted (os : Os) (started : os.Started) (H : Type) (enc : TypeId × Value → H) (F : Stop.Interp) :
    ReturnsInHanded {} Tryd.checked os 3 .any ((OpenSpec.ofChange Rows.scriptLinesSpec).preRow enc Tryd.prog Tryd.f3 Rows.scriptLinesRow.domain false Rows.scriptLinesRow.laid) (((OpenSpec.ofChange Rows.scriptLinesSpec).at F).post enc Tryd.prog Tryd.f3 false true false false) := by
  obtain ⟨places, hx⟩ := reads os enc
  refine returnsInHanded_of_row (C := Tryd.checked) (s := OpenSpec.ofChange Rows.scriptLinesSpec) own started (by kernel_rfl) Tryd.func3
    (witness_row_at (enc := enc) (C := Tryd.checked) false (laidWorld os) #[.slice none 0 0, .int .u8 0, .int .u8 0] rfl (by kernel_rfl) (by kernel_rfl) (by kernel_rfl)
      (OpenSpec.preRow_of_cond 8 hx (by kernel_rfl) (fun k hk => by cases hk) (by kernel_rfl) (laid_met os))) ?_
  intro W base args ds gs before hval0 hW _ _ _ hL _ _
  have hval : ∀ (j : Nat) t v, Tryd.f3.params[j]? = some t → args[j]? = some v → Value.okWide Tryd.prog W .any base t v := hval0
  have hW' := hW
  obtain ⟨p, q, hA0, hV, rfl, hfz, hnd⟩ := hW
  have hA : DataW.TrodAll enc Tryd.prog W 0 (fun _ => true) true Tryd.f3.params.toList args.toList ds p := hA0
  rw [Tryd.params3] at hA hval
  obtain ⟨v0, vs0, d0, ds0, p0, q0, hargs, rfl, rfl, h0, r0⟩ := trodAll_cons hA
  obtain ⟨v1, vs1, d1, ds1, p1, q1, rfl, rfl, rfl, h1, r1⟩ := trodAll_cons r0
  obtain ⟨v2, vs2, d2, ds2, p2, q2, rfl, rfl, rfl, h2, r2⟩ := trodAll_cons r1
  obtain ⟨rfl, rfl, rfl⟩ := trodAll_nil r2
  obtain rfl : args = #[v0, v1, v2] := by cases args; simp_all
  obtain ⟨rfl, rfl⟩ := trodVars_none hV
  have o0 := hval 0 22 v0 rfl rfl
  obtain ⟨a1, rfl, rfl, rfl, w1⟩ := open_int Tryd.underlying5 (hval 1 5 v1 rfl rfl) h1
  obtain ⟨a2, rfl, rfl, rfl, w2⟩ := open_int Tryd.underlying5 (hval 2 5 v2 rfl rfl) h2
  clear hA0 hval0
  simp only [List.append_nil] at hW'
  refine (walk v0 d0 p0 o0 h0 a1 w1 a2 w2 W rfl (tabs_of hL)).mono fun e W' ⟨he, hg⟩ => ?_
  subst he
  exact ⟨_, rfl, law_post (s := Rows.scriptLinesSpec) laidOut (of_decide_eq_true (by kernel_rfl)) Tryd.underlying4 rfl rfl rfl rfl rfl hW' hg⟩

theorem said : Rows.ScriptLinesSaid :=
  OpenClaim.holds_of_cond 3 Tryd.f3 rfl rfl rfl rfl rfl rfl rfl ⟨rfl, rfl, rfl, rfl, rfl⟩ rfl rfl rfl rfl rfl (by kernel_rfl) Tryd.func3 (by kernel_rfl)
    (of_decide_eq_true (by kernel_rfl)) (by unfold Func.isWrapper; first | (rw [if_pos (by decide +kernel)]; kernel_rfl) | (rw [if_neg (by decide +kernel)]; exact ⟨rfl, rfl⟩))
    (fun os started H enc _ F => by rw [OpenClaim.pre_eq_preRow]; exact lifted os started H enc F)
theorem plain (f : FuncId) (fn : Func) (hf : Tryd.pinned.checked.prog.funcNamed "strongbox/strongboxlaw24.ScriptLines" = some f) (hfn : Tryd.pinned.checked.prog.funcs[f]? = some fn) :
    true = Tryd.pinned.checked.prog.looks [] ∧ ∀ (j : Nat) t, fn.params[j]? = some t → Tryd.pinned.checked.prog.wantsStandIn t = false := by
  obtain rfl : f = 3 := Option.some.inj ((show Tryd.prog.funcNamed "strongbox/strongboxlaw24.ScriptLines" = some 3 by kernel_rfl).symm.trans hf) |>.symm
  obtain rfl : fn = Tryd.f3 := (Option.some.inj (Tryd.func3.symm.trans hfn)).symm
  refine ⟨by kernel_rfl, fun j t ht => ?_⟩
  rw [Tryd.params3] at ht
  have hm := Array.mem_of_getElem? ht
  simp only [List.mem_toArray, List.mem_cons, List.not_mem_nil, or_false] at hm
  rcases hm with rfl | rfl | rfl
  · exact (show Tryd.prog.wantsStandIn 22 = false by kernel_rfl)
  · exact (show Tryd.prog.wantsStandIn 5 = false by kernel_rfl)
  · exact (show Tryd.prog.wantsStandIn 5 = false by kernel_rfl)

/-- ████ THE CARD ████ -/
theorem proved : Rows.ScriptLinesCardSaid :=
  Claim7.holds_tied_plain_at .later [] _ _ _ _ said (fun _ h => by cases h) (by kernel_rfl) (fun _ h => by cases h) scriptLines_row_tie rfl ⟨rfl, rfl⟩ (by kernel_rfl) rfl plain (by kernel_rfl)
#print axioms proved
end Go.Proofs.YtghllfihmmlcnaaDoor.scriptLines
