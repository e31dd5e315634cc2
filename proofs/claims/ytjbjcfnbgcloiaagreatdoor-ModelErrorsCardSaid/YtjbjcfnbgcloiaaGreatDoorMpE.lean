/- ModelErrors: of a bucket that is not there, a key that is not there, a name that is none each call tells just that, and changes nothing. -/
import Derived.Test.YtjbjcfnbgcloiaaGreatDoorMpAB
import Derived.Test.YtjbjcfnbgcloiaaGreatDoorNamRB
set_option linter.unusedSimpArgs false
set_option linter.unusedVariables false
namespace Go.Proofs.YtjbjcfnbgcloiaaGreatDoor.modelErrors
open Go.RowKit Nam YtjbjcfnbgcloiaaGreatDoorW.PrintWords Go.Proofs.YtjbjcfnbgcloiaaGreatDoor

def SE : St := S1.put abc kx (S1.V abc kx ++ [kpOf 5 [120]])
theorem pe_ok : S1.putE 5 abc kx [120] = 0 := put_ok abc_named (by decide) (by simp [S1]) (by rw [s1_V]; decide) (by decide) (by decide) (by rw [s1_V]; intro y h; cases h)
theorem fine_SE : SE.Fine := by
  have := fine_doPut fine_S1 5 abc kx [120]
  rw [doPut_ok pe_ok] at this
  exact this
theorem se_B (b : List UInt8) : b ∈ SE.B ↔ b = abc := by simp [SE, S1, St.put]
theorem se_V (b k : List UInt8) (h : ¬ (b = abc ∧ k = kx)) : SE.V b k = [] := if_neg h
/-- What is told, and that nothing turns. -/
def Tells (x : Ch) (id want : Int) : Prop := SE.callE x id = want ∧ SE.callS x id = SE
theorem tell_of {x : Ch} {id want : Int} (hw : want ≠ 0) (h4 : x.d = 4 → SE.putE id x.bk x.ky x.dt = want) (h7 : x.d = 7 → SE.findE x.bk x.ky 0 0 = want) (h8 : x.d = 8 → SE.findE x.bk x.ky x.n 1 = want) (h5 : x.d ≠ 4 → x.d ≠ 7 → x.d ≠ 8 → SE.findE x.bk x.ky x.n 0 = want) : Tells x id want := by
  unfold Tells St.callE St.callS
  by_cases e4 : x.d = 4
  · rw [if_pos e4, if_pos e4]
    refine ⟨h4 e4, ?_⟩
    unfold St.doPut
    rw [h4 e4, if_neg hw]
  · rw [if_neg e4, if_neg e4]
    by_cases e7 : x.d = 7
    · rw [if_pos e7, if_pos e7]
      have hd : SE.delE id x.bk x.ky = want := by
        unfold St.delE
        rw [h7 e7, if_pos hw]
      refine ⟨hd, ?_⟩
      unfold St.doDel
      rw [hd, if_neg hw]
    · rw [if_neg e7, if_neg e7]
      by_cases e8 : x.d = 8
      · rw [if_pos e8, if_pos e8]
        refine ⟨h8 e8, ?_⟩
        unfold St.doEra
        rw [h8 e8, if_neg hw]
      · rw [if_neg e8, if_neg e8]
        refine ⟨?_, rfl⟩
        unfold St.getE
        rw [h5 e4 e7 e8, if_pos hw]
theorem find12 {b k : List UInt8} {n m : Int} (h : namedB b k = false) : SE.findE b k n m = 12 := if_pos h
theorem find13 {b k : List UInt8} {n m : Int} (h : namedB b k = true) (hn : m ≤ n) (hb : b ≠ abc) : SE.findE b k n m = 13 := by
  unfold St.findE
  rw [if_neg (by rw [h]; simp), if_neg (by omega), if_pos (fun e => hb ((se_B b).1 e))]
theorem find14 {b k : List UInt8} {n m : Int} (h : namedB b k = true) (hn : m ≤ n) (hb : b = abc) (hk : k ≠ kx) : SE.findE b k n m = 14 := by
  unfold St.findE
  rw [if_neg (by rw [h]; simp), if_neg (by omega), if_neg (fun e => e ((se_B b).2 hb)), if_pos (se_V b k (fun e => hk e.2))]
theorem tell12 {x : Ch} {id : Int} (h : namedB x.bk x.ky = false) : Tells x id 12 :=
  tell_of (by decide) (fun _ => if_pos h) (fun _ => find12 h) (fun _ => find12 h) (fun _ _ _ => find12 h)
theorem tell13 {x : Ch} {id : Int} (h : namedB x.bk x.ky = true) (hd : x.dt.length ≤ 65536) (hb : x.bk ≠ abc) (hn : 0 ≤ x.n) (h8 : x.d = 8 → x.n ≠ 0) : Tells x id 13 :=
  tell_of (by decide) (fun _ => by
    unfold St.putE
    rw [if_neg (by rw [h]; simp), if_neg (by omega), if_pos (fun e => hb ((se_B _).1 e))]) (fun _ => find13 h (by omega) hb) (fun e => find13 h (by have := h8 e; omega) hb) (fun _ _ _ => find13 h hn hb)
theorem tell14 {x : Ch} {id : Int} (h : namedB x.bk x.ky = true) (hb : x.bk = abc) (hk : x.ky ≠ kx) (h4 : x.d ≠ 4) (hn : 0 ≤ x.n) (h8 : x.d = 8 → x.n ≠ 0) : Tells x id 14 :=
  tell_of (by decide) (fun e => absurd e h4) (fun _ => find14 h (by omega) hb hk) (fun e => find14 h (by have := h8 e; omega) hb hk) (fun _ _ _ => find14 h hn hb hk)
theorem mkS_ne {a b : List UInt8} (h : a ≠ b) : ((mkS a).toList == b) = false ∧ ((mkS a).toList != b) = true := by
  have : (mkS a).toList = a := by rw [ByteArray.toList_eq]; rfl
  rw [this]
  simp [h]
theorem mkS_same (a : List UInt8) : ((mkS a).toList == a) = true ∧ ((mkS a).toList != a) = false := by
  have : (mkS a).toList = a := by rw [ByteArray.toList_eq]; rfl
  rw [this]
  simp
theorem field_err (want i : Int) (m : Bool) (s u : Int) (dv : Value) (W : World) : (Instr.field 44 (.agg #[.int .i64 want, .int .i64 i, .bool m, .int .i64 s, .int .u32 u, dv, .slice none 0 0, .bool false, .string ⟨#[]⟩, .int .i64 0, .slice none 0 0]) 0).run Tryz.prog W = .ok (.int .i64 want) W := by
  kernel_rfl
/-- One call of the round. -/
theorem call_tells {w W : World} {g n g2 n2 : Nat} (h : Two w W g SE n g2 SE n2) (x : Ch) (A : Option Addr) (c : Nat) (id want : Int) (ht : Tells x id want) (hd : Named x) (hx : x.Short) (hn : n ≤ 1000) (hC : HasD W (.slice A (byN x.dt).length c) x.dt) (hT : Tabs W) :
    Calls Tryz.prog 13 #[.pointer (some ⟨g, 0, none⟩), .agg (chCells x (.slice A (byN x.dt).length c)).toArray, .int .i64 id] W fun e w' =>
      (∃ (i : Int) (m : Bool) (s u : Int) (dv : Value), e = .returned (.agg #[.int .i64 want, .int .i64 i, .bool m, .int .i64 s, .int .u32 u, dv, .slice none 0 0, .bool false, .string ⟨#[]⟩, .int .i64 0, .slice none 0 0])) ∧ Two w w' g SE (n + 1) g2 SE n2 :=
  (two_call h x A c id hd (by have := hx.bk; omega) (by have := hx.ky; omega) (by have := hx.dt; omega) (by omega) fine_SE (fun V hV => by
    obtain ⟨A', c', e, _, hF⟩ := (hC.below hV).now
    injection e with e _ _
    subst e
    exact hF V (fun _ _ _ => rfl)) hT).mono fun e w' ⟨⟨y, dv, he⟩, h2⟩ => by
    rw [ht.1] at he
    rw [ht.2] at h2
    exact ⟨⟨y.id, y.mark, y.sz, y.sum, dv, he⟩, h2⟩

set_option maxHeartbeats 8000000 in
set_option maxRecDepth 100000 in
theorem walk0 (l : List Ch) (A : Option Addr) (c : Nat) (w : World) (hc : l.length ≤ c) (hC : Kd.C kCh w A l.length l) (hN : ∀ x ∈ l, x.Num) (hT : Tabs w) :
    Calls Tryz.prog 4 #[.slice A l.length c] w fun e w' => e = .returned (.bool true) ∧ Below w.heap.size w w' := by
  have HT := Lib.hid hT
  have HC : Hid (HasC w A l) := HasC.of hC
  have HAw : Hid (Calls Tryz.prog 5 #[] w fun e w' => e = .returned (.bool true) ∧ Below w.heap.size w w') := awake_is w hT
  obtain ⟨R, hR⟩ : ∃ R, roomB l 40 = R := ⟨_, rfl⟩
  have HRm : Hid (∀ V, Below w.heap.size w V → Calls Tryz.prog 6 #[.slice A l.length c, .int .i64 40] V fun e w' => e = .returned (.bool R) ∧ Below w.heap.size w w') := fun V hV => by
    rw [← hR]
    exact (room_is l 40 A c V hc (by decide) (HC.out V hV)).mono fun e w' ⟨he, hb⟩ => ⟨he, hV.trans (hb.mono hV.size)⟩
  have HNew : Hid (∀ V, Below w.heap.size w V → Calls Tryz.prog 7 #[] V fun e w' => ∃ g, e = .returned (.pointer (some ⟨g, 0, none⟩)) ∧ Hid (One w w' g St.new 0)) := fun V hV => one_new w V hV
  have HMk : Hid (∀ V g, One w V g St.new 0 → Calls Tryz.prog 16 #[.pointer (some ⟨g, 0, none⟩), .string ⟨#[97, 98, 99]⟩] V fun e w' => e = .returned (.int .i64 0) ∧ Hid (One w w' g S1 1)) := fun V g h =>
    (one_make h abc (by decide) (by decide)).mono fun e w' ⟨he, ho⟩ => by
      rw [make_abc] at he ho
      exact ⟨he, ho⟩
  have HPu : Hid (∀ V g, One w V g S1 1 → Calls Tryz.prog 17 #[.pointer (some ⟨g, 0, none⟩), .int .i64 5, .string ⟨#[97, 98, 99]⟩, .string ⟨#[107]⟩, .slice (some ⟨V.heap.size, 0, none⟩) 1 1] (V.alloc (.cells #[.int .u8 120] 5 (1, 2))) fun e w' => (∃ s : Int, e = .returned (.tuple #[.agg #[.int .i64 5, .bool false, .int .i64 1, .int .u32 s], .int .i64 0])) ∧ Hid (One w w' g SE 2)) := fun V g h => by
    have hb := (Below.refl V.heap.size V).alloc (Nat.le_refl _) (.cells #[.int .u8 120] 5 (1, 2))
    exact (one_put (h.below hb) 5 abc kx [120] (some ⟨V.heap.size, 0, none⟩) 1 (by decide) (by decide) (by decide) (by decide) (lit_bytes [120] (by decide) (blk_new V _)) (HT.out.below (h.1.trans (hb.mono h.1.size))) pe_ok).mono fun e w' ⟨he, h2⟩ => ⟨⟨_, he⟩, h2⟩
  have HCp : Hid (∀ V g, One w V g SE 2 → Calls Tryz.prog 9 #[.pointer (some ⟨g, 0, none⟩)] V fun e w' => ∃ g', e = .returned (.pointer (some ⟨g', 0, none⟩)) ∧ Hid (Two w w' g SE 2 g' SE 8)) := fun V g h => one_copy h fine_SE (by decide)
  have kc := fun (w : World) (C : Array Value) (n c : Nat) => Lib.run_convert_bytes_const (P := Tryz.prog) w 30 5 C n c Tryz.underlying30 Tryz.underlying5
  have HNm := Lib.hid hN
  obtain ⟨n, hn⟩ : ∃ n, l.length = n := ⟨_, rfl⟩
  rw [hn] at HRm hc ⊢
  clear hT hC hN
  cases R with
  | false =>
    clear hn hR
    go_enter Tryz.func4, Tryz.ntmps4
    go_wp2_with fail
    refine HAw.out.mono ?_
    rintro e w1 ⟨rfl, hb1⟩
    go_wp2_with fail
    refine (HRm.out _ hb1).mono ?_
    rintro e w2 ⟨rfl, hb2⟩
    go_wp2_with fail
    go_ret
    exact ⟨rfl, hb2⟩
  | true =>
    have HSh := Lib.hid (ch_short hR)
    have hl40 : n ≤ 40 := by rw [← hn]; exact (roomB_ok hR).1
    have HN2 := Lib.hid hn
    clear hn hR
    go_enter Tryz.func4, Tryz.ntmps4
    go_wp2_with fail
    refine HAw.out.mono ?_
    rintro e w1 ⟨rfl, hb1⟩
    go_wp2_with fail
    refine (HRm.out _ hb1).mono ?_
    rintro e w2 ⟨rfl, hb2⟩
    go_wp2_with fail
    refine (HNew.out _ hb2).mono ?_
    rintro e w3 ⟨g, rfl, H3⟩
    go_wp2_with fail
    refine (HMk.out _ _ H3.out).mono ?_
    rintro e w4 ⟨rfl, H4⟩
    go_wp2_with fail
    refine (HPu.out _ _ H4.out).mono ?_
    rintro e w5 ⟨⟨s5, rfl⟩, H5⟩
    go_wp2_with fail
    refine (HCp.out _ _ H5.out).mono ?_
    rintro e w6 ⟨g2, rfl, H6⟩
    clear kc HRm HNew HMk HPu HCp HAw hb1 hb2 H3 H4 H5
    go_wp2_with fail
    go_loopw [5] (fun vi wr => ∃ (j : Nat), vi = .int .i64 j ∧ j ≤ n ∧ Hid (Two w wr g SE (2 + j) g2 SE 8)) (fun vi _ => n - (intOf vi).toNat)
    case atStart => exact ⟨0, rfl, Nat.zero_le _, H6⟩
    case round =>
      clear H6
      obtain ⟨j, rfl, hj, HS⟩ := hrel
      by_cases hlt : j < n
      · have hltz : (j : Int) < (n : Int) := by omega
        have hlL : j < l.length := by rw [HN2.out]; exact hlt
        obtain ⟨ad, A3, c3, hA, hdt, hcell⟩ := at_Ch (HC.out _ HS.out.1) j hlL
        subst hA
        obtain ⟨x, hx⟩ : ∃ x, l[j] = x := ⟨_, rfl⟩
        rw [hx] at hdt hcell
        have hmem : x ∈ l := by rw [← hx]; exact List.getElem_mem _
        have hX := HSh.out x hmem
        have HD0 : Hid (HasD wr (.slice A3 (byN x.dt).length c3) x.dt) := HasD.of hdt
        have hcf : wr.cell? (ad.add (j * 10)) = some (.int .i64 x.d) ∧ wr.cell? ⟨(ad.add (j * 10)).block, (ad.add (j * 10)).off + 1, none⟩ = some (.string (mkS x.bk)) ∧ wr.cell? ⟨(ad.add (j * 10)).block, (ad.add (j * 10)).off + 2, none⟩ = some (.string (mkS x.ky)) ∧ wr.cell? ⟨(ad.add (j * 10)).block, (ad.add (j * 10)).off + 3, none⟩ = some (.slice A3 (byN x.dt).length c3) ∧ wr.cell? ⟨(ad.add (j * 10)).block, (ad.add (j * 10)).off + 4, none⟩ = some (.int .i64 x.n) ∧ wr.cell? ⟨(ad.add (j * 10)).block, (ad.add (j * 10)).off + 5, none⟩ = some (.int .i64 x.a) ∧ wr.cell? ⟨(ad.add (j * 10)).block, (ad.add (j * 10)).off + 6, none⟩ = some (.string (mkS x.pf)) ∧ wr.cell? ⟨(ad.add (j * 10)).block, (ad.add (j * 10)).off + 7, none⟩ = some (.string (mkS x.fr)) ∧ wr.cell? ⟨(ad.add (j * 10)).block, (ad.add (j * 10)).off + 8, none⟩ = some (.int .i64 x.fi) ∧ wr.cell? ⟨(ad.add (j * 10)).block, (ad.add (j * 10)).off + 9, none⟩ = some (.int .i64 x.mo) := by
          have cf : ∀ i u, (chCells x (.slice A3 (byN x.dt).length c3))[i + 1]? = some u → wr.cell? ⟨(ad.add (j * 10)).block, (ad.add (j * 10)).off + (i + 1), none⟩ = some u := fun i u hu => by
            rw [← add_field _ _ (i + 1) (by omega)]; exact hcell (i + 1) u hu
          exact ⟨hcell 0 _ rfl, cf 0 _ rfl, cf 1 _ rfl, cf 2 _ rfl, cf 3 _ rfl, cf 4 _ rfl, cf 5 _ rfl, cf 6 _ rfl, cf 7 _ rfl, cf 8 _ rfl⟩
        clear hcell hdt hx hlL hmem
        obtain ⟨d, bk, ky, dt, nn, aa, pf, fr, fi, mo⟩ := x
        simp only at hX hcf HD0
        have HX := Lib.hid hX
        obtain ⟨W1, hW1⟩ : ∃ W1, wr.alloc (.cells #[.int .i64 d, .string (mkS bk), .string (mkS ky), .slice A3 (byN dt).length c3, .int .i64 nn, .int .i64 aa, .string (mkS pf), .string (mkS fr), .int .i64 fi, .int .i64 mo] 34) = W1 := ⟨_, rfl⟩
        have hb1 : Below wr.heap.size wr W1 := by rw [← hW1]; exact (Below.refl _ _).alloc (Nat.le_refl _) _
        have hk1 : W1.heap[wr.heap.size]? = some (.cells #[.int .i64 d, .string (mkS bk), .string (mkS ky), .slice A3 (byN dt).length c3, .int .i64 nn, .int .i64 aa, .string (mkS pf), .string (mkS fr), .int .i64 fi, .int .i64 mo] 34 (0, 0)) := by rw [← hW1]; exact blk_new wr _
        have HBox : Hid (∀ V, Below W1.heap.size W1 V → ChAt V wr.heap.size d bk ky (.slice A3 (byN dt).length c3) nn aa pf fr fi mo) := fun V hV => chAt_of (blk_below hk1 hV)
        have HTW : Hid (Tabs W1) := HT.out.below (HS.out.1.trans (hb1.mono HS.out.1.size))
        have hsb : (mkS bk).size ≤ maxLen := by rw [mkS_size]; unfold maxLen; have h := hX.bk; simp only at h; omega
        have hsk : (mkS ky).size ≤ maxLen := by rw [mkS_size]; unfold maxLen; have h := hX.ky; simp only at h; omega
        obtain ⟨ok, hok⟩ : ∃ ok, bucketB bk = ok := ⟨_, rfl⟩
        obtain ⟨kk, hkk⟩ : ∃ kk, keyB ky = kk := ⟨_, rfl⟩
        have HBk : Hid (∀ V, Below W1.heap.size W1 V → Calls Tryz.prog 18 #[.string (mkS bk)] V fun e w' => e = .returned (.bool ok) ∧ Below W1.heap.size W1 w') := fun V hV => by
          have := rbucket_is (mkS bk) V hsb
          rw [mkS_list, hok] at this
          exact this.mono fun e w' ⟨he, hb⟩ => ⟨he, hb ▸ hV⟩
        have HKy : Hid (∀ V, Below W1.heap.size W1 V → Calls Tryz.prog 19 #[.string (mkS ky)] V fun e w' => e = .returned (.bool kk) ∧ Below W1.heap.size W1 w') := fun V hV => by
          have := rkey_is (mkS ky) V hsk (HTW.out.below hV)
          rw [mkS_list, hkk] at this
          exact this.mono fun e w' ⟨he, hb⟩ => ⟨he, hV.trans (hb.mono hV.size)⟩
        have H2 : Hid (Two w W1 g SE (2 + j) g2 SE 8) := HS.out.below hb1
        have HNX : Hid (namedB bk ky = (ok && kk)) := by show _ = _; unfold namedB; rw [hok, hkk]
        have HCa : Hid (∀ V want, Below W1.heap.size W1 V → Named ⟨d, bk, ky, dt, nn, aa, pf, fr, fi, mo⟩ → Tells ⟨d, bk, ky, dt, nn, aa, pf, fr, fi, mo⟩ (9 + (j : Int)) want → Calls Tryz.prog 13 #[.pointer (some ⟨g, 0, none⟩), .agg #[.int .i64 d, .string (mkS bk), .string (mkS ky), .slice A3 (byN dt).length c3, .int .i64 nn, .int .i64 aa, .string (mkS pf), .string (mkS fr), .int .i64 fi, .int .i64 mo], .int .i64 (9 + (j : Int))] V fun e w' =>
            (∃ (i : Int) (m : Bool) (s u : Int) (dv : Value), e = .returned (.agg #[.int .i64 want, .int .i64 i, .bool m, .int .i64 s, .int .u32 u, dv, .slice none 0 0, .bool false, .string ⟨#[]⟩, .int .i64 0, .slice none 0 0])) ∧ Hid (Two w w' g SE (2 + (j + 1)) g2 SE 8)) := fun V want hV hd ht =>
          call_tells (H2.out.below hV) ⟨d, bk, ky, dt, nn, aa, pf, fr, fi, mo⟩ A3 c3 _ want ht hd hX (by omega) ((HD0.out.below hb1).below hV) (HTW.out.below hV)
        have HSa : Hid (∀ V, Two w V g SE (2 + (j + 1)) g2 SE 8 → Calls Tryz.prog 11 #[.pointer (some ⟨g, 0, none⟩), .pointer (some ⟨g2, 0, none⟩)] V fun e w' => e = .returned (.bool true) ∧ Hid (Two w w' g SE (2 + (j + 1)) g2 SE 8)) := fun V h2 => by
          have := two_same h2 fine_SE fine_SE
          rw [sameB_self] at this
          exact this
        have HWW : Hid (Two w W1 g SE (2 + (j + 1)) g2 SE 8) := by
          obtain ⟨q1, Q, F, Q', F', q2, q3⟩ := H2.out
          exact ⟨q1, Q, F, Q', F', q2.mono (by omega), q3⟩
        have HWV : Hid (∀ V, Below W1.heap.size W1 V → Two w V g SE (2 + (j + 1)) g2 SE 8) := fun V hV => HWW.out.below hV
        have HW1 := Lib.hid hW1
        have hb0 : Below W1.heap.size W1 W1 := Below.refl _ _
        obtain ⟨a0, a1, a2, a3, a4, a5, a6, a7, a8, a9⟩ := hcf
        clear hX hk1 hb1 hok hkk hsb hsk hW1
        by_cases hd : d = 4 ∨ d = 5 ∨ d = 6 ∨ d = 7 ∨ d = 8
        · rcases hd with rfl | rfl | rfl | rfl | rfl
          · cases ok with
            | false =>
              as_aux_lemma =>
                go_upto_region 17 with (fail)
                rw [HW1.out]
                clear HW1
                obtain ⟨c0, c1, c2, c3_, c4, c5, c6, c7, c8, c9⟩ := HBox.out _ hb0
                go_wp2_with fail
                refine (HBk.out _ hb0).mono ?_
                rintro e w2 ⟨rfl, hb2⟩
                clear c0 c1 c2 c3_ c4 c5 c6 c7 c8 c9
                obtain ⟨c0, c1, c2, c3_, c4, c5, c6, c7, c8, c9⟩ := HBox.out _ hb2
                go_wp2_with fail
                refine (HCa.out _ 12 hb2 (by simp [Named]) (tell12 HNX.out)).mono ?_
                rintro e w4 ⟨⟨i9, m9, s9, u9, dv9, rfl⟩, H4⟩
                have hfe := field_err 12 i9 m9 s9 u9 dv9 w4
                go_wp2_with fail
                refine (HSa.out _ H4.out).mono ?_
                rintro e w5 ⟨rfl, H5⟩
                go_wp2_with fail
                go_roundw
                case rel => exact ⟨j + 1, by go_num, by omega, H5⟩
                case measure => simp [intOf]; omega
            | true =>
              cases kk with
              | false =>
                as_aux_lemma =>
                  go_upto_region 17 with (fail)
                  rw [HW1.out]
                  clear HW1
                  obtain ⟨c0, c1, c2, c3_, c4, c5, c6, c7, c8, c9⟩ := HBox.out _ hb0
                  go_wp2_with fail
                  refine (HBk.out _ hb0).mono ?_
                  rintro e w2 ⟨rfl, hb2⟩
                  clear c0 c1 c2 c3_ c4 c5 c6 c7 c8 c9
                  obtain ⟨c0, c1, c2, c3_, c4, c5, c6, c7, c8, c9⟩ := HBox.out _ hb2
                  go_wp2_with fail
                  refine (HKy.out _ hb2).mono ?_
                  rintro e w3 ⟨rfl, hb3⟩
                  clear c0 c1 c2 c3_ c4 c5 c6 c7 c8 c9
                  obtain ⟨c0, c1, c2, c3_, c4, c5, c6, c7, c8, c9⟩ := HBox.out _ hb3
                  go_wp2_with fail
                  refine (HCa.out _ 12 hb3 (by simp [Named]) (tell12 HNX.out)).mono ?_
                  rintro e w4 ⟨⟨i9, m9, s9, u9, dv9, rfl⟩, H4⟩
                  have hfe := field_err 12 i9 m9 s9 u9 dv9 w4
                  go_wp2_with fail
                  refine (HSa.out _ H4.out).mono ?_
                  rintro e w5 ⟨rfl, H5⟩
                  go_wp2_with fail
                  go_roundw
                  case rel => exact ⟨j + 1, by go_num, by omega, H5⟩
                  case measure => simp [intOf]; omega
              | true =>
                by_cases e1 : bk = abc
                · have q1 : (mkS bk).toList = [97, 98, 99] := by rw [ByteArray.toList_eq, e1]; rfl
                  have HE1 := Lib.hid e1
                  clear e1
                  by_cases e2 : ky = kx
                  · have q2 : (mkS ky).toList = [107] := by rw [ByteArray.toList_eq, e2]; rfl
                    clear e2
                    as_aux_lemma =>
                      go_upto_region 17 with (fail)
                      rw [HW1.out]
                      clear HW1
                      obtain ⟨c0, c1, c2, c3_, c4, c5, c6, c7, c8, c9⟩ := HBox.out _ hb0
                      go_wp2_with fail
                      refine (HBk.out _ hb0).mono ?_
                      rintro e w2 ⟨rfl, hb2⟩
                      clear c0 c1 c2 c3_ c4 c5 c6 c7 c8 c9
                      obtain ⟨c0, c1, c2, c3_, c4, c5, c6, c7, c8, c9⟩ := HBox.out _ hb2
                      go_wp2_with fail
                      refine (HKy.out _ hb2).mono ?_
                      rintro e w3 ⟨rfl, hb3⟩
                      clear c0 c1 c2 c3_ c4 c5 c6 c7 c8 c9
                      obtain ⟨c0, c1, c2, c3_, c4, c5, c6, c7, c8, c9⟩ := HBox.out _ hb3
                      go_wp2_with fail
                      go_roundw
                      case rel => exact ⟨j + 1, by go_num, by omega, HWV.out _ hb3⟩
                      case measure => simp [intOf]; omega
                  · have q2 := (mkS_ne e2).1
                    have q3 : ¬ (mkS ky).toList = [107] := fun e => e2 (by rw [ByteArray.toList_eq] at e; exact e)
                    have HE2 := Lib.hid e2
                    clear e2
                    replace q2 : ((mkS ky).toList == [107]) = false := q2
                    as_aux_lemma =>
                      go_upto_region 17 with (fail)
                      rw [HW1.out]
                      clear HW1
                      obtain ⟨c0, c1, c2, c3_, c4, c5, c6, c7, c8, c9⟩ := HBox.out _ hb0
                      go_wp2_with fail
                      refine (HBk.out _ hb0).mono ?_
                      rintro e w2 ⟨rfl, hb2⟩
                      clear c0 c1 c2 c3_ c4 c5 c6 c7 c8 c9
                      obtain ⟨c0, c1, c2, c3_, c4, c5, c6, c7, c8, c9⟩ := HBox.out _ hb2
                      go_wp2_with fail
                      refine (HKy.out _ hb2).mono ?_
                      rintro e w3 ⟨rfl, hb3⟩
                      clear c0 c1 c2 c3_ c4 c5 c6 c7 c8 c9
                      obtain ⟨c0, c1, c2, c3_, c4, c5, c6, c7, c8, c9⟩ := HBox.out _ hb3
                      go_wp2_with fail
                      go_roundw
                      case rel => exact ⟨j + 1, by go_num, by omega, HWV.out _ hb3⟩
                      case measure => simp [intOf]; omega
                · have q2 := (mkS_ne e1).1
                  have q1 : ¬ (mkS bk).toList = [97, 98, 99] := fun e => e1 (by rw [ByteArray.toList_eq] at e; exact e)
                  replace q2 : ((mkS bk).toList == [97, 98, 99]) = false := q2
                  have HE1 := Lib.hid e1
                  clear e1
                  by_cases n1 : 0 ≤ nn
                  · have HN1 := Lib.hid n1
                    as_aux_lemma =>
                      go_upto_region 17 with (fail)
                      rw [HW1.out]
                      clear HW1
                      obtain ⟨c0, c1, c2, c3_, c4, c5, c6, c7, c8, c9⟩ := HBox.out _ hb0
                      go_wp2_with fail
                      refine (HBk.out _ hb0).mono ?_
                      rintro e w2 ⟨rfl, hb2⟩
                      clear c0 c1 c2 c3_ c4 c5 c6 c7 c8 c9
                      obtain ⟨c0, c1, c2, c3_, c4, c5, c6, c7, c8, c9⟩ := HBox.out _ hb2
                      go_wp2_with fail
                      refine (HKy.out _ hb2).mono ?_
                      rintro e w3 ⟨rfl, hb3⟩
                      clear c0 c1 c2 c3_ c4 c5 c6 c7 c8 c9
                      obtain ⟨c0, c1, c2, c3_, c4, c5, c6, c7, c8, c9⟩ := HBox.out _ hb3
                      go_wp2_with fail
                      refine (HCa.out _ 13 hb3 (by simp [Named]) (tell13 (HNX.out.trans rfl) (by have h := HX.out.dt; simp only at h ⊢; omega) HE1.out HN1.out (by simp))).mono ?_
                      rintro e w4 ⟨⟨i9, m9, s9, u9, dv9, rfl⟩, H4⟩
                      have hfe := field_err 13 i9 m9 s9 u9 dv9 w4
                      go_wp2_with fail
                      refine (HSa.out _ H4.out).mono ?_
                      rintro e w5 ⟨rfl, H5⟩
                      go_wp2_with fail
                      go_roundw
                      case rel => exact ⟨j + 1, by go_num, by omega, H5⟩
                      case measure => simp [intOf]; omega
                  · have n2 : nn < 0 := by omega
                    as_aux_lemma =>
                      go_upto_region 17 with (fail)
                      rw [HW1.out]
                      clear HW1
                      obtain ⟨c0, c1, c2, c3_, c4, c5, c6, c7, c8, c9⟩ := HBox.out _ hb0
                      go_wp2_with fail
                      refine (HBk.out _ hb0).mono ?_
                      rintro e w2 ⟨rfl, hb2⟩
                      clear c0 c1 c2 c3_ c4 c5 c6 c7 c8 c9
                      obtain ⟨c0, c1, c2, c3_, c4, c5, c6, c7, c8, c9⟩ := HBox.out _ hb2
                      go_wp2_with fail
                      refine (HKy.out _ hb2).mono ?_
                      rintro e w3 ⟨rfl, hb3⟩
                      clear c0 c1 c2 c3_ c4 c5 c6 c7 c8 c9
                      obtain ⟨c0, c1, c2, c3_, c4, c5, c6, c7, c8, c9⟩ := HBox.out _ hb3
                      go_wp2_with fail
                      go_roundw
                      case rel => exact ⟨j + 1, by go_num, by omega, HWV.out _ hb3⟩
                      case measure => simp [intOf]; omega
          · cases ok with
            | false =>
              as_aux_lemma =>
                go_upto_region 17 with (fail)
                rw [HW1.out]
                clear HW1
                obtain ⟨c0, c1, c2, c3_, c4, c5, c6, c7, c8, c9⟩ := HBox.out _ hb0
                go_wp2_with fail
                refine (HBk.out _ hb0).mono ?_
                rintro e w2 ⟨rfl, hb2⟩
                clear c0 c1 c2 c3_ c4 c5 c6 c7 c8 c9
                obtain ⟨c0, c1, c2, c3_, c4, c5, c6, c7, c8, c9⟩ := HBox.out _ hb2
                go_wp2_with fail
                refine (HCa.out _ 12 hb2 (by simp [Named]) (tell12 HNX.out)).mono ?_
                rintro e w4 ⟨⟨i9, m9, s9, u9, dv9, rfl⟩, H4⟩
                have hfe := field_err 12 i9 m9 s9 u9 dv9 w4
                go_wp2_with fail
                refine (HSa.out _ H4.out).mono ?_
                rintro e w5 ⟨rfl, H5⟩
                go_wp2_with fail
                go_roundw
                case rel => exact ⟨j + 1, by go_num, by omega, H5⟩
                case measure => simp [intOf]; omega
            | true =>
              cases kk with
              | false =>
                as_aux_lemma =>
                  go_upto_region 17 with (fail)
                  rw [HW1.out]
                  clear HW1
                  obtain ⟨c0, c1, c2, c3_, c4, c5, c6, c7, c8, c9⟩ := HBox.out _ hb0
                  go_wp2_with fail
                  refine (HBk.out _ hb0).mono ?_
                  rintro e w2 ⟨rfl, hb2⟩
                  clear c0 c1 c2 c3_ c4 c5 c6 c7 c8 c9
                  obtain ⟨c0, c1, c2, c3_, c4, c5, c6, c7, c8, c9⟩ := HBox.out _ hb2
                  go_wp2_with fail
                  refine (HKy.out _ hb2).mono ?_
                  rintro e w3 ⟨rfl, hb3⟩
                  clear c0 c1 c2 c3_ c4 c5 c6 c7 c8 c9
                  obtain ⟨c0, c1, c2, c3_, c4, c5, c6, c7, c8, c9⟩ := HBox.out _ hb3
                  go_wp2_with fail
                  refine (HCa.out _ 12 hb3 (by simp [Named]) (tell12 HNX.out)).mono ?_
                  rintro e w4 ⟨⟨i9, m9, s9, u9, dv9, rfl⟩, H4⟩
                  have hfe := field_err 12 i9 m9 s9 u9 dv9 w4
                  go_wp2_with fail
                  refine (HSa.out _ H4.out).mono ?_
                  rintro e w5 ⟨rfl, H5⟩
                  go_wp2_with fail
                  go_roundw
                  case rel => exact ⟨j + 1, by go_num, by omega, H5⟩
                  case measure => simp [intOf]; omega
              | true =>
                by_cases e1 : bk = abc
                · have q1 : (mkS bk).toList = [97, 98, 99] := by rw [ByteArray.toList_eq, e1]; rfl
                  have HE1 := Lib.hid e1
                  clear e1
                  by_cases e2 : ky = kx
                  · have q2 : (mkS ky).toList = [107] := by rw [ByteArray.toList_eq, e2]; rfl
                    clear e2
                    as_aux_lemma =>
                      go_upto_region 17 with (fail)
                      rw [HW1.out]
                      clear HW1
                      obtain ⟨c0, c1, c2, c3_, c4, c5, c6, c7, c8, c9⟩ := HBox.out _ hb0
                      go_wp2_with fail
                      refine (HBk.out _ hb0).mono ?_
                      rintro e w2 ⟨rfl, hb2⟩
                      clear c0 c1 c2 c3_ c4 c5 c6 c7 c8 c9
                      obtain ⟨c0, c1, c2, c3_, c4, c5, c6, c7, c8, c9⟩ := HBox.out _ hb2
                      go_wp2_with fail
                      refine (HKy.out _ hb2).mono ?_
                      rintro e w3 ⟨rfl, hb3⟩
                      clear c0 c1 c2 c3_ c4 c5 c6 c7 c8 c9
                      obtain ⟨c0, c1, c2, c3_, c4, c5, c6, c7, c8, c9⟩ := HBox.out _ hb3
                      go_wp2_with fail
                      go_roundw
                      case rel => exact ⟨j + 1, by go_num, by omega, HWV.out _ hb3⟩
                      case measure => simp [intOf]; omega
                  · have q2 := (mkS_ne e2).1
                    have q3 : ¬ (mkS ky).toList = [107] := fun e => e2 (by rw [ByteArray.toList_eq] at e; exact e)
                    have HE2 := Lib.hid e2
                    clear e2
                    replace q2 : ((mkS ky).toList == [107]) = false := q2
                    by_cases n1 : 0 ≤ nn
                    · have HN1 := Lib.hid n1
                      as_aux_lemma =>
                        go_upto_region 17 with (fail)
                        rw [HW1.out]
                        clear HW1
                        obtain ⟨c0, c1, c2, c3_, c4, c5, c6, c7, c8, c9⟩ := HBox.out _ hb0
                        go_wp2_with fail
                        refine (HBk.out _ hb0).mono ?_
                        rintro e w2 ⟨rfl, hb2⟩
                        clear c0 c1 c2 c3_ c4 c5 c6 c7 c8 c9
                        obtain ⟨c0, c1, c2, c3_, c4, c5, c6, c7, c8, c9⟩ := HBox.out _ hb2
                        go_wp2_with fail
                        refine (HKy.out _ hb2).mono ?_
                        rintro e w3 ⟨rfl, hb3⟩
                        clear c0 c1 c2 c3_ c4 c5 c6 c7 c8 c9
                        obtain ⟨c0, c1, c2, c3_, c4, c5, c6, c7, c8, c9⟩ := HBox.out _ hb3
                        go_wp2_with fail
                        refine (HCa.out _ 14 hb3 (by simp [Named]) (tell14 (HNX.out.trans rfl) HE1.out HE2.out (by simp) HN1.out (by simp))).mono ?_
                        rintro e w4 ⟨⟨i9, m9, s9, u9, dv9, rfl⟩, H4⟩
                        have hfe := field_err 14 i9 m9 s9 u9 dv9 w4
                        go_wp2_with fail
                        refine (HSa.out _ H4.out).mono ?_
                        rintro e w5 ⟨rfl, H5⟩
                        go_wp2_with fail
                        go_roundw
                        case rel => exact ⟨j + 1, by go_num, by omega, H5⟩
                        case measure => simp [intOf]; omega
                    · have n2 : nn < 0 := by omega
                      as_aux_lemma =>
                        go_upto_region 17 with (fail)
                        rw [HW1.out]
                        clear HW1
                        obtain ⟨c0, c1, c2, c3_, c4, c5, c6, c7, c8, c9⟩ := HBox.out _ hb0
                        go_wp2_with fail
                        refine (HBk.out _ hb0).mono ?_
                        rintro e w2 ⟨rfl, hb2⟩
                        clear c0 c1 c2 c3_ c4 c5 c6 c7 c8 c9
                        obtain ⟨c0, c1, c2, c3_, c4, c5, c6, c7, c8, c9⟩ := HBox.out _ hb2
                        go_wp2_with fail
                        refine (HKy.out _ hb2).mono ?_
                        rintro e w3 ⟨rfl, hb3⟩
                        clear c0 c1 c2 c3_ c4 c5 c6 c7 c8 c9
                        obtain ⟨c0, c1, c2, c3_, c4, c5, c6, c7, c8, c9⟩ := HBox.out _ hb3
                        go_wp2_with fail
                        go_roundw
                        case rel => exact ⟨j + 1, by go_num, by omega, HWV.out _ hb3⟩
                        case measure => simp [intOf]; omega
                · have q2 := (mkS_ne e1).1
                  have q1 : ¬ (mkS bk).toList = [97, 98, 99] := fun e => e1 (by rw [ByteArray.toList_eq] at e; exact e)
                  replace q2 : ((mkS bk).toList == [97, 98, 99]) = false := q2
                  have HE1 := Lib.hid e1
                  clear e1
                  by_cases n1 : 0 ≤ nn
                  · have HN1 := Lib.hid n1
                    as_aux_lemma =>
                      go_upto_region 17 with (fail)
                      rw [HW1.out]
                      clear HW1
                      obtain ⟨c0, c1, c2, c3_, c4, c5, c6, c7, c8, c9⟩ := HBox.out _ hb0
                      go_wp2_with fail
                      refine (HBk.out _ hb0).mono ?_
                      rintro e w2 ⟨rfl, hb2⟩
                      clear c0 c1 c2 c3_ c4 c5 c6 c7 c8 c9
                      obtain ⟨c0, c1, c2, c3_, c4, c5, c6, c7, c8, c9⟩ := HBox.out _ hb2
                      go_wp2_with fail
                      refine (HKy.out _ hb2).mono ?_
                      rintro e w3 ⟨rfl, hb3⟩
                      clear c0 c1 c2 c3_ c4 c5 c6 c7 c8 c9
                      obtain ⟨c0, c1, c2, c3_, c4, c5, c6, c7, c8, c9⟩ := HBox.out _ hb3
                      go_wp2_with fail
                      refine (HCa.out _ 13 hb3 (by simp [Named]) (tell13 (HNX.out.trans rfl) (by have h := HX.out.dt; simp only at h ⊢; omega) HE1.out HN1.out (by simp))).mono ?_
                      rintro e w4 ⟨⟨i9, m9, s9, u9, dv9, rfl⟩, H4⟩
                      have hfe := field_err 13 i9 m9 s9 u9 dv9 w4
                      go_wp2_with fail
                      refine (HSa.out _ H4.out).mono ?_
                      rintro e w5 ⟨rfl, H5⟩
                      go_wp2_with fail
                      go_roundw
                      case rel => exact ⟨j + 1, by go_num, by omega, H5⟩
                      case measure => simp [intOf]; omega
                  · have n2 : nn < 0 := by omega
                    as_aux_lemma =>
                      go_upto_region 17 with (fail)
                      rw [HW1.out]
                      clear HW1
                      obtain ⟨c0, c1, c2, c3_, c4, c5, c6, c7, c8, c9⟩ := HBox.out _ hb0
                      go_wp2_with fail
                      refine (HBk.out _ hb0).mono ?_
                      rintro e w2 ⟨rfl, hb2⟩
                      clear c0 c1 c2 c3_ c4 c5 c6 c7 c8 c9
                      obtain ⟨c0, c1, c2, c3_, c4, c5, c6, c7, c8, c9⟩ := HBox.out _ hb2
                      go_wp2_with fail
                      refine (HKy.out _ hb2).mono ?_
                      rintro e w3 ⟨rfl, hb3⟩
                      clear c0 c1 c2 c3_ c4 c5 c6 c7 c8 c9
                      obtain ⟨c0, c1, c2, c3_, c4, c5, c6, c7, c8, c9⟩ := HBox.out _ hb3
                      go_wp2_with fail
                      go_roundw
                      case rel => exact ⟨j + 1, by go_num, by omega, HWV.out _ hb3⟩
                      case measure => simp [intOf]; omega
          · cases ok with
            | false =>
              as_aux_lemma =>
                go_upto_region 17 with (fail)
                rw [HW1.out]
                clear HW1
                obtain ⟨c0, c1, c2, c3_, c4, c5, c6, c7, c8, c9⟩ := HBox.out _ hb0
                go_wp2_with fail
                refine (HBk.out _ hb0).mono ?_
                rintro e w2 ⟨rfl, hb2⟩
                clear c0 c1 c2 c3_ c4 c5 c6 c7 c8 c9
                obtain ⟨c0, c1, c2, c3_, c4, c5, c6, c7, c8, c9⟩ := HBox.out _ hb2
                go_wp2_with fail
                refine (HCa.out _ 12 hb2 (by simp [Named]) (tell12 HNX.out)).mono ?_
                rintro e w4 ⟨⟨i9, m9, s9, u9, dv9, rfl⟩, H4⟩
                have hfe := field_err 12 i9 m9 s9 u9 dv9 w4
                go_wp2_with fail
                refine (HSa.out _ H4.out).mono ?_
                rintro e w5 ⟨rfl, H5⟩
                go_wp2_with fail
                go_roundw
                case rel => exact ⟨j + 1, by go_num, by omega, H5⟩
                case measure => simp [intOf]; omega
            | true =>
              cases kk with
              | false =>
                as_aux_lemma =>
                  go_upto_region 17 with (fail)
                  rw [HW1.out]
                  clear HW1
                  obtain ⟨c0, c1, c2, c3_, c4, c5, c6, c7, c8, c9⟩ := HBox.out _ hb0
                  go_wp2_with fail
                  refine (HBk.out _ hb0).mono ?_
                  rintro e w2 ⟨rfl, hb2⟩
                  clear c0 c1 c2 c3_ c4 c5 c6 c7 c8 c9
                  obtain ⟨c0, c1, c2, c3_, c4, c5, c6, c7, c8, c9⟩ := HBox.out _ hb2
                  go_wp2_with fail
                  refine (HKy.out _ hb2).mono ?_
                  rintro e w3 ⟨rfl, hb3⟩
                  clear c0 c1 c2 c3_ c4 c5 c6 c7 c8 c9
                  obtain ⟨c0, c1, c2, c3_, c4, c5, c6, c7, c8, c9⟩ := HBox.out _ hb3
                  go_wp2_with fail
                  refine (HCa.out _ 12 hb3 (by simp [Named]) (tell12 HNX.out)).mono ?_
                  rintro e w4 ⟨⟨i9, m9, s9, u9, dv9, rfl⟩, H4⟩
                  have hfe := field_err 12 i9 m9 s9 u9 dv9 w4
                  go_wp2_with fail
                  refine (HSa.out _ H4.out).mono ?_
                  rintro e w5 ⟨rfl, H5⟩
                  go_wp2_with fail
                  go_roundw
                  case rel => exact ⟨j + 1, by go_num, by omega, H5⟩
                  case measure => simp [intOf]; omega
              | true =>
                by_cases e1 : bk = abc
                · have q1 : (mkS bk).toList = [97, 98, 99] := by rw [ByteArray.toList_eq, e1]; rfl
                  have HE1 := Lib.hid e1
                  clear e1
                  by_cases e2 : ky = kx
                  · have q2 : (mkS ky).toList = [107] := by rw [ByteArray.toList_eq, e2]; rfl
                    clear e2
                    as_aux_lemma =>
                      go_upto_region 17 with (fail)
                      rw [HW1.out]
                      clear HW1
                      obtain ⟨c0, c1, c2, c3_, c4, c5, c6, c7, c8, c9⟩ := HBox.out _ hb0
                      go_wp2_with fail
                      refine (HBk.out _ hb0).mono ?_
                      rintro e w2 ⟨rfl, hb2⟩
                      clear c0 c1 c2 c3_ c4 c5 c6 c7 c8 c9
                      obtain ⟨c0, c1, c2, c3_, c4, c5, c6, c7, c8, c9⟩ := HBox.out _ hb2
                      go_wp2_with fail
                      refine (HKy.out _ hb2).mono ?_
                      rintro e w3 ⟨rfl, hb3⟩
                      clear c0 c1 c2 c3_ c4 c5 c6 c7 c8 c9
                      obtain ⟨c0, c1, c2, c3_, c4, c5, c6, c7, c8, c9⟩ := HBox.out _ hb3
                      go_wp2_with fail
                      go_roundw
                      case rel => exact ⟨j + 1, by go_num, by omega, HWV.out _ hb3⟩
                      case measure => simp [intOf]; omega
                  · have q2 := (mkS_ne e2).1
                    have q3 : ¬ (mkS ky).toList = [107] := fun e => e2 (by rw [ByteArray.toList_eq] at e; exact e)
                    have HE2 := Lib.hid e2
                    clear e2
                    replace q2 : ((mkS ky).toList == [107]) = false := q2
                    by_cases n1 : 0 ≤ nn
                    · have HN1 := Lib.hid n1
                      as_aux_lemma =>
                        go_upto_region 17 with (fail)
                        rw [HW1.out]
                        clear HW1
                        obtain ⟨c0, c1, c2, c3_, c4, c5, c6, c7, c8, c9⟩ := HBox.out _ hb0
                        go_wp2_with fail
                        refine (HBk.out _ hb0).mono ?_
                        rintro e w2 ⟨rfl, hb2⟩
                        clear c0 c1 c2 c3_ c4 c5 c6 c7 c8 c9
                        obtain ⟨c0, c1, c2, c3_, c4, c5, c6, c7, c8, c9⟩ := HBox.out _ hb2
                        go_wp2_with fail
                        refine (HKy.out _ hb2).mono ?_
                        rintro e w3 ⟨rfl, hb3⟩
                        clear c0 c1 c2 c3_ c4 c5 c6 c7 c8 c9
                        obtain ⟨c0, c1, c2, c3_, c4, c5, c6, c7, c8, c9⟩ := HBox.out _ hb3
                        go_wp2_with fail
                        refine (HCa.out _ 14 hb3 (by simp [Named]) (tell14 (HNX.out.trans rfl) HE1.out HE2.out (by simp) HN1.out (by simp))).mono ?_
                        rintro e w4 ⟨⟨i9, m9, s9, u9, dv9, rfl⟩, H4⟩
                        have hfe := field_err 14 i9 m9 s9 u9 dv9 w4
                        go_wp2_with fail
                        refine (HSa.out _ H4.out).mono ?_
                        rintro e w5 ⟨rfl, H5⟩
                        go_wp2_with fail
                        go_roundw
                        case rel => exact ⟨j + 1, by go_num, by omega, H5⟩
                        case measure => simp [intOf]; omega
                    · have n2 : nn < 0 := by omega
                      as_aux_lemma =>
                        go_upto_region 17 with (fail)
                        rw [HW1.out]
                        clear HW1
                        obtain ⟨c0, c1, c2, c3_, c4, c5, c6, c7, c8, c9⟩ := HBox.out _ hb0
                        go_wp2_with fail
                        refine (HBk.out _ hb0).mono ?_
                        rintro e w2 ⟨rfl, hb2⟩
                        clear c0 c1 c2 c3_ c4 c5 c6 c7 c8 c9
                        obtain ⟨c0, c1, c2, c3_, c4, c5, c6, c7, c8, c9⟩ := HBox.out _ hb2
                        go_wp2_with fail
                        refine (HKy.out _ hb2).mono ?_
                        rintro e w3 ⟨rfl, hb3⟩
                        clear c0 c1 c2 c3_ c4 c5 c6 c7 c8 c9
                        obtain ⟨c0, c1, c2, c3_, c4, c5, c6, c7, c8, c9⟩ := HBox.out _ hb3
                        go_wp2_with fail
                        go_roundw
                        case rel => exact ⟨j + 1, by go_num, by omega, HWV.out _ hb3⟩
                        case measure => simp [intOf]; omega
                · have q2 := (mkS_ne e1).1
                  have q1 : ¬ (mkS bk).toList = [97, 98, 99] := fun e => e1 (by rw [ByteArray.toList_eq] at e; exact e)
                  replace q2 : ((mkS bk).toList == [97, 98, 99]) = false := q2
                  have HE1 := Lib.hid e1
                  clear e1
                  by_cases n1 : 0 ≤ nn
                  · have HN1 := Lib.hid n1
                    as_aux_lemma =>
                      go_upto_region 17 with (fail)
                      rw [HW1.out]
                      clear HW1
                      obtain ⟨c0, c1, c2, c3_, c4, c5, c6, c7, c8, c9⟩ := HBox.out _ hb0
                      go_wp2_with fail
                      refine (HBk.out _ hb0).mono ?_
                      rintro e w2 ⟨rfl, hb2⟩
                      clear c0 c1 c2 c3_ c4 c5 c6 c7 c8 c9
                      obtain ⟨c0, c1, c2, c3_, c4, c5, c6, c7, c8, c9⟩ := HBox.out _ hb2
                      go_wp2_with fail
                      refine (HKy.out _ hb2).mono ?_
                      rintro e w3 ⟨rfl, hb3⟩
                      clear c0 c1 c2 c3_ c4 c5 c6 c7 c8 c9
                      obtain ⟨c0, c1, c2, c3_, c4, c5, c6, c7, c8, c9⟩ := HBox.out _ hb3
                      go_wp2_with fail
                      refine (HCa.out _ 13 hb3 (by simp [Named]) (tell13 (HNX.out.trans rfl) (by have h := HX.out.dt; simp only at h ⊢; omega) HE1.out HN1.out (by simp))).mono ?_
                      rintro e w4 ⟨⟨i9, m9, s9, u9, dv9, rfl⟩, H4⟩
                      have hfe := field_err 13 i9 m9 s9 u9 dv9 w4
                      go_wp2_with fail
                      refine (HSa.out _ H4.out).mono ?_
                      rintro e w5 ⟨rfl, H5⟩
                      go_wp2_with fail
                      go_roundw
                      case rel => exact ⟨j + 1, by go_num, by omega, H5⟩
                      case measure => simp [intOf]; omega
                  · have n2 : nn < 0 := by omega
                    as_aux_lemma =>
                      go_upto_region 17 with (fail)
                      rw [HW1.out]
                      clear HW1
                      obtain ⟨c0, c1, c2, c3_, c4, c5, c6, c7, c8, c9⟩ := HBox.out _ hb0
                      go_wp2_with fail
                      refine (HBk.out _ hb0).mono ?_
                      rintro e w2 ⟨rfl, hb2⟩
                      clear c0 c1 c2 c3_ c4 c5 c6 c7 c8 c9
                      obtain ⟨c0, c1, c2, c3_, c4, c5, c6, c7, c8, c9⟩ := HBox.out _ hb2
                      go_wp2_with fail
                      refine (HKy.out _ hb2).mono ?_
                      rintro e w3 ⟨rfl, hb3⟩
                      clear c0 c1 c2 c3_ c4 c5 c6 c7 c8 c9
                      obtain ⟨c0, c1, c2, c3_, c4, c5, c6, c7, c8, c9⟩ := HBox.out _ hb3
                      go_wp2_with fail
                      go_roundw
                      case rel => exact ⟨j + 1, by go_num, by omega, HWV.out _ hb3⟩
                      case measure => simp [intOf]; omega
          · cases ok with
            | false =>
              as_aux_lemma =>
                go_upto_region 17 with (fail)
                rw [HW1.out]
                clear HW1
                obtain ⟨c0, c1, c2, c3_, c4, c5, c6, c7, c8, c9⟩ := HBox.out _ hb0
                go_wp2_with fail
                refine (HBk.out _ hb0).mono ?_
                rintro e w2 ⟨rfl, hb2⟩
                clear c0 c1 c2 c3_ c4 c5 c6 c7 c8 c9
                obtain ⟨c0, c1, c2, c3_, c4, c5, c6, c7, c8, c9⟩ := HBox.out _ hb2
                go_wp2_with fail
                refine (HCa.out _ 12 hb2 (by simp [Named]) (tell12 HNX.out)).mono ?_
                rintro e w4 ⟨⟨i9, m9, s9, u9, dv9, rfl⟩, H4⟩
                have hfe := field_err 12 i9 m9 s9 u9 dv9 w4
                go_wp2_with fail
                refine (HSa.out _ H4.out).mono ?_
                rintro e w5 ⟨rfl, H5⟩
                go_wp2_with fail
                go_roundw
                case rel => exact ⟨j + 1, by go_num, by omega, H5⟩
                case measure => simp [intOf]; omega
            | true =>
              cases kk with
              | false =>
                as_aux_lemma =>
                  go_upto_region 17 with (fail)
                  rw [HW1.out]
                  clear HW1
                  obtain ⟨c0, c1, c2, c3_, c4, c5, c6, c7, c8, c9⟩ := HBox.out _ hb0
                  go_wp2_with fail
                  refine (HBk.out _ hb0).mono ?_
                  rintro e w2 ⟨rfl, hb2⟩
                  clear c0 c1 c2 c3_ c4 c5 c6 c7 c8 c9
                  obtain ⟨c0, c1, c2, c3_, c4, c5, c6, c7, c8, c9⟩ := HBox.out _ hb2
                  go_wp2_with fail
                  refine (HKy.out _ hb2).mono ?_
                  rintro e w3 ⟨rfl, hb3⟩
                  clear c0 c1 c2 c3_ c4 c5 c6 c7 c8 c9
                  obtain ⟨c0, c1, c2, c3_, c4, c5, c6, c7, c8, c9⟩ := HBox.out _ hb3
                  go_wp2_with fail
                  refine (HCa.out _ 12 hb3 (by simp [Named]) (tell12 HNX.out)).mono ?_
                  rintro e w4 ⟨⟨i9, m9, s9, u9, dv9, rfl⟩, H4⟩
                  have hfe := field_err 12 i9 m9 s9 u9 dv9 w4
                  go_wp2_with fail
                  refine (HSa.out _ H4.out).mono ?_
                  rintro e w5 ⟨rfl, H5⟩
                  go_wp2_with fail
                  go_roundw
                  case rel => exact ⟨j + 1, by go_num, by omega, H5⟩
                  case measure => simp [intOf]; omega
              | true =>
                by_cases e1 : bk = abc
                · have q1 : (mkS bk).toList = [97, 98, 99] := by rw [ByteArray.toList_eq, e1]; rfl
                  have HE1 := Lib.hid e1
                  clear e1
                  by_cases e2 : ky = kx
                  · have q2 : (mkS ky).toList = [107] := by rw [ByteArray.toList_eq, e2]; rfl
                    clear e2
                    as_aux_lemma =>
                      go_upto_region 17 with (fail)
                      rw [HW1.out]
                      clear HW1
                      obtain ⟨c0, c1, c2, c3_, c4, c5, c6, c7, c8, c9⟩ := HBox.out _ hb0
                      go_wp2_with fail
                      refine (HBk.out _ hb0).mono ?_
                      rintro e w2 ⟨rfl, hb2⟩
                      clear c0 c1 c2 c3_ c4 c5 c6 c7 c8 c9
                      obtain ⟨c0, c1, c2, c3_, c4, c5, c6, c7, c8, c9⟩ := HBox.out _ hb2
                      go_wp2_with fail
                      refine (HKy.out _ hb2).mono ?_
                      rintro e w3 ⟨rfl, hb3⟩
                      clear c0 c1 c2 c3_ c4 c5 c6 c7 c8 c9
                      obtain ⟨c0, c1, c2, c3_, c4, c5, c6, c7, c8, c9⟩ := HBox.out _ hb3
                      go_wp2_with fail
                      go_roundw
                      case rel => exact ⟨j + 1, by go_num, by omega, HWV.out _ hb3⟩
                      case measure => simp [intOf]; omega
                  · have q2 := (mkS_ne e2).1
                    have q3 : ¬ (mkS ky).toList = [107] := fun e => e2 (by rw [ByteArray.toList_eq] at e; exact e)
                    have HE2 := Lib.hid e2
                    clear e2
                    replace q2 : ((mkS ky).toList == [107]) = false := q2
                    by_cases n1 : 0 ≤ nn
                    · have HN1 := Lib.hid n1
                      as_aux_lemma =>
                        go_upto_region 17 with (fail)
                        rw [HW1.out]
                        clear HW1
                        obtain ⟨c0, c1, c2, c3_, c4, c5, c6, c7, c8, c9⟩ := HBox.out _ hb0
                        go_wp2_with fail
                        refine (HBk.out _ hb0).mono ?_
                        rintro e w2 ⟨rfl, hb2⟩
                        clear c0 c1 c2 c3_ c4 c5 c6 c7 c8 c9
                        obtain ⟨c0, c1, c2, c3_, c4, c5, c6, c7, c8, c9⟩ := HBox.out _ hb2
                        go_wp2_with fail
                        refine (HKy.out _ hb2).mono ?_
                        rintro e w3 ⟨rfl, hb3⟩
                        clear c0 c1 c2 c3_ c4 c5 c6 c7 c8 c9
                        obtain ⟨c0, c1, c2, c3_, c4, c5, c6, c7, c8, c9⟩ := HBox.out _ hb3
                        go_wp2_with fail
                        refine (HCa.out _ 14 hb3 (by simp [Named]) (tell14 (HNX.out.trans rfl) HE1.out HE2.out (by simp) HN1.out (by simp))).mono ?_
                        rintro e w4 ⟨⟨i9, m9, s9, u9, dv9, rfl⟩, H4⟩
                        have hfe := field_err 14 i9 m9 s9 u9 dv9 w4
                        go_wp2_with fail
                        refine (HSa.out _ H4.out).mono ?_
                        rintro e w5 ⟨rfl, H5⟩
                        go_wp2_with fail
                        go_roundw
                        case rel => exact ⟨j + 1, by go_num, by omega, H5⟩
                        case measure => simp [intOf]; omega
                    · have n2 : nn < 0 := by omega
                      as_aux_lemma =>
                        go_upto_region 17 with (fail)
                        rw [HW1.out]
                        clear HW1
                        obtain ⟨c0, c1, c2, c3_, c4, c5, c6, c7, c8, c9⟩ := HBox.out _ hb0
                        go_wp2_with fail
                        refine (HBk.out _ hb0).mono ?_
                        rintro e w2 ⟨rfl, hb2⟩
                        clear c0 c1 c2 c3_ c4 c5 c6 c7 c8 c9
                        obtain ⟨c0, c1, c2, c3_, c4, c5, c6, c7, c8, c9⟩ := HBox.out _ hb2
                        go_wp2_with fail
                        refine (HKy.out _ hb2).mono ?_
                        rintro e w3 ⟨rfl, hb3⟩
                        clear c0 c1 c2 c3_ c4 c5 c6 c7 c8 c9
                        obtain ⟨c0, c1, c2, c3_, c4, c5, c6, c7, c8, c9⟩ := HBox.out _ hb3
                        go_wp2_with fail
                        go_roundw
                        case rel => exact ⟨j + 1, by go_num, by omega, HWV.out _ hb3⟩
                        case measure => simp [intOf]; omega
                · have q2 := (mkS_ne e1).1
                  have q1 : ¬ (mkS bk).toList = [97, 98, 99] := fun e => e1 (by rw [ByteArray.toList_eq] at e; exact e)
                  replace q2 : ((mkS bk).toList == [97, 98, 99]) = false := q2
                  have HE1 := Lib.hid e1
                  clear e1
                  by_cases n1 : 0 ≤ nn
                  · have HN1 := Lib.hid n1
                    as_aux_lemma =>
                      go_upto_region 17 with (fail)
                      rw [HW1.out]
                      clear HW1
                      obtain ⟨c0, c1, c2, c3_, c4, c5, c6, c7, c8, c9⟩ := HBox.out _ hb0
                      go_wp2_with fail
                      refine (HBk.out _ hb0).mono ?_
                      rintro e w2 ⟨rfl, hb2⟩
                      clear c0 c1 c2 c3_ c4 c5 c6 c7 c8 c9
                      obtain ⟨c0, c1, c2, c3_, c4, c5, c6, c7, c8, c9⟩ := HBox.out _ hb2
                      go_wp2_with fail
                      refine (HKy.out _ hb2).mono ?_
                      rintro e w3 ⟨rfl, hb3⟩
                      clear c0 c1 c2 c3_ c4 c5 c6 c7 c8 c9
                      obtain ⟨c0, c1, c2, c3_, c4, c5, c6, c7, c8, c9⟩ := HBox.out _ hb3
                      go_wp2_with fail
                      refine (HCa.out _ 13 hb3 (by simp [Named]) (tell13 (HNX.out.trans rfl) (by have h := HX.out.dt; simp only at h ⊢; omega) HE1.out HN1.out (by simp))).mono ?_
                      rintro e w4 ⟨⟨i9, m9, s9, u9, dv9, rfl⟩, H4⟩
                      have hfe := field_err 13 i9 m9 s9 u9 dv9 w4
                      go_wp2_with fail
                      refine (HSa.out _ H4.out).mono ?_
                      rintro e w5 ⟨rfl, H5⟩
                      go_wp2_with fail
                      go_roundw
                      case rel => exact ⟨j + 1, by go_num, by omega, H5⟩
                      case measure => simp [intOf]; omega
                  · have n2 : nn < 0 := by omega
                    as_aux_lemma =>
                      go_upto_region 17 with (fail)
                      rw [HW1.out]
                      clear HW1
                      obtain ⟨c0, c1, c2, c3_, c4, c5, c6, c7, c8, c9⟩ := HBox.out _ hb0
                      go_wp2_with fail
                      refine (HBk.out _ hb0).mono ?_
                      rintro e w2 ⟨rfl, hb2⟩
                      clear c0 c1 c2 c3_ c4 c5 c6 c7 c8 c9
                      obtain ⟨c0, c1, c2, c3_, c4, c5, c6, c7, c8, c9⟩ := HBox.out _ hb2
                      go_wp2_with fail
                      refine (HKy.out _ hb2).mono ?_
                      rintro e w3 ⟨rfl, hb3⟩
                      clear c0 c1 c2 c3_ c4 c5 c6 c7 c8 c9
                      obtain ⟨c0, c1, c2, c3_, c4, c5, c6, c7, c8, c9⟩ := HBox.out _ hb3
                      go_wp2_with fail
                      go_roundw
                      case rel => exact ⟨j + 1, by go_num, by omega, HWV.out _ hb3⟩
                      case measure => simp [intOf]; omega
          · cases ok with
            | false =>
              as_aux_lemma =>
                go_upto_region 17 with (fail)
                rw [HW1.out]
                clear HW1
                obtain ⟨c0, c1, c2, c3_, c4, c5, c6, c7, c8, c9⟩ := HBox.out _ hb0
                go_wp2_with fail
                refine (HBk.out _ hb0).mono ?_
                rintro e w2 ⟨rfl, hb2⟩
                clear c0 c1 c2 c3_ c4 c5 c6 c7 c8 c9
                obtain ⟨c0, c1, c2, c3_, c4, c5, c6, c7, c8, c9⟩ := HBox.out _ hb2
                go_wp2_with fail
                refine (HCa.out _ 12 hb2 (by simp [Named]) (tell12 HNX.out)).mono ?_
                rintro e w4 ⟨⟨i9, m9, s9, u9, dv9, rfl⟩, H4⟩
                have hfe := field_err 12 i9 m9 s9 u9 dv9 w4
                go_wp2_with fail
                refine (HSa.out _ H4.out).mono ?_
                rintro e w5 ⟨rfl, H5⟩
                go_wp2_with fail
                go_roundw
                case rel => exact ⟨j + 1, by go_num, by omega, H5⟩
                case measure => simp [intOf]; omega
            | true =>
              cases kk with
              | false =>
                as_aux_lemma =>
                  go_upto_region 17 with (fail)
                  rw [HW1.out]
                  clear HW1
                  obtain ⟨c0, c1, c2, c3_, c4, c5, c6, c7, c8, c9⟩ := HBox.out _ hb0
                  go_wp2_with fail
                  refine (HBk.out _ hb0).mono ?_
                  rintro e w2 ⟨rfl, hb2⟩
                  clear c0 c1 c2 c3_ c4 c5 c6 c7 c8 c9
                  obtain ⟨c0, c1, c2, c3_, c4, c5, c6, c7, c8, c9⟩ := HBox.out _ hb2
                  go_wp2_with fail
                  refine (HKy.out _ hb2).mono ?_
                  rintro e w3 ⟨rfl, hb3⟩
                  clear c0 c1 c2 c3_ c4 c5 c6 c7 c8 c9
                  obtain ⟨c0, c1, c2, c3_, c4, c5, c6, c7, c8, c9⟩ := HBox.out _ hb3
                  go_wp2_with fail
                  refine (HCa.out _ 12 hb3 (by simp [Named]) (tell12 HNX.out)).mono ?_
                  rintro e w4 ⟨⟨i9, m9, s9, u9, dv9, rfl⟩, H4⟩
                  have hfe := field_err 12 i9 m9 s9 u9 dv9 w4
                  go_wp2_with fail
                  refine (HSa.out _ H4.out).mono ?_
                  rintro e w5 ⟨rfl, H5⟩
                  go_wp2_with fail
                  go_roundw
                  case rel => exact ⟨j + 1, by go_num, by omega, H5⟩
                  case measure => simp [intOf]; omega
              | true =>
                by_cases e1 : bk = abc
                · have q1 : (mkS bk).toList = [97, 98, 99] := by rw [ByteArray.toList_eq, e1]; rfl
                  have HE1 := Lib.hid e1
                  clear e1
                  by_cases e2 : ky = kx
                  · have q2 : (mkS ky).toList = [107] := by rw [ByteArray.toList_eq, e2]; rfl
                    clear e2
                    as_aux_lemma =>
                      go_upto_region 17 with (fail)
                      rw [HW1.out]
                      clear HW1
                      obtain ⟨c0, c1, c2, c3_, c4, c5, c6, c7, c8, c9⟩ := HBox.out _ hb0
                      go_wp2_with fail
                      refine (HBk.out _ hb0).mono ?_
                      rintro e w2 ⟨rfl, hb2⟩
                      clear c0 c1 c2 c3_ c4 c5 c6 c7 c8 c9
                      obtain ⟨c0, c1, c2, c3_, c4, c5, c6, c7, c8, c9⟩ := HBox.out _ hb2
                      go_wp2_with fail
                      refine (HKy.out _ hb2).mono ?_
                      rintro e w3 ⟨rfl, hb3⟩
                      clear c0 c1 c2 c3_ c4 c5 c6 c7 c8 c9
                      obtain ⟨c0, c1, c2, c3_, c4, c5, c6, c7, c8, c9⟩ := HBox.out _ hb3
                      go_wp2_with fail
                      go_roundw
                      case rel => exact ⟨j + 1, by go_num, by omega, HWV.out _ hb3⟩
                      case measure => simp [intOf]; omega
                  · have q2 := (mkS_ne e2).1
                    have q3 : ¬ (mkS ky).toList = [107] := fun e => e2 (by rw [ByteArray.toList_eq] at e; exact e)
                    have HE2 := Lib.hid e2
                    clear e2
                    replace q2 : ((mkS ky).toList == [107]) = false := q2
                    by_cases n1 : 0 ≤ nn
                    · have HN1 := Lib.hid n1
                      by_cases n0 : nn = 0
                      · subst n0
                        as_aux_lemma =>
                          go_upto_region 17 with (fail)
                          rw [HW1.out]
                          clear HW1
                          obtain ⟨c0, c1, c2, c3_, c4, c5, c6, c7, c8, c9⟩ := HBox.out _ hb0
                          go_wp2_with fail
                          refine (HBk.out _ hb0).mono ?_
                          rintro e w2 ⟨rfl, hb2⟩
                          clear c0 c1 c2 c3_ c4 c5 c6 c7 c8 c9
                          obtain ⟨c0, c1, c2, c3_, c4, c5, c6, c7, c8, c9⟩ := HBox.out _ hb2
                          go_wp2_with fail
                          refine (HKy.out _ hb2).mono ?_
                          rintro e w3 ⟨rfl, hb3⟩
                          clear c0 c1 c2 c3_ c4 c5 c6 c7 c8 c9
                          obtain ⟨c0, c1, c2, c3_, c4, c5, c6, c7, c8, c9⟩ := HBox.out _ hb3
                          go_wp2_with fail
                          go_roundw
                          case rel => exact ⟨j + 1, by go_num, by omega, HWV.out _ hb3⟩
                          case measure => simp [intOf]; omega
                      · have n2 : (nn == 0) = false := by simp [n0]
                        have HN0 := Lib.hid n0
                        as_aux_lemma =>
                          go_upto_region 17 with (fail)
                          rw [HW1.out]
                          clear HW1
                          obtain ⟨c0, c1, c2, c3_, c4, c5, c6, c7, c8, c9⟩ := HBox.out _ hb0
                          go_wp2_with fail
                          refine (HBk.out _ hb0).mono ?_
                          rintro e w2 ⟨rfl, hb2⟩
                          clear c0 c1 c2 c3_ c4 c5 c6 c7 c8 c9
                          obtain ⟨c0, c1, c2, c3_, c4, c5, c6, c7, c8, c9⟩ := HBox.out _ hb2
                          go_wp2_with fail
                          refine (HKy.out _ hb2).mono ?_
                          rintro e w3 ⟨rfl, hb3⟩
                          clear c0 c1 c2 c3_ c4 c5 c6 c7 c8 c9
                          obtain ⟨c0, c1, c2, c3_, c4, c5, c6, c7, c8, c9⟩ := HBox.out _ hb3
                          go_wp2_with fail
                          refine (HCa.out _ 14 hb3 (by simp [Named]) (tell14 (HNX.out.trans rfl) HE1.out HE2.out (by simp) HN1.out (fun _ => HN0.out))).mono ?_
                          rintro e w4 ⟨⟨i9, m9, s9, u9, dv9, rfl⟩, H4⟩
                          have hfe := field_err 14 i9 m9 s9 u9 dv9 w4
                          go_wp2_with fail
                          refine (HSa.out _ H4.out).mono ?_
                          rintro e w5 ⟨rfl, H5⟩
                          go_wp2_with fail
                          go_roundw
                          case rel => exact ⟨j + 1, by go_num, by omega, H5⟩
                          case measure => simp [intOf]; omega
                    · have n2 : nn < 0 := by omega
                      as_aux_lemma =>
                        go_upto_region 17 with (fail)
                        rw [HW1.out]
                        clear HW1
                        obtain ⟨c0, c1, c2, c3_, c4, c5, c6, c7, c8, c9⟩ := HBox.out _ hb0
                        go_wp2_with fail
                        refine (HBk.out _ hb0).mono ?_
                        rintro e w2 ⟨rfl, hb2⟩
                        clear c0 c1 c2 c3_ c4 c5 c6 c7 c8 c9
                        obtain ⟨c0, c1, c2, c3_, c4, c5, c6, c7, c8, c9⟩ := HBox.out _ hb2
                        go_wp2_with fail
                        refine (HKy.out _ hb2).mono ?_
                        rintro e w3 ⟨rfl, hb3⟩
                        clear c0 c1 c2 c3_ c4 c5 c6 c7 c8 c9
                        obtain ⟨c0, c1, c2, c3_, c4, c5, c6, c7, c8, c9⟩ := HBox.out _ hb3
                        go_wp2_with fail
                        go_roundw
                        case rel => exact ⟨j + 1, by go_num, by omega, HWV.out _ hb3⟩
                        case measure => simp [intOf]; omega
                · have q2 := (mkS_ne e1).1
                  have q1 : ¬ (mkS bk).toList = [97, 98, 99] := fun e => e1 (by rw [ByteArray.toList_eq] at e; exact e)
                  replace q2 : ((mkS bk).toList == [97, 98, 99]) = false := q2
                  have HE1 := Lib.hid e1
                  clear e1
                  by_cases n1 : 0 ≤ nn
                  · have HN1 := Lib.hid n1
                    by_cases n0 : nn = 0
                    · subst n0
                      as_aux_lemma =>
                        go_upto_region 17 with (fail)
                        rw [HW1.out]
                        clear HW1
                        obtain ⟨c0, c1, c2, c3_, c4, c5, c6, c7, c8, c9⟩ := HBox.out _ hb0
                        go_wp2_with fail
                        refine (HBk.out _ hb0).mono ?_
                        rintro e w2 ⟨rfl, hb2⟩
                        clear c0 c1 c2 c3_ c4 c5 c6 c7 c8 c9
                        obtain ⟨c0, c1, c2, c3_, c4, c5, c6, c7, c8, c9⟩ := HBox.out _ hb2
                        go_wp2_with fail
                        refine (HKy.out _ hb2).mono ?_
                        rintro e w3 ⟨rfl, hb3⟩
                        clear c0 c1 c2 c3_ c4 c5 c6 c7 c8 c9
                        obtain ⟨c0, c1, c2, c3_, c4, c5, c6, c7, c8, c9⟩ := HBox.out _ hb3
                        go_wp2_with fail
                        go_roundw
                        case rel => exact ⟨j + 1, by go_num, by omega, HWV.out _ hb3⟩
                        case measure => simp [intOf]; omega
                    · have n2 : (nn == 0) = false := by simp [n0]
                      have HN0 := Lib.hid n0
                      as_aux_lemma =>
                        go_upto_region 17 with (fail)
                        rw [HW1.out]
                        clear HW1
                        obtain ⟨c0, c1, c2, c3_, c4, c5, c6, c7, c8, c9⟩ := HBox.out _ hb0
                        go_wp2_with fail
                        refine (HBk.out _ hb0).mono ?_
                        rintro e w2 ⟨rfl, hb2⟩
                        clear c0 c1 c2 c3_ c4 c5 c6 c7 c8 c9
                        obtain ⟨c0, c1, c2, c3_, c4, c5, c6, c7, c8, c9⟩ := HBox.out _ hb2
                        go_wp2_with fail
                        refine (HKy.out _ hb2).mono ?_
                        rintro e w3 ⟨rfl, hb3⟩
                        clear c0 c1 c2 c3_ c4 c5 c6 c7 c8 c9
                        obtain ⟨c0, c1, c2, c3_, c4, c5, c6, c7, c8, c9⟩ := HBox.out _ hb3
                        go_wp2_with fail
                        refine (HCa.out _ 13 hb3 (by simp [Named]) (tell13 (HNX.out.trans rfl) (by have h := HX.out.dt; simp only at h ⊢; omega) HE1.out HN1.out (fun _ => HN0.out))).mono ?_
                        rintro e w4 ⟨⟨i9, m9, s9, u9, dv9, rfl⟩, H4⟩
                        have hfe := field_err 13 i9 m9 s9 u9 dv9 w4
                        go_wp2_with fail
                        refine (HSa.out _ H4.out).mono ?_
                        rintro e w5 ⟨rfl, H5⟩
                        go_wp2_with fail
                        go_roundw
                        case rel => exact ⟨j + 1, by go_num, by omega, H5⟩
                        case measure => simp [intOf]; omega
                  · have n2 : nn < 0 := by omega
                    as_aux_lemma =>
                      go_upto_region 17 with (fail)
                      rw [HW1.out]
                      clear HW1
                      obtain ⟨c0, c1, c2, c3_, c4, c5, c6, c7, c8, c9⟩ := HBox.out _ hb0
                      go_wp2_with fail
                      refine (HBk.out _ hb0).mono ?_
                      rintro e w2 ⟨rfl, hb2⟩
                      clear c0 c1 c2 c3_ c4 c5 c6 c7 c8 c9
                      obtain ⟨c0, c1, c2, c3_, c4, c5, c6, c7, c8, c9⟩ := HBox.out _ hb2
                      go_wp2_with fail
                      refine (HKy.out _ hb2).mono ?_
                      rintro e w3 ⟨rfl, hb3⟩
                      clear c0 c1 c2 c3_ c4 c5 c6 c7 c8 c9
                      obtain ⟨c0, c1, c2, c3_, c4, c5, c6, c7, c8, c9⟩ := HBox.out _ hb3
                      go_wp2_with fail
                      go_roundw
                      case rel => exact ⟨j + 1, by go_num, by omega, HWV.out _ hb3⟩
                      case measure => simp [intOf]; omega
        · have d4 : (d == 4) = false := by simp; omega
          have d5 : (d == 5) = false := by simp; omega
          have d6 : (d == 6) = false := by simp; omega
          have d7 : (d == 7) = false := by simp; omega
          have d8 : (d == 8) = false := by simp; omega
          clear hd
          go_upto_region 17 with (fail)
          rw [HW1.out]
          clear HW1
          obtain ⟨c0, c1, c2, c3_, c4, c5, c6, c7, c8, c9⟩ := HBox.out _ hb0
          go_wp2_with fail
          go_roundw
          case rel => exact ⟨j + 1, by go_num, by omega, HWV.out _ hb0⟩
          case measure => simp [intOf]; omega
      · have hltz : ¬ (j : Int) < (n : Int) := by omega
        go_wp2_with fail
        go_ret
        exact ⟨rfl, HS.out.1⟩
end Go.Proofs.YtjbjcfnbgcloiaaGreatDoor.modelErrors
