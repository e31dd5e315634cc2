/- ModelOrder: calls on two keys may change places: what is asked of the one says nothing of the other. -/
import Derived.Test.YtjbjcfnbgcloiaaDoorMpCP
set_option linter.unusedSimpArgs false
set_option linter.unusedVariables false
namespace Go.Proofs.YtjbjcfnbgcloiaaDoor.modelOrder
open Go.RowKit Nam YtjbjcfnbgcloiaaDoorW.PrintWords Go.Proofs.YtjbjcfnbgcloiaaDoor

/-- Two models whose maps lie between two sizes. -/
def TwoT (w0 : World) (T : Nat) (W : World) (g : Nat) (S : St) (n : Nat) (g' : Nat) (S' : St) (n' : Nat) : Prop :=
  Below w0.heap.size w0 W ∧ T ≤ W.heap.size ∧ ∃ Q F Q' F', HasM W g S n Q F ∧ HasM W g' S' n' Q' F' ∧ (∀ k, Q k → w0.heap.size ≤ k ∧ k < T) ∧ (∀ k, Q' k → w0.heap.size ≤ k ∧ k < T) ∧ ∀ k, Q k → ¬ Q' k
/-- The blocks below the one and above the other stay. -/
def KeepT (w0 : World) (T : Nat) (W V : World) : Prop := W.heap.size ≤ V.heap.size ∧ ∀ k, k < W.heap.size → (k < w0.heap.size ∨ T ≤ k) → V.heap[k]? = W.heap[k]?
theorem KeepT.refl (w0 : World) (T : Nat) (W : World) : KeepT w0 T W W := ⟨Nat.le_refl _, fun _ _ _ => rfl⟩
theorem KeepT.trans {w0 : World} {T : Nat} {A B C : World} (h : KeepT w0 T A B) (k : KeepT w0 T B C) : KeepT w0 T A C :=
  ⟨Nat.le_trans h.1 k.1, fun i hi hh => (k.2 i (Nat.lt_of_lt_of_le hi h.1) hh).trans (h.2 i hi hh)⟩
theorem twoT_of {w0 W V : World} {g n g' n' : Nat} {S S' : St} (h : Two w0 W g S n g' S' n') (hb : Below W.heap.size W V) : TwoT w0 W.heap.size V g S n g' S' n' := by
  obtain ⟨h1, Q, F, Q', F', h2, h3, h4, h5, h6⟩ := h
  exact ⟨h1.trans (hb.mono h1.size), hb.size, Q, F, Q', F', h2.below hb, h3.below hb, fun k hk => ⟨h4 k hk, isM_lt (h2.q k hk)⟩, fun k hk => ⟨h5 k hk, isM_lt (h3.q k hk)⟩, h6⟩
theorem TwoT.symm {w0 W : World} {T g n g' n' : Nat} {S S' : St} (h : TwoT w0 T W g S n g' S' n') : TwoT w0 T W g' S' n' g S n := by
  obtain ⟨h1, h0, Q, F, Q', F', h2, h3, h4, h5, h6⟩ := h
  exact ⟨h1, h0, Q', F', Q, F, h3, h2, h5, h4, fun k hk hq => h6 k hq hk⟩
theorem TwoT.two {w0 W : World} {T g n g' n' : Nat} {S S' : St} (h : TwoT w0 T W g S n g' S' n') : Two w0 W g S n g' S' n' := by
  obtain ⟨h1, h0, Q, F, Q', F', h2, h3, h4, h5, h6⟩ := h
  exact ⟨h1, Q, F, Q', F', h2, h3, fun k hk => (h4 k hk).1, fun k hk => (h5 k hk).1, h6⟩
theorem TwoT.bound {w0 W : World} {T g n m g' n' : Nat} {S S' : St} (h : TwoT w0 T W g S n g' S' n') (hn : n ≤ m) : TwoT w0 T W g S m g' S' n' := by
  obtain ⟨h1, h0, Q, F, Q', F', h2, h3, h4, h5, h6⟩ := h
  exact ⟨h1, h0, Q, F, Q', F', h2.mono hn, h3, h4, h5, h6⟩
theorem twoT_bent {w0 W : World} {T g n g' n' : Nat} {S S' : St} (h : TwoT w0 T W g S n g' S' n') (key : List UInt8) (y : Ch) (A : Option Addr) (c : Nat) (id : Int) (hk : key.length ≤ 100) (hdt : y.dt.length ≤ 3000) (hn : n ≤ 1000) (hS : S.Fine) (hC : HasD W (.slice A (byN y.dt).length c) y.dt) (hT : Tabs W) :
    Calls Tryd.prog 10 #[.pointer (some ⟨g, 0, none⟩), .agg (chCells (bentC key y) (.slice A (byN y.dt).length c)).toArray, .int .i64 id] W fun e w' =>
      (∃ v, e = .returned v) ∧ TwoT w0 T w' g (S.callS (bentC key y) id) (n + 1) g' S' n' ∧ KeepT w0 T W w' := by
  obtain ⟨h1, h0, Q, F, Q', F', h2, h3, h4, h5, h6⟩ := h
  refine (call5_is W g S n Q F (bentC key y) A c id (bent_named key y) (by show abc.length ≤ _; decide) (by show key.length ≤ _; omega) (by show y.dt.length ≤ _; omega) (by omega) hS h2 (fun V hV => by
    obtain ⟨A', c', e, _, hF⟩ := (hC.below hV).now
    injection e with e _ _
    subst e
    exact hF V (fun _ _ _ => rfl)) hT).mono fun e w' ⟨⟨y, dv, he⟩, ⟨F2, k1⟩, k2⟩ => ⟨⟨_, he⟩, ⟨k2.below h1 h1.size (fun k hk => (h4 k hk).1), Nat.le_trans h0 k2.size, Q, F2, Q', F', k1, h3.apart k2 h2.q fun k hk hk2 => h6 k hk2 hk, h4, h5, h6⟩, k2.size, fun k hk hh => k2.block k hk fun hq => ?_⟩
  have := h4 k hq
  omega
/-- A row of bent choices, read behind some calls. -/
def RowN (w0 : World) (T : Nat) (W : World) (A : Option Addr) (c : Nat) (l : List Ch) : Prop := Kd.N kCh 33 W T (fun k => k < w0.heap.size ∨ T ≤ k) (.slice A l.length c) l
theorem RowN.keep {w0 : World} {T : Nat} {W V : World} {A : Option Addr} {c : Nat} {l : List Ch} (h : RowN w0 T W A c l) (hk : KeepT w0 T W V) : RowN w0 T V A c l := Kd.N_step h fun k ho hlt => hk.2 k hlt ho
theorem RowN.at_ {w0 : World} {T : Nat} {W : World} {A : Option Addr} {c : Nat} {l : List Ch} (h : RowN w0 T W A c l) (j : Nat) (hj : j < l.length) :
    ∃ ad A3 c3, A = some ad ∧ HasD W (.slice A3 (byN l[j].dt).length c3) l[j].dt ∧ ∀ i u, (chCells l[j] (.slice A3 (byN l[j].dt).length c3))[i]? = some u → W.cell? (ad.add (j * 10 + i)) = some u := by
  obtain ⟨ad, A3, c3, e, h1, h2⟩ := at_Ch (Kd.N_reads' h).2.2 j hj
  exact ⟨ad, A3, c3, e, HasD.of h1, h2⟩
/-- What a round of a loop of calls needs of its choice. -/
theorem round_of {w0 : World} {T : Nat} {W : World} {A : Option Addr} {c : Nat} {key : List UInt8} {l : List Ch} (h : RowN w0 T W A c (l.map (bentC key))) (j : Nat) (hj : j < l.length) :
    ∃ ad A3 c3, A = some ad ∧ HasD W (.slice A3 (byN l[j].dt).length c3) l[j].dt ∧ W.cell? (ad.add (j * 10)) = some (.int .i64 (bentD l[j].d)) ∧ W.cell? ⟨(ad.add (j * 10)).block, (ad.add (j * 10)).off + 1, none⟩ = some (.string (mkS abc)) ∧ W.cell? ⟨(ad.add (j * 10)).block, (ad.add (j * 10)).off + 2, none⟩ = some (.string (mkS key)) ∧ W.cell? ⟨(ad.add (j * 10)).block, (ad.add (j * 10)).off + 3, none⟩ = some (.slice A3 (byN l[j].dt).length c3) ∧ W.cell? ⟨(ad.add (j * 10)).block, (ad.add (j * 10)).off + 4, none⟩ = some (.int .i64 (10 + (IntKind.u64.wrap l[j].n) % 30)) ∧ W.cell? ⟨(ad.add (j * 10)).block, (ad.add (j * 10)).off + 5, none⟩ = some (.int .i64 0) ∧ W.cell? ⟨(ad.add (j * 10)).block, (ad.add (j * 10)).off + 6, none⟩ = some (.string (mkS [])) ∧ W.cell? ⟨(ad.add (j * 10)).block, (ad.add (j * 10)).off + 7, none⟩ = some (.string (mkS [])) ∧ W.cell? ⟨(ad.add (j * 10)).block, (ad.add (j * 10)).off + 8, none⟩ = some (.int .i64 0) ∧ W.cell? ⟨(ad.add (j * 10)).block, (ad.add (j * 10)).off + 9, none⟩ = some (.int .i64 0) := by
  obtain ⟨ad, A3, c3, e, h1, h2⟩ := h.at_ j (by rw [List.length_map]; exact hj)
  rw [List.getElem_map] at h1 h2
  have cf : ∀ i u, (chCells (bentC key l[j]) (.slice A3 (byN l[j].dt).length c3))[i + 1]? = some u → W.cell? ⟨(ad.add (j * 10)).block, (ad.add (j * 10)).off + (i + 1), none⟩ = some u := fun i u hu => by
    rw [← add_field _ _ (i + 1) (by omega)]; exact h2 (i + 1) u hu
  exact ⟨ad, A3, c3, e, h1, h2 0 _ rfl, cf 0 _ rfl, cf 1 _ rfl, cf 2 _ rfl, cf 3 _ rfl, cf 4 _ rfl, cf 5 _ rfl, cf 6 _ rfl, cf 7 _ rfl, cf 8 _ rfl⟩

set_option maxHeartbeats 4000000 in
set_option maxRecDepth 100000 in
theorem walk0 (l m : List Ch) (A B : Option Addr) (c d : Nat) (w : World) (hc : l.length ≤ c) (hd : m.length ≤ d) (hC : Kd.C kCh w A l.length l) (hD : Kd.C kCh w B m.length m) (hT : Tabs w) :
    Calls Tryd.prog 4 #[.slice A l.length c, .slice B m.length d] w fun e w' => e = .returned (.bool true) ∧ Below w.heap.size w w' := by
  have HT := Lib.hid hT
  have HC : Hid (HasC w A l) := HasC.of hC
  have HD : Hid (HasC w B m) := HasC.of hD
  have HAw : Hid (Calls Tryd.prog 6 #[] w fun e w' => e = .returned (.bool true) ∧ Below w.heap.size w w') := awake_is w hT
  obtain ⟨R, hR⟩ : ∃ R, roomB l 30 = R := ⟨_, rfl⟩
  obtain ⟨R2, hR2⟩ : ∃ R, roomB m 30 = R := ⟨_, rfl⟩
  have HRm : Hid (∀ V, Below w.heap.size w V → Calls Tryd.prog 7 #[.slice A l.length c, .int .i64 30] V fun e w' => e = .returned (.bool R) ∧ Below w.heap.size w w') := fun V hV => by
    rw [← hR]
    exact (room_is l 30 A c V hc (by decide) (HC.out V hV)).mono fun e w' ⟨he, hb⟩ => ⟨he, hV.trans (hb.mono hV.size)⟩
  have HRn : Hid (∀ V, Below w.heap.size w V → Calls Tryd.prog 7 #[.slice B m.length d, .int .i64 30] V fun e w' => e = .returned (.bool R2) ∧ Below w.heap.size w w') := fun V hV => by
    rw [← hR2]
    exact (room_is m 30 B d V hd (by decide) (HD.out V hV)).mono fun e w' ⟨he, hb⟩ => ⟨he, hV.trans (hb.mono hV.size)⟩
  have HNew : Hid (∀ V, Below w.heap.size w V → Calls Tryd.prog 8 #[] V fun e w' => ∃ g, e = .returned (.pointer (some ⟨g, 0, none⟩)) ∧ Hid (One w w' g St.new 0)) := fun V hV => one_new w V hV
  have HNw2 : Hid (∀ V g, One w V g St.new 0 → Calls Tryd.prog 8 #[] V fun e w' => ∃ g', e = .returned (.pointer (some ⟨g', 0, none⟩)) ∧ Hid (Two w w' g St.new 0 g' St.new 0)) := fun V g h => two_new h
  have HMk1 : Hid (∀ V g g', Two w V g St.new 0 g' St.new 0 → Calls Tryd.prog 9 #[.pointer (some ⟨g, 0, none⟩), .string ⟨#[97, 98, 99]⟩] V fun e w' => e = .returned (.int .i64 0) ∧ Hid (Two w w' g S1 1 g' St.new 0)) := fun V g g' h =>
    (two_make h abc (by decide) (by decide)).mono fun e w' ⟨he, ho⟩ => by
      rw [make_abc] at he ho
      exact ⟨he, ho⟩
  have HMk2 : Hid (∀ V g g', Two w V g S1 1 g' St.new 0 → Calls Tryd.prog 9 #[.pointer (some ⟨g', 0, none⟩), .string ⟨#[97, 98, 99]⟩] V fun e w' => e = .returned (.int .i64 0) ∧ Hid (Two w w' g S1 1 g' S1 1)) := fun V g g' h =>
    (two_make h.symm abc (by decide) (by decide)).mono fun e w' ⟨he, ho⟩ => by
      rw [make_abc] at he ho
      exact ⟨he, ho.symm⟩
  obtain ⟨n, hn⟩ : ∃ n, l.length = n := ⟨_, rfl⟩
  obtain ⟨k, hk⟩ : ∃ k, m.length = k := ⟨_, rfl⟩
  have HBe1 : Hid (∀ V, Below w.heap.size w V → n ≤ 30 → Calls Tryd.prog 14 #[.slice A n c, .string ⟨#[107]⟩] V fun e w' => (∃ A1 c1, e = .returned (.slice A1 n c1) ∧ Hid (Kd.N kCh 33 w' V.heap.size (fun k => k < w.heap.size ∨ V.heap.size ≤ k) (.slice A1 n c1) (l.map (bentC kx)))) ∧ Hid (Below V.heap.size V w')) := fun V hV hl => by
    subst hn
    refine (bent_is l kx A c w V (by omega) hV HC.out).mono fun e w' ⟨⟨v, he, hN⟩, hb⟩ => ⟨?_, hb⟩
    obtain ⟨A1, c1, e1⟩ := Kd.N_slice hN
    rw [List.length_map] at e1
    subst e1
    exact ⟨A1, c1, he, hN⟩
  have HBe2 : Hid (∀ V, Below w.heap.size w V → k ≤ 30 → Calls Tryd.prog 14 #[.slice B k d, .string ⟨#[108]⟩] V fun e w' => (∃ A1 c1, e = .returned (.slice A1 k c1) ∧ Hid (Kd.N kCh 33 w' V.heap.size (fun k => k < w.heap.size ∨ V.heap.size ≤ k) (.slice A1 k c1) (m.map (bentC kl)))) ∧ Hid (Below V.heap.size V w')) := fun V hV hl => by
    subst hk
    refine (bent_is m kl B d w V (by omega) hV HD.out).mono fun e w' ⟨⟨v, he, hN⟩, hb⟩ => ⟨?_, hb⟩
    obtain ⟨A1, c1, e1⟩ := Kd.N_slice hN
    rw [List.length_map] at e1
    subst e1
    exact ⟨A1, c1, he, hN⟩
  rw [hn] at HRm hc ⊢
  rw [hk] at HRn hd ⊢
  clear hT hC hD
  cases R with
  | false =>
    clear hn hR hk hR2
    go_enter Tryd.func4, Tryd.ntmps4
    go_wp2_with fail
    refine HAw.out.mono ?_
    rintro e w1 ⟨rfl, hb1⟩
    go_wp2_with fail
    refine (HRm.out _ hb1).mono ?_
    rintro e w2 ⟨rfl, hb2⟩
    go_wp2_with fail
    go_ret
    exact ⟨rfl, hb2⟩
  | true =>
    cases R2 with
    | false =>
      clear hn hR hk hR2
      go_enter Tryd.func4, Tryd.ntmps4
      go_wp2_with fail
      refine HAw.out.mono ?_
      rintro e w1 ⟨rfl, hb1⟩
      go_wp2_with fail
      refine (HRm.out _ hb1).mono ?_
      rintro e w2 ⟨rfl, hb2⟩
      go_wp2_with fail
      refine (HRn.out _ hb2).mono ?_
      rintro e w3 ⟨rfl, hb3⟩
      go_wp2_with fail
      go_ret
      exact ⟨rfl, hb3⟩
    | true =>
      have HSh := Lib.hid (ch_short hR)
      have HSh2 := Lib.hid (ch_short hR2)
      have hl30 : n ≤ 30 := by rw [← hn]; exact (roomB_ok hR).1
      have hm30 : k ≤ 30 := by rw [← hk]; exact (roomB_ok hR2).1
      have HN2 := Lib.hid hn
      have HK2 := Lib.hid hk
      clear hn hR hk hR2
      go_enter Tryd.func4, Tryd.ntmps4
      go_wp2_with fail
      refine HAw.out.mono ?_
      rintro e w1 ⟨rfl, hb1⟩
      go_wp2_with fail
      refine (HRm.out _ hb1).mono ?_
      rintro e w2 ⟨rfl, hb2⟩
      go_wp2_with fail
      refine (HRn.out _ hb2).mono ?_
      rintro e w3 ⟨rfl, hb3⟩
      go_wp2_with fail
      refine (HNew.out _ hb3).mono ?_
      rintro e w4 ⟨g, rfl, H4⟩
      go_wp2_with fail
      refine (HNw2.out _ _ H4.out).mono ?_
      rintro e w5 ⟨g2, rfl, H5⟩
      go_wp2_with fail
      refine (HMk1.out _ _ _ H5.out).mono ?_
      rintro e w6 ⟨rfl, H6⟩
      go_wp2_with fail
      refine (HMk2.out _ _ _ H6.out).mono ?_
      rintro e w7 ⟨rfl, H7⟩
      go_wp2_with fail
      refine (HBe1.out _ H7.out.1 hl30).mono ?_
      rintro e w8 ⟨⟨A1, c1, rfl, HN1⟩, HB8⟩
      go_wp2_with fail
      refine (HBe2.out _ (H7.out.1.trans (HB8.out.mono H7.out.1.size)) hm30).mono ?_
      rintro e w9 ⟨⟨B1, d1, rfl, HM1⟩, HB9⟩
      obtain ⟨T, hTT⟩ : ∃ T, w7.heap.size = T := ⟨_, rfl⟩
      have HX0 : Hid (TwoT w T w9 g (Sat [] []) 1 g2 (Sat [] []) 1) := by
        rw [← hTT, ← s1_sat]
        exact twoT_of H7.out (HB8.out.trans (HB9.out.mono HB8.out.size))
      have HP0 : Hid (RowN w T w9 A1 c1 (l.map (bentC kx))) := by
        have h := Kd.N_below HN1.out HB9.out
        rw [hTT] at h
        show Kd.N kCh _ w9 T _ (.slice A1 (l.map (bentC kx)).length c1) _
        rw [List.length_map, HN2.out]
        exact h
      have HQ0 : Hid (RowN w T w9 B1 d1 (m.map (bentC kl))) := by
        have h := Kd.N_mono (Kd.N_lower HM1.out (base' := T) (by rw [← hTT]; exact HB8.out.size)) (ok' := fun k => k < w.heap.size ∨ T ≤ k) (fun k hk => hk.imp_right fun h => by have := HB8.out.size; omega)
        show Kd.N kCh _ w9 T _ (.slice B1 (m.map (bentC kl)).length d1) _
        rw [List.length_map, HK2.out]
        exact h
      have HFi0 : Hid ((Sat [] []).Fine) := by
        show _
        rw [← s1_sat]
        exact fine_S1
      clear HRm HRn HNew HNw2 HMk1 HMk2 HAw HBe1 HBe2 hb1 hb2 hb3 H4 H5 H6 H7 HN1 HM1 HB8 HB9 hTT
      go_wp2_with fail
      go_loopw [9] (fun vi wr => ∃ (j : Nat), vi = .int .i64 j ∧ j ≤ n ∧ Hid (TwoT w T wr g (Sat (frow kx l j) []) (1 + j) g2 (Sat [] []) 1) ∧ Hid (RowN w T wr A1 c1 (l.map (bentC kx))) ∧ Hid (RowN w T wr B1 d1 (m.map (bentC kl))) ∧ Hid ((Sat (frow kx l j) []).Fine)) (fun vi _ => n - (intOf vi).toNat)
      case atStart => exact ⟨0, rfl, Nat.zero_le _, HX0, HP0, HQ0, HFi0⟩
      case round =>
        clear HX0 HP0 HQ0
        obtain ⟨j, rfl, hj, HX, HP, HQ, HF⟩ := hrel
        by_cases hlt : j < n
        · have hltz : (j : Int) < (n : Int) := by omega
          have hlL : j < l.length := by rw [HN2.out]; exact hlt
          obtain ⟨ad, A3, c3, hA, hdt, a0, a1, a2, a3, a4, a5, a6, a7, a8, a9⟩ := round_of HP.out j hlL
          subst hA
          have HCa : Hid (Calls Tryd.prog 10 #[.pointer (some ⟨g, 0, none⟩), .agg #[.int .i64 (bentD l[j].d), .string (mkS abc), .string (mkS kx), .slice A3 (byN l[j].dt).length c3, .int .i64 (10 + (IntKind.u64.wrap l[j].n) % 30), .int .i64 0, .string (mkS []), .string (mkS []), .int .i64 0, .int .i64 0], .int .i64 (10 + (j : Int))] wr fun e w' => (∃ v, e = .returned v) ∧ Hid (TwoT w T w' g (Sat (frow kx l (j + 1)) []) (1 + (j + 1)) g2 (Sat [] []) 1) ∧ Hid (KeepT w T wr w')) :=
            (twoT_bent HX.out kx l[j] A3 c3 (10 + (j : Int)) (by decide) (by have := (HSh.out _ (List.getElem_mem hlL)).dt; omega) (by omega) HF.out hdt (HT.out.below HX.out.1)).mono fun e w' ⟨he, h1, h2⟩ => ⟨he, by rw [sat_callx] at h1; show TwoT w T w' g _ _ g2 _ 1; rw [frow_at hlL]; exact h1, h2⟩
          have HF2 : Hid ((Sat (frow kx l (j + 1)) []).Fine) := by
            have h := fine_callS HF.out (bentC kx l[j]) (10 + (j : Int))
            rw [sat_callx] at h
            show St.Fine _
            rw [frow_at hlL]
            exact h
          clear hdt
          go_wp2_with fail
          refine HCa.out.mono ?_
          rintro e w2 ⟨⟨v, rfl⟩, HX2, HK⟩
          have HP2 : Hid (RowN w T w2 _ c1 (l.map (bentC kx))) := HP.out.keep HK.out
          have HQ2 : Hid (RowN w T w2 _ d1 (m.map (bentC kl))) := HQ.out.keep HK.out
          go_wp2_with fail
          go_roundw
          case rel => exact ⟨j + 1, by go_num, by omega, HX2, HP2, HQ2, HF2⟩
          case measure => simp [intOf]; omega
        · have hltz : ¬ (j : Int) < (n : Int) := by omega
          obtain rfl : n = j := by omega
          go_wp2_with fail
          clear hltz hlt hj
          go_loopw [10] (fun vi wr => ∃ (j : Nat), vi = .int .i64 j ∧ j ≤ k ∧ Hid (TwoT w T wr g (Sat (frow kx l n) (frow kl m j)) (1 + n + j) g2 (Sat [] []) 1) ∧ Hid (RowN w T wr A1 c1 (l.map (bentC kx))) ∧ Hid (RowN w T wr B1 d1 (m.map (bentC kl))) ∧ Hid ((Sat (frow kx l n) (frow kl m j)).Fine)) (fun vi _ => k - (intOf vi).toNat)
          case atStart => exact ⟨0, rfl, Nat.zero_le _, HX, HP, HQ, HF⟩
          case round =>
            clear HX HP HQ HF
            obtain ⟨j, rfl, hj, HX, HP, HQ, HF⟩ := hrel
            by_cases hlt : j < k
            · have hltz : (j : Int) < (k : Int) := by omega
              have hlL : j < m.length := by rw [HK2.out]; exact hlt
              obtain ⟨ad, A3, c3, hA, hdt, a0, a1, a2, a3, a4, a5, a6, a7, a8, a9⟩ := round_of HQ.out j hlL
              subst hA
              have HCa : Hid (Calls Tryd.prog 10 #[.pointer (some ⟨g, 0, none⟩), .agg #[.int .i64 (bentD m[j].d), .string (mkS abc), .string (mkS kl), .slice A3 (byN m[j].dt).length c3, .int .i64 (10 + (IntKind.u64.wrap m[j].n) % 30), .int .i64 0, .string (mkS []), .string (mkS []), .int .i64 0, .int .i64 0], .int .i64 (10 + (j : Int))] wr fun e w' => (∃ v, e = .returned v) ∧ Hid (TwoT w T w' g (Sat (frow kx l n) (frow kl m (j + 1))) (1 + n + (j + 1)) g2 (Sat [] []) 1) ∧ Hid (KeepT w T wr w')) :=
                (twoT_bent HX.out kl m[j] A3 c3 (10 + (j : Int)) (by decide) (by have := (HSh2.out _ (List.getElem_mem hlL)).dt; omega) (by omega) HF.out hdt (HT.out.below HX.out.1)).mono fun e w' ⟨he, h1, h2⟩ => ⟨he, by rw [sat_calll] at h1; show TwoT w T w' g _ _ g2 _ 1; rw [frow_at hlL]; exact h1, h2⟩
              have HF2 : Hid ((Sat (frow kx l n) (frow kl m (j + 1))).Fine) := by
                have h := fine_callS HF.out (bentC kl m[j]) (10 + (j : Int))
                rw [sat_calll] at h
                show St.Fine _
                rw [frow_at hlL]
                exact h
              clear hdt
              go_wp2_with fail
              refine HCa.out.mono ?_
              rintro e w2 ⟨⟨v, rfl⟩, HX2, HK⟩
              have HP2 : Hid (RowN w T w2 _ c1 (l.map (bentC kx))) := HP.out.keep HK.out
              have HQ2 : Hid (RowN w T w2 _ d1 (m.map (bentC kl))) := HQ.out.keep HK.out
              go_wp2_with fail
              go_roundw
              case rel => exact ⟨j + 1, by go_num, by omega, HX2, HP2, HQ2, HF2⟩
              case measure => simp [intOf]; omega
            · have hltz : ¬ (j : Int) < (k : Int) := by omega
              obtain rfl : k = j := by omega
              go_wp2_with fail
              clear hltz hlt hj
              obtain ⟨SX, hSX⟩ : ∃ S, Sat (frow kx l n) (frow kl m k) = S := ⟨_, rfl⟩
              rw [hSX] at HX HF
              have HSX := Lib.hid hSX
              have HFX := Lib.hid HF.out
              have HY : Hid (TwoT w T wr g SX 100 g2 (Sat (frow kx l 0) (frow kl m 0)) (1 + 2 * 0)) := HX.out.bound (by omega)
              clear hSX HX HF
              rcases Nat.le_total n k with hnk | hnk
              · have hnkz : (n : Int) ≤ (k : Int) := by omega
                go_loopw [11] (fun vi wr => ∃ (j : Nat), vi = .int .i64 j ∧ j ≤ k ∧ Hid (TwoT w T wr g SX 100 g2 (Sat (frow kx l j) (frow kl m j)) (1 + 2 * j)) ∧ Hid (RowN w T wr A1 c1 (l.map (bentC kx))) ∧ Hid (RowN w T wr B1 d1 (m.map (bentC kl))) ∧ Hid ((Sat (frow kx l j) (frow kl m j)).Fine)) (fun vi _ => k - (intOf vi).toNat)
                case atStart => exact ⟨0, rfl, Nat.zero_le _, HY, HP, HQ, HFi0⟩
                case round =>
                  clear HY HP HQ
                  obtain ⟨j, rfl, hj, HX, HP, HQ, HF⟩ := hrel
                  by_cases hlt : j < k
                  · have hltz : (j : Int) < (k : Int) := by omega
                    by_cases hk1 : j < k
                    · have hk1z : (j : Int) < (k : Int) := by omega
                      have hl2 : j < m.length := by rw [HK2.out]; omega
                      obtain ⟨ad, A3, c3, hA2, hdt, a0, a1, a2, a3, a4, a5, a6, a7, a8, a9⟩ := round_of HQ.out j hl2
                      subst hA2
                      have HCa2 : Hid (Calls Tryd.prog 10 #[.pointer (some ⟨g2, 0, none⟩), .agg #[.int .i64 (bentD m[j].d), .string (mkS abc), .string (mkS kl), .slice A3 (byN m[j].dt).length c3, .int .i64 (10 + (IntKind.u64.wrap m[j].n) % 30), .int .i64 0, .string (mkS []), .string (mkS []), .int .i64 0, .int .i64 0], .int .i64 (10 + (j : Int))] wr fun e w' => (∃ v, e = .returned v) ∧ Hid (TwoT w T w' g SX 100 g2 (Sat (frow kx l j) (frow kl m (j + 1))) (1 + 2 * j + 1)) ∧ Hid (KeepT w T wr w')) :=
                        (twoT_bent HX.out.symm kl m[j] A3 c3 (10 + (j : Int)) (by decide) (by have := (HSh2.out _ (List.getElem_mem hl2)).dt; omega) (by omega) HF.out hdt (HT.out.below HX.out.1)).mono fun e w' ⟨he, h1, h2⟩ => ⟨he, by rw [sat_calll] at h1; show TwoT w T w' g _ _ g2 _ _; rw [frow_at hl2]; exact h1.symm, h2⟩
                      have HF2 : Hid ((Sat (frow kx l j) (frow kl m (j + 1))).Fine) := by
                        have h := fine_callS HF.out (bentC kl m[j]) (10 + (j : Int))
                        rw [sat_calll] at h
                        show St.Fine _
                        rw [frow_at hl2]
                        exact h
                      clear hdt
                      by_cases hn1 : j < n
                      · have hn1z : (j : Int) < (n : Int) := by omega
                        go_wp2_with fail
                        refine HCa2.out.mono ?_
                        rintro e w2 ⟨⟨v, rfl⟩, HX2, HK⟩
                        have HP2 : Hid (RowN w T w2 _ c1 (l.map (bentC kx))) := HP.out.keep HK.out
                        have HQ2 : Hid (RowN w T w2 _ d1 (m.map (bentC kl))) := HQ.out.keep HK.out
                        clear HK
                        clear a0 a1 a2 a3 a4 a5 a6 a7 a8 a9
                        clear HCa2
                        have hl1 : j < l.length := by rw [HN2.out]; omega
                        obtain ⟨ad, A3, c3, hA1, hdt, a0, a1, a2, a3, a4, a5, a6, a7, a8, a9⟩ := round_of HP2.out j hl1
                        subst hA1
                        have HCa1 : Hid (Calls Tryd.prog 10 #[.pointer (some ⟨g2, 0, none⟩), .agg #[.int .i64 (bentD l[j].d), .string (mkS abc), .string (mkS kx), .slice A3 (byN l[j].dt).length c3, .int .i64 (10 + (IntKind.u64.wrap l[j].n) % 30), .int .i64 0, .string (mkS []), .string (mkS []), .int .i64 0, .int .i64 0], .int .i64 (10 + (j : Int))] w2 fun e w' => (∃ v, e = .returned v) ∧ Hid (TwoT w T w' g SX 100 g2 (Sat (frow kx l (j + 1)) (frow kl m (j + 1))) (1 + 2 * (j + 1))) ∧ Hid (KeepT w T w2 w')) :=
                          (twoT_bent HX2.out.symm kx l[j] A3 c3 (10 + (j : Int)) (by decide) (by have := (HSh.out _ (List.getElem_mem hl1)).dt; omega) (by omega) HF2.out hdt (HT.out.below HX2.out.1)).mono fun e w' ⟨he, h1, h2⟩ => ⟨he, by rw [sat_callx] at h1; show TwoT w T w' g _ _ g2 _ _; rw [frow_at hl1]; exact h1.symm, h2⟩
                        have HF1 : Hid ((Sat (frow kx l (j + 1)) (frow kl m (j + 1))).Fine) := by
                          have h := fine_callS HF2.out (bentC kx l[j]) (10 + (j : Int))
                          rw [sat_callx] at h
                          show St.Fine _
                          rw [frow_at hl1]
                          exact h
                        clear hdt
                        go_wp2_with fail
                        refine HCa1.out.mono ?_
                        rintro e w3 ⟨⟨v3, rfl⟩, HX3, HK⟩
                        have HP3 : Hid (RowN w T w3 _ c1 (l.map (bentC kx))) := HP2.out.keep HK.out
                        have HQ3 : Hid (RowN w T w3 _ d1 (m.map (bentC kl))) := HQ2.out.keep HK.out
                        clear HK
                        go_wp2_with fail
                        go_roundw
                        case rel => exact ⟨j + 1, by go_num, by omega, HX3, HP3, HQ3, HF1⟩
                        case measure => simp [intOf]; omega
                      · have hn1z : ¬ (j : Int) < (n : Int) := by omega
                        have hfo : frow kx l (j + 1) = frow kx l j := frow_out (by rw [HN2.out]; omega)
                        have HFO := Lib.hid hfo
                        clear hfo
                        go_wp2_with fail
                        refine HCa2.out.mono ?_
                        rintro e w2 ⟨⟨v, rfl⟩, HX2, HK⟩
                        have HP2 : Hid (RowN w T w2 _ c1 (l.map (bentC kx))) := HP.out.keep HK.out
                        have HQ2 : Hid (RowN w T w2 _ d1 (m.map (bentC kl))) := HQ.out.keep HK.out
                        clear HK
                        have HX3 : Hid (TwoT w T w2 g SX 100 g2 (Sat (frow kx l (j + 1)) (frow kl m (j + 1))) (1 + 2 * (j + 1))) := by show TwoT _ _ _ _ _ _ _ _ _; rw [HFO.out]; exact (HX2.out.symm.bound (by omega)).symm
                        have HF3 : Hid ((Sat (frow kx l (j + 1)) (frow kl m (j + 1))).Fine) := by show St.Fine _; rw [HFO.out]; exact HF2.out
                        go_wp2_with fail
                        go_roundw
                        case rel => exact ⟨j + 1, by go_num, by omega, HX3, HP2, HQ2, HF3⟩
                        case measure => simp [intOf]; omega
                    · have hk1z : ¬ (j : Int) < (k : Int) := by omega
                      exact absurd hlt hk1
                  · have hltz : ¬ (j : Int) < (k : Int) := by omega
                    have hjM : j = k := by omega
                    have hse : Sat (frow kx l j) (frow kl m j) = SX := by rw [← HSX.out, frow_ge (key := kx) (l := l) (i := j) (by rw [HN2.out]; omega), frow_ge (key := kl) (l := m) (i := j) (by rw [HK2.out]; omega), HN2.out, HK2.out]
                    have hX := HX.out
                    rw [hse] at hX
                    have HSa : Hid (Calls Tryd.prog 15 #[.pointer (some ⟨g, 0, none⟩), .pointer (some ⟨g2, 0, none⟩)] wr fun e w' => e = .returned (.bool true) ∧ Hid (Two w w' g SX 100 g2 SX (1 + 2 * j))) := by
                      have h := two_same hX.two HFX.out HFX.out
                      rw [sameB_self] at h
                      exact h
                    have HSb : Hid (∀ V, Two w V g SX 100 g2 SX (1 + 2 * j) → Calls Tryd.prog 15 #[.pointer (some ⟨g2, 0, none⟩), .pointer (some ⟨g, 0, none⟩)] V fun e w' => e = .returned (.bool true) ∧ Hid (Below w.heap.size w w')) := fun V hV => by
                      have h := two_same hV.symm HFX.out HFX.out
                      rw [sameB_self] at h
                      exact h.mono fun e w' ⟨he, h2⟩ => ⟨he, h2.1⟩
                    clear hX hse hjM
                    go_wp2_with fail
                    refine HSa.out.mono ?_
                    rintro e w2 ⟨rfl, H2⟩
                    go_wp2_with fail
                    refine (HSb.out _ H2.out).mono ?_
                    rintro e w3 ⟨rfl, H3⟩
                    go_wp2_with fail
                    go_ret
                    exact ⟨rfl, H3.out⟩
              · have hnkz : (k : Int) ≤ (n : Int) := by omega
                go_loopw [11] (fun vi wr => ∃ (j : Nat), vi = .int .i64 j ∧ j ≤ n ∧ Hid (TwoT w T wr g SX 100 g2 (Sat (frow kx l j) (frow kl m j)) (1 + 2 * j)) ∧ Hid (RowN w T wr A1 c1 (l.map (bentC kx))) ∧ Hid (RowN w T wr B1 d1 (m.map (bentC kl))) ∧ Hid ((Sat (frow kx l j) (frow kl m j)).Fine)) (fun vi _ => n - (intOf vi).toNat)
                case atStart => exact ⟨0, rfl, Nat.zero_le _, HY, HP, HQ, HFi0⟩
                case round =>
                  clear HY HP HQ
                  obtain ⟨j, rfl, hj, HX, HP, HQ, HF⟩ := hrel
                  by_cases hlt : j < n
                  · have hltz : (j : Int) < (n : Int) := by omega
                    by_cases hk1 : j < k
                    · have hk1z : (j : Int) < (k : Int) := by omega
                      have hl2 : j < m.length := by rw [HK2.out]; omega
                      obtain ⟨ad, A3, c3, hA2, hdt, a0, a1, a2, a3, a4, a5, a6, a7, a8, a9⟩ := round_of HQ.out j hl2
                      subst hA2
                      have HCa2 : Hid (Calls Tryd.prog 10 #[.pointer (some ⟨g2, 0, none⟩), .agg #[.int .i64 (bentD m[j].d), .string (mkS abc), .string (mkS kl), .slice A3 (byN m[j].dt).length c3, .int .i64 (10 + (IntKind.u64.wrap m[j].n) % 30), .int .i64 0, .string (mkS []), .string (mkS []), .int .i64 0, .int .i64 0], .int .i64 (10 + (j : Int))] wr fun e w' => (∃ v, e = .returned v) ∧ Hid (TwoT w T w' g SX 100 g2 (Sat (frow kx l j) (frow kl m (j + 1))) (1 + 2 * j + 1)) ∧ Hid (KeepT w T wr w')) :=
                        (twoT_bent HX.out.symm kl m[j] A3 c3 (10 + (j : Int)) (by decide) (by have := (HSh2.out _ (List.getElem_mem hl2)).dt; omega) (by omega) HF.out hdt (HT.out.below HX.out.1)).mono fun e w' ⟨he, h1, h2⟩ => ⟨he, by rw [sat_calll] at h1; show TwoT w T w' g _ _ g2 _ _; rw [frow_at hl2]; exact h1.symm, h2⟩
                      have HF2 : Hid ((Sat (frow kx l j) (frow kl m (j + 1))).Fine) := by
                        have h := fine_callS HF.out (bentC kl m[j]) (10 + (j : Int))
                        rw [sat_calll] at h
                        show St.Fine _
                        rw [frow_at hl2]
                        exact h
                      clear hdt
                      by_cases hn1 : j < n
                      · have hn1z : (j : Int) < (n : Int) := by omega
                        go_wp2_with fail
                        refine HCa2.out.mono ?_
                        rintro e w2 ⟨⟨v, rfl⟩, HX2, HK⟩
                        have HP2 : Hid (RowN w T w2 _ c1 (l.map (bentC kx))) := HP.out.keep HK.out
                        have HQ2 : Hid (RowN w T w2 _ d1 (m.map (bentC kl))) := HQ.out.keep HK.out
                        clear HK
                        clear a0 a1 a2 a3 a4 a5 a6 a7 a8 a9
                        clear HCa2
                        have hl1 : j < l.length := by rw [HN2.out]; omega
                        obtain ⟨ad, A3, c3, hA1, hdt, a0, a1, a2, a3, a4, a5, a6, a7, a8, a9⟩ := round_of HP2.out j hl1
                        subst hA1
                        have HCa1 : Hid (Calls Tryd.prog 10 #[.pointer (some ⟨g2, 0, none⟩), .agg #[.int .i64 (bentD l[j].d), .string (mkS abc), .string (mkS kx), .slice A3 (byN l[j].dt).length c3, .int .i64 (10 + (IntKind.u64.wrap l[j].n) % 30), .int .i64 0, .string (mkS []), .string (mkS []), .int .i64 0, .int .i64 0], .int .i64 (10 + (j : Int))] w2 fun e w' => (∃ v, e = .returned v) ∧ Hid (TwoT w T w' g SX 100 g2 (Sat (frow kx l (j + 1)) (frow kl m (j + 1))) (1 + 2 * (j + 1))) ∧ Hid (KeepT w T w2 w')) :=
                          (twoT_bent HX2.out.symm kx l[j] A3 c3 (10 + (j : Int)) (by decide) (by have := (HSh.out _ (List.getElem_mem hl1)).dt; omega) (by omega) HF2.out hdt (HT.out.below HX2.out.1)).mono fun e w' ⟨he, h1, h2⟩ => ⟨he, by rw [sat_callx] at h1; show TwoT w T w' g _ _ g2 _ _; rw [frow_at hl1]; exact h1.symm, h2⟩
                        have HF1 : Hid ((Sat (frow kx l (j + 1)) (frow kl m (j + 1))).Fine) := by
                          have h := fine_callS HF2.out (bentC kx l[j]) (10 + (j : Int))
                          rw [sat_callx] at h
                          show St.Fine _
                          rw [frow_at hl1]
                          exact h
                        clear hdt
                        go_wp2_with fail
                        refine HCa1.out.mono ?_
                        rintro e w3 ⟨⟨v3, rfl⟩, HX3, HK⟩
                        have HP3 : Hid (RowN w T w3 _ c1 (l.map (bentC kx))) := HP2.out.keep HK.out
                        have HQ3 : Hid (RowN w T w3 _ d1 (m.map (bentC kl))) := HQ2.out.keep HK.out
                        clear HK
                        go_wp2_with fail
                        go_roundw
                        case rel => exact ⟨j + 1, by go_num, by omega, HX3, HP3, HQ3, HF1⟩
                        case measure => simp [intOf]; omega
                      · have hn1z : ¬ (j : Int) < (n : Int) := by omega
                        exact absurd hlt hn1
                    · have hk1z : ¬ (j : Int) < (k : Int) := by omega
                      have hn1z : (j : Int) < (n : Int) := by omega
                      have hfo : frow kl m (j + 1) = frow kl m j := frow_out (by rw [HK2.out]; omega)
                      have HFO := Lib.hid hfo
                      clear hfo
                      have hl1 : j < l.length := by rw [HN2.out]; omega
                      obtain ⟨ad, A3, c3, hA1, hdt, a0, a1, a2, a3, a4, a5, a6, a7, a8, a9⟩ := round_of HP.out j hl1
                      subst hA1
                      have HCa1 : Hid (Calls Tryd.prog 10 #[.pointer (some ⟨g2, 0, none⟩), .agg #[.int .i64 (bentD l[j].d), .string (mkS abc), .string (mkS kx), .slice A3 (byN l[j].dt).length c3, .int .i64 (10 + (IntKind.u64.wrap l[j].n) % 30), .int .i64 0, .string (mkS []), .string (mkS []), .int .i64 0, .int .i64 0], .int .i64 (10 + (j : Int))] wr fun e w' => (∃ v, e = .returned v) ∧ Hid (TwoT w T w' g SX 100 g2 (Sat (frow kx l (j + 1)) (frow kl m j)) (1 + 2 * j + 1)) ∧ Hid (KeepT w T wr w')) :=
                        (twoT_bent HX.out.symm kx l[j] A3 c3 (10 + (j : Int)) (by decide) (by have := (HSh.out _ (List.getElem_mem hl1)).dt; omega) (by omega) HF.out hdt (HT.out.below HX.out.1)).mono fun e w' ⟨he, h1, h2⟩ => ⟨he, by rw [sat_callx] at h1; show TwoT w T w' g _ _ g2 _ _; rw [frow_at hl1]; exact h1.symm, h2⟩
                      have HF1 : Hid ((Sat (frow kx l (j + 1)) (frow kl m j)).Fine) := by
                        have h := fine_callS HF.out (bentC kx l[j]) (10 + (j : Int))
                        rw [sat_callx] at h
                        show St.Fine _
                        rw [frow_at hl1]
                        exact h
                      clear hdt
                      go_wp2_with fail
                      refine HCa1.out.mono ?_
                      rintro e w2 ⟨⟨v, rfl⟩, HX2, HK⟩
                      have HP2 : Hid (RowN w T w2 _ c1 (l.map (bentC kx))) := HP.out.keep HK.out
                      have HQ2 : Hid (RowN w T w2 _ d1 (m.map (bentC kl))) := HQ.out.keep HK.out
                      clear HK
                      have HX3 : Hid (TwoT w T w2 g SX 100 g2 (Sat (frow kx l (j + 1)) (frow kl m (j + 1))) (1 + 2 * (j + 1))) := by show TwoT _ _ _ _ _ _ _ _ _; rw [HFO.out]; exact (HX2.out.symm.bound (by omega)).symm
                      have HF3 : Hid ((Sat (frow kx l (j + 1)) (frow kl m (j + 1))).Fine) := by show St.Fine _; rw [HFO.out]; exact HF1.out
                      go_wp2_with fail
                      go_roundw
                      case rel => exact ⟨j + 1, by go_num, by omega, HX3, HP2, HQ2, HF3⟩
                      case measure => simp [intOf]; omega
                  · have hltz : ¬ (j : Int) < (n : Int) := by omega
                    have hjM : j = n := by omega
                    have hse : Sat (frow kx l j) (frow kl m j) = SX := by rw [← HSX.out, frow_ge (key := kx) (l := l) (i := j) (by rw [HN2.out]; omega), frow_ge (key := kl) (l := m) (i := j) (by rw [HK2.out]; omega), HN2.out, HK2.out]
                    have hX := HX.out
                    rw [hse] at hX
                    have HSa : Hid (Calls Tryd.prog 15 #[.pointer (some ⟨g, 0, none⟩), .pointer (some ⟨g2, 0, none⟩)] wr fun e w' => e = .returned (.bool true) ∧ Hid (Two w w' g SX 100 g2 SX (1 + 2 * j))) := by
                      have h := two_same hX.two HFX.out HFX.out
                      rw [sameB_self] at h
                      exact h
                    have HSb : Hid (∀ V, Two w V g SX 100 g2 SX (1 + 2 * j) → Calls Tryd.prog 15 #[.pointer (some ⟨g2, 0, none⟩), .pointer (some ⟨g, 0, none⟩)] V fun e w' => e = .returned (.bool true) ∧ Hid (Below w.heap.size w w')) := fun V hV => by
                      have h := two_same hV.symm HFX.out HFX.out
                      rw [sameB_self] at h
                      exact h.mono fun e w' ⟨he, h2⟩ => ⟨he, h2.1⟩
                    clear hX hse hjM
                    go_wp2_with fail
                    refine HSa.out.mono ?_
                    rintro e w2 ⟨rfl, H2⟩
                    go_wp2_with fail
                    refine (HSb.out _ H2.out).mono ?_
                    rintro e w3 ⟨rfl, H3⟩
                    go_wp2_with fail
                    go_ret
                    exact ⟨rfl, H3.out⟩
end Go.Proofs.YtjbjcfnbgcloiaaDoor.modelOrder
