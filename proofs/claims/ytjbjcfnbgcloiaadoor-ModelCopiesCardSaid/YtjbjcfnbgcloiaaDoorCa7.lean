/- ModelCopies: a copy goes its own way: what is done to the one is not seen in the other, whichever way. -/
import Derived.Test.YtjbjcfnbgcloiaaDoorCa6
import Derived.Test.YtjbjcfnbgcloiaaDoorLaysN
import Derived.Test.YtjbjcfnbgcloiaaDoorCards
import Derived.Test.YtjbjcfnbgcloiaaDoorTie
import Derived.Deep.DeepHandedRow
import Derived.Lib.LaidIn
import Derived.Lib.LaidU8T
set_option linter.unusedSimpArgs false
set_option linter.unusedVariables false

set_option linter.unusedSimpArgs false
set_option linter.unusedVariables false
namespace Go.Proofs.YtjbjcfnbgcloiaaDoor
open Go.RowKit Nam YtjbjcfnbgcloiaaDoorW.PrintWords

/-! ### three models -/
def Three (w0 W : World) (g : Nat) (S : St) (n : Nat) (g2 : Nat) (S2 : St) (n2 : Nat) (g3 : Nat) (S3 : St) (n3 : Nat) : Prop :=
  Below w0.heap.size w0 W ∧ ∃ Q F Q2 F2 Q3 F3, HasM W g S n Q F ∧ HasM W g2 S2 n2 Q2 F2 ∧ HasM W g3 S3 n3 Q3 F3 ∧ (∀ k, Q k → w0.heap.size ≤ k) ∧ (∀ k, Q2 k → w0.heap.size ≤ k) ∧ (∀ k, Q3 k → w0.heap.size ≤ k) ∧ (∀ k, Q k → ¬ Q2 k) ∧ (∀ k, Q k → ¬ Q3 k) ∧ ∀ k, Q2 k → ¬ Q3 k
theorem Three.two12 {w0 W : World} {g n g2 n2 g3 n3 : Nat} {S S2 S3 : St} (h : Three w0 W g S n g2 S2 n2 g3 S3 n3) : Two w0 W g S n g2 S2 n2 := by
  obtain ⟨h0, Q, F, Q2, F2, Q3, F3, h1, h2, h3, k1, k2, k3, d12, d13, d23⟩ := h
  exact ⟨h0, Q, F, Q2, F2, h1, h2, k1, k2, d12⟩
theorem Three.two23 {w0 W : World} {g n g2 n2 g3 n3 : Nat} {S S2 S3 : St} (h : Three w0 W g S n g2 S2 n2 g3 S3 n3) : Two w0 W g2 S2 n2 g3 S3 n3 := by
  obtain ⟨h0, Q, F, Q2, F2, Q3, F3, h1, h2, h3, k1, k2, k3, d12, d13, d23⟩ := h
  exact ⟨h0, Q2, F2, Q3, F3, h2, h3, k2, k3, d23⟩
theorem Three.below {w0 W V : World} {g n g2 n2 g3 n3 : Nat} {S S2 S3 : St} (h : Three w0 W g S n g2 S2 n2 g3 S3 n3) (hb : Below W.heap.size W V) : Three w0 V g S n g2 S2 n2 g3 S3 n3 := by
  obtain ⟨h0, Q, F, Q2, F2, Q3, F3, h1, h2, h3, k⟩ := h
  exact ⟨h0.trans (hb.mono h0.size), Q, F, Q2, F2, Q3, F3, h1.below hb, h2.below hb, h3.below hb, k⟩
theorem one_callA {w0 W : World} {g n : Nat} {S : St} (h : One w0 W g S n) (x : Ch) (A : Option Addr) (c : Nat) (id : Int) (hx : x.Short) (hn : n ≤ 10000) (hS : S.Few) (hD : HasD W (.slice A (byN x.dt).length c) x.dt) (hT : Tabs W) :
    Calls Tryd.prog 10 #[.pointer (some ⟨g, 0, none⟩), .agg (chCells x (.slice A (byN x.dt).length c)).toArray, .int .i64 id] W fun e w' =>
      (∃ v, e = .returned v) ∧ One w0 w' g (S.allS x id) (n + 1) := by
  obtain ⟨h1, Q, F, h2, h3⟩ := h
  refine (callA_is W g S n Q F x A c id hx hn hS h2 hD hT).mono fun e w' ⟨he, ⟨Q', F', k1, k3⟩, k2⟩ => ⟨he, k2.below h1 h1.size h3, Q', F', k1, fun k hk => ?_⟩
  rcases k3 k hk with h | h
  · exact h3 k h
  · exact Nat.le_trans h1.size h
theorem two_callA {w0 W : World} {g n g' n' : Nat} {S S' : St} (h : Two w0 W g S n g' S' n') (x : Ch) (A : Option Addr) (c : Nat) (id : Int) (hx : x.Short) (hn : n ≤ 10000) (hS : S.Few) (hD : HasD W (.slice A (byN x.dt).length c) x.dt) (hT : Tabs W) :
    Calls Tryd.prog 10 #[.pointer (some ⟨g, 0, none⟩), .agg (chCells x (.slice A (byN x.dt).length c)).toArray, .int .i64 id] W fun e w' =>
      (∃ v, e = .returned v) ∧ Two w0 w' g (S.allS x id) (n + 1) g' S' n' := by
  obtain ⟨h1, Q, F, Q', F', h2, h3, h4, h5, h6⟩ := h
  exact (callA_is W g S n Q F x A c id hx hn hS h2 hD hT).mono fun e w' ⟨he, ⟨Q2, F2, k1, k3⟩, k2⟩ => ⟨he, Two.turn h1 h2 h3 h4 h5 h6 k1 k2 k3⟩
theorem three_callA {w0 W : World} {g n g2 n2 g3 n3 : Nat} {S S2 S3 : St} (h : Three w0 W g S n g2 S2 n2 g3 S3 n3) (x : Ch) (A : Option Addr) (c : Nat) (id : Int) (hx : x.Short) (hn : n ≤ 10000) (hS : S.Few) (hD : HasD W (.slice A (byN x.dt).length c) x.dt) (hT : Tabs W) :
    Calls Tryd.prog 10 #[.pointer (some ⟨g, 0, none⟩), .agg (chCells x (.slice A (byN x.dt).length c)).toArray, .int .i64 id] W fun e w' =>
      (∃ v, e = .returned v) ∧ Three w0 w' g (S.allS x id) (n + 1) g2 S2 n2 g3 S3 n3 := by
  obtain ⟨h0, Q, F, Q2, F2, Q3, F3, h1, h2, h3, k1, k2, k3, d12, d13, d23⟩ := h
  refine (callA_is W g S n Q F x A c id hx hn hS h1 hD hT).mono fun e w' ⟨he, ⟨Q', F', m1, m3⟩, m2⟩ => ⟨he, m2.below h0 h0.size k1, Q', F', Q2, F2, Q3, F3, m1, h2.apart m2 h1.q (fun k hk hk2 => d12 k hk2 hk), h3.apart m2 h1.q (fun k hk hk2 => d13 k hk2 hk), fun k hk => ?_, k2, k3, fun k hk hk2 => ?_, fun k hk hk2 => ?_, d23⟩
  · rcases m3 k hk with h | h
    · exact k1 k h
    · exact Nat.le_trans h0.size h
  · rcases m3 k hk with h | h
    · exact d12 k h hk2
    · have := isM_lt (h2.q k hk2)
      omega
  · rcases m3 k hk with h | h
    · exact d13 k h hk2
    · have := isM_lt (h3.q k hk2)
      omega
/-- A third model: a copy of the second of two. -/
theorem three_copy {w0 W : World} {g n g' n' : Nat} {S S' : St} (h : Two w0 W g' S' n' g S n) (hS : S.Fine) (hn : n ≤ 300) :
    Calls Tryd.prog 16 #[.pointer (some ⟨g, 0, none⟩)] W fun e w' => ∃ g3, e = .returned (.pointer (some ⟨g3, 0, none⟩)) ∧ Three w0 w' g' S' n' g S n g3 S (n * (n + 2)) := by
  obtain ⟨h1, Q', F', Q, F, h2, h3, h4, h5, h6⟩ := h
  refine (copy_is W g S n Q F hn (fun b k => by have := hS.len b k; omega) h3).mono fun e w' ⟨⟨g3, Q3, F3, he, k1, k2, _⟩, hb⟩ => ⟨g3, he, h1.trans (hb.mono h1.size), Q', F', Q, F, Q3, F3, h2.below hb, h3.below hb, k1, h4, h5, fun k hk => Nat.le_trans h1.size (k2 k hk), h6, fun k hk hk2 => ?_, fun k hk hk2 => ?_⟩
  · have := isM_lt (h2.q k hk)
    have := k2 k hk2
    omega
  · have := isM_lt (h3.q k hk)
    have := k2 k hk2
    omega
/-- The second and the third are compared. -/
theorem three_same {w0 W : World} {g n g2 n2 g3 n3 : Nat} {S S2 S3 : St} (h : Three w0 W g S n g2 S2 n2 g3 S3 n3) (hS2 : S2.Fine) (hS3 : S3.Fine) :
    Calls Tryd.prog 15 #[.pointer (some ⟨g2, 0, none⟩), .pointer (some ⟨g3, 0, none⟩)] W fun e w' => e = .returned (.bool (sameB S2 S3)) ∧ Three w0 w' g S n g2 S2 n2 g3 S3 n3 := by
  obtain ⟨h0, Q, F, Q2, F2, Q3, F3, h1, h2, h3, k⟩ := id h
  exact (same_is W g2 g3 n2 n3 S2 S3 Q2 Q3 F2 F3 h2 h3 (fun b k => by have := hS2.len b k; omega) (fun b k => by have := hS3.len b k; omega)).mono fun e w' ⟨he, hb⟩ => ⟨he, h.below hb⟩
theorem three_same' {w0 W : World} {g n g2 n2 g3 n3 : Nat} {S S2 S3 : St} (h : Three w0 W g S n g2 S2 n2 g3 S3 n3) (hS2 : S2.Fine) (hS3 : S3.Fine) :
    Calls Tryd.prog 15 #[.pointer (some ⟨g3, 0, none⟩), .pointer (some ⟨g2, 0, none⟩)] W fun e w' => e = .returned (.bool (sameB S3 S2)) ∧ Three w0 w' g S n g2 S2 n2 g3 S3 n3 := by
  obtain ⟨h0, Q, F, Q2, F2, Q3, F3, h1, h2, h3, k⟩ := id h
  exact (same_is W g3 g2 n3 n2 S3 S2 Q3 Q2 F3 F2 h3 h2 (fun b k => by have := hS3.len b k; omega) (fun b k => by have := hS2.len b k; omega)).mono fun e w' ⟨he, hb⟩ => ⟨he, h.below hb⟩

/-! ### a row of choices, one behind the other -/
noncomputable def runS (S : St) (l : List Ch) (b : Int) : Nat → St
  | 0 => S
  | i + 1 => match l[i]? with
    | some x => (runS S l b i).allS x (b + (i : Int))
    | none => runS S l b i
theorem runS_at {S : St} {l : List Ch} {b : Int} {i : Nat} (h : i < l.length) : runS S l b (i + 1) = (runS S l b i).allS l[i] (b + (i : Int)) := by
  show (match l[i]? with | some x => (runS S l b i).allS x (b + (i : Int)) | none => runS S l b i) = _
  rw [List.getElem?_eq_getElem h]
theorem few_run {S : St} (h : S.Few) (l : List Ch) (b : Int) (i : Nat) : (runS S l b i).Few := by
  induction i with
  | zero => exact h
  | succ i ih =>
    show St.Few (match l[i]? with | some x => (runS S l b i).allS x (b + (i : Int)) | none => runS S l b i)
    split
    · exact few_allS ih _ _
    · exact ih
/-- What a round of a loop of calls needs of its choice. -/
theorem choice_of {w W : World} {A : Option Addr} {l : List Ch} (h : HasC w A l) (hb : Below w.heap.size w W) (j : Nat) (hj : j < l.length) :
    ∃ ad A3 c3, A = some ad ∧ HasD W (.slice A3 (byN l[j].dt).length c3) l[j].dt ∧ W.cell? (ad.add (j * 10)) = some (.int .i64 l[j].d) ∧ W.cell? ⟨(ad.add (j * 10)).block, (ad.add (j * 10)).off + 1, none⟩ = some (.string (mkS l[j].bk)) ∧ W.cell? ⟨(ad.add (j * 10)).block, (ad.add (j * 10)).off + 2, none⟩ = some (.string (mkS l[j].ky)) ∧ W.cell? ⟨(ad.add (j * 10)).block, (ad.add (j * 10)).off + 3, none⟩ = some (.slice A3 (byN l[j].dt).length c3) ∧ W.cell? ⟨(ad.add (j * 10)).block, (ad.add (j * 10)).off + 4, none⟩ = some (.int .i64 l[j].n) ∧ W.cell? ⟨(ad.add (j * 10)).block, (ad.add (j * 10)).off + 5, none⟩ = some (.int .i64 l[j].a) ∧ W.cell? ⟨(ad.add (j * 10)).block, (ad.add (j * 10)).off + 6, none⟩ = some (.string (mkS l[j].pf)) ∧ W.cell? ⟨(ad.add (j * 10)).block, (ad.add (j * 10)).off + 7, none⟩ = some (.string (mkS l[j].fr)) ∧ W.cell? ⟨(ad.add (j * 10)).block, (ad.add (j * 10)).off + 8, none⟩ = some (.int .i64 l[j].fi) ∧ W.cell? ⟨(ad.add (j * 10)).block, (ad.add (j * 10)).off + 9, none⟩ = some (.int .i64 l[j].mo) := by
  obtain ⟨ad, A3, c3, e, h1, h2⟩ := at_Ch (h W hb) j hj
  have cf : ∀ i u, (chCells l[j] (.slice A3 (byN l[j].dt).length c3))[i + 1]? = some u → W.cell? ⟨(ad.add (j * 10)).block, (ad.add (j * 10)).off + (i + 1), none⟩ = some u := fun i u hu => by
    rw [← add_field _ _ (i + 1) (by omega)]; exact h2 (i + 1) u hu
  exact ⟨ad, A3, c3, e, HasD.of h1, h2 0 _ rfl, cf 0 _ rfl, cf 1 _ rfl, cf 2 _ rfl, cf 3 _ rfl, cf 4 _ rfl, cf 5 _ rfl, cf 6 _ rfl, cf 7 _ rfl, cf 8 _ rfl⟩
end Go.Proofs.YtjbjcfnbgcloiaaDoor

namespace Go.Proofs.YtjbjcfnbgcloiaaDoor.modelCopies
open Go.RowKit Nam YtjbjcfnbgcloiaaDoorW.PrintWords Go.Proofs.YtjbjcfnbgcloiaaDoor
set_option maxHeartbeats 4000000 in
set_option maxRecDepth 100000 in
theorem walk0 (l m : List Ch) (A B : Option Addr) (c d : Nat) (w : World) (hc : l.length ≤ c) (hd : m.length ≤ d) (hC : Kd.C kCh w A l.length l) (hD : Kd.C kCh w B m.length m) (hT : Tabs w) :
    Calls Tryd.prog 5 #[.slice A l.length c, .slice B m.length d] w fun e w' => e = .returned (.bool true) ∧ Below w.heap.size w w' := by
  have HT := Lib.hid hT
  have HC : Hid (HasC w A l) := HasC.of hC
  have HD : Hid (HasC w B m) := HasC.of hD
  have HAw : Hid (Calls Tryd.prog 6 #[] w fun e w' => e = .returned (.bool true) ∧ Below w.heap.size w w') := awake_is w hT
  obtain ⟨R, hR⟩ : ∃ R, roomB l 30 = R := ⟨_, rfl⟩
  obtain ⟨R2, hR2⟩ : ∃ R, roomB m 30 = R := ⟨_, rfl⟩
  have HRm : Hid (∀ V, Below w.heap.size w V → Calls Tryd.prog 7 #[.slice A l.length c, .int .i64 30] V fun e w' => e = .returned (.bool R) ∧ Below w.heap.size w w') := fun V hV => by
    rw [← hR]
    exact (room_is l 30 A c V hc (by decide) (HC.out V hV)).mono fun e w' ⟨he, hb⟩ => ⟨he, hV.trans (hb.mono hV.size)⟩
  have HRn : Hid (∀ V, Below w.heap.size w V → Calls Tryd.prog 7 #[.slice B m.length d, .int .i64 30] V fun e w' => e = .returned (.bool R2) ∧ Below w.heap.size w w') := fun V hV => by
    rw [← hR2]
    exact (room_is m 30 B d V hd (by decide) (HD.out V hV)).mono fun e w' ⟨he, hb⟩ => ⟨he, hV.trans (hb.mono hV.size)⟩
  have HNew : Hid (∀ V, Below w.heap.size w V → Calls Tryd.prog 8 #[] V fun e w' => ∃ g, e = .returned (.pointer (some ⟨g, 0, none⟩)) ∧ Hid (One w w' g St.new 0)) := fun V hV => one_new w V hV
  obtain ⟨n, hn⟩ : ∃ n, l.length = n := ⟨_, rfl⟩
  obtain ⟨k, hk⟩ : ∃ k, m.length = k := ⟨_, rfl⟩
  rw [hn] at HRm hc ⊢
  rw [hk] at HRn hd ⊢
  clear hT hC hD
  cases R with
  | false =>
    clear hn hR hk hR2
    go_enter Tryd.func5, Tryd.ntmps5
    go_wp2_with fail
    refine HAw.out.mono ?_
    rintro e w1 ⟨rfl, hb1⟩
    go_wp2_with fail
    refine (HRm.out _ hb1).mono ?_
    rintro e w2 ⟨rfl, hb2⟩
    go_wp2_with fail
    go_ret
    exact ⟨rfl, hb2⟩
  | true =>
    cases R2 with
    | false =>
      clear hn hR hk hR2
      go_enter Tryd.func5, Tryd.ntmps5
      go_wp2_with fail
      refine HAw.out.mono ?_
      rintro e w1 ⟨rfl, hb1⟩
      go_wp2_with fail
      refine (HRm.out _ hb1).mono ?_
      rintro e w2 ⟨rfl, hb2⟩
      go_wp2_with fail
      refine (HRn.out _ hb2).mono ?_
      rintro e w3 ⟨rfl, hb3⟩
      go_wp2_with fail
      go_ret
      exact ⟨rfl, hb3⟩
    | true =>
      have HSh := Lib.hid (ch_short hR)
      have HSh2 := Lib.hid (ch_short hR2)
      have hl30 : n ≤ 30 := by rw [← hn]; exact (roomB_ok hR).1
      have hm30 : k ≤ 30 := by rw [← hk]; exact (roomB_ok hR2).1
      have HN2 := Lib.hid hn
      have HK2 := Lib.hid hk
      obtain ⟨SA, hSA⟩ : ∃ SA, runS St.new l 10 n = SA := ⟨_, rfl⟩
      have HSA := Lib.hid hSA
      have HFA : Hid (SA.Few) := by show St.Few _; rw [← hSA]; exact few_run few_new _ _ _
      obtain ⟨SC, hSC⟩ : ∃ SC, runS SA m 100 k = SC := ⟨_, rfl⟩
      have HSC := Lib.hid hSC
      have HFC : Hid (SC.Few) := by show St.Few _; rw [← hSC]; exact few_run HFA.out _ _ _
      have HFj := Lib.hid (fun j => few_run few_new l 10 j)
      have HFk := Lib.hid (fun j => few_run HFA.out m 100 j)
      obtain ⟨N, hN⟩ : ∃ N, n * (n + 2) = N := ⟨_, rfl⟩
      have hNN : N ≤ 960 := by rw [← hN]; exact Nat.le_trans (Nat.mul_le_mul hl30 (Nat.add_le_add_right hl30 2)) (by decide)
      have HC1 : Hid (∀ V g, One w V g SA n → Calls Tryd.prog 16 #[.pointer (some ⟨g, 0, none⟩)] V fun e w' => ∃ g', e = .returned (.pointer (some ⟨g', 0, none⟩)) ∧ Hid (Two w w' g' SA N g SA n)) := fun V g h =>
        (one_copy h HFA.out.fine (by omega)).mono fun e w' ⟨g', he, h2⟩ => ⟨g', he, by rw [hN] at h2; exact h2.symm⟩
      have HC2 : Hid (∀ V g g', Two w V g' SA N g SA n → Calls Tryd.prog 16 #[.pointer (some ⟨g, 0, none⟩)] V fun e w' => ∃ g3, e = .returned (.pointer (some ⟨g3, 0, none⟩)) ∧ Hid (Three w w' g' SA N g SA n g3 SA N)) := fun V g g' h =>
        (three_copy h HFA.out.fine (by omega)).mono fun e w' ⟨g3, he, h2⟩ => ⟨g3, he, by rw [hN] at h2; exact h2⟩
      have HS1 : Hid (∀ V g g' g3, Three w V g' SC (N + k) g SA n g3 SA N → Calls Tryd.prog 15 #[.pointer (some ⟨g, 0, none⟩), .pointer (some ⟨g3, 0, none⟩)] V fun e w' => e = .returned (.bool true) ∧ Hid (Three w w' g' SC (N + k) g SA n g3 SA N)) := fun V g g' g3 h => by
        have h2 := three_same h HFA.out.fine HFA.out.fine
        rw [sameB_self] at h2
        exact h2
      have HS2 : Hid (∀ V g g' g3, Three w V g' SC (N + k) g SA n g3 SA N → Calls Tryd.prog 15 #[.pointer (some ⟨g3, 0, none⟩), .pointer (some ⟨g, 0, none⟩)] V fun e w' => e = .returned (.bool true) ∧ Hid (Three w w' g' SC (N + k) g SA n g3 SA N)) := fun V g g' g3 h => by
        have h2 := three_same' h HFA.out.fine HFA.out.fine
        rw [sameB_self] at h2
        exact h2
      have HS3 : Hid (∀ V g g', Two w V g SC (n + k) g' SC (N + k) → Calls Tryd.prog 15 #[.pointer (some ⟨g, 0, none⟩), .pointer (some ⟨g', 0, none⟩)] V fun e w' => e = .returned (.bool true) ∧ Hid (Two w w' g SC (n + k) g' SC (N + k))) := fun V g g' h => by
        have h2 := two_same h HFC.out.fine HFC.out.fine
        rw [sameB_self] at h2
        exact h2
      have HS4 : Hid (∀ V g g', Two w V g SC (n + k) g' SC (N + k) → Calls Tryd.prog 15 #[.pointer (some ⟨g', 0, none⟩), .pointer (some ⟨g, 0, none⟩)] V fun e w' => e = .returned (.bool true) ∧ Hid (Below w.heap.size w w')) := fun V g g' h => by
        have h2 := two_same h.symm HFC.out.fine HFC.out.fine
        rw [sameB_self] at h2
        exact h2.mono fun e w' ⟨he, h3⟩ => ⟨he, h3.1⟩
      clear hn hR hk hR2 hSA hSC hN
      go_enter Tryd.func5, Tryd.ntmps5
      go_wp2_with fail
      refine HAw.out.mono ?_
      rintro e w1 ⟨rfl, hb1⟩
      go_wp2_with fail
      refine (HRm.out _ hb1).mono ?_
      rintro e w2 ⟨rfl, hb2⟩
      go_wp2_with fail
      refine (HRn.out _ hb2).mono ?_
      rintro e w3 ⟨rfl, hb3⟩
      go_wp2_with fail
      refine (HNew.out _ hb3).mono ?_
      rintro e w4 ⟨g, rfl, H4⟩
      clear HRm HRn HNew HAw hb1 hb2 hb3
      have HX0 : Hid (One w w4 g (runS St.new l 10 0) 0) := H4
      clear H4
      go_wp2_with fail
      go_loopw [6] (fun vi wr => ∃ (j : Nat), vi = .int .i64 j ∧ j ≤ n ∧ Hid (One w wr g (runS St.new l 10 j) j)) (fun vi _ => n - (intOf vi).toNat)
      case atStart => exact ⟨0, rfl, Nat.zero_le _, HX0⟩
      case round =>
        clear HX0
        obtain ⟨j, rfl, hj, HX⟩ := hrel
        by_cases hlt : j < n
        · have hltz : (j : Int) < (n : Int) := by omega
          have hlL : j < l.length := by rw [HN2.out]; exact hlt
          obtain ⟨ad, A3, c3, hA, hdt, a0, a1, a2, a3, a4, a5, a6, a7, a8, a9⟩ := choice_of HC.out HX.out.1 j hlL
          subst hA
          have HCa : Hid (Calls Tryd.prog 10 #[.pointer (some ⟨g, 0, none⟩), .agg #[.int .i64 l[j].d, .string (mkS l[j].bk), .string (mkS l[j].ky), .slice A3 (byN l[j].dt).length c3, .int .i64 l[j].n, .int .i64 l[j].a, .string (mkS l[j].pf), .string (mkS l[j].fr), .int .i64 l[j].fi, .int .i64 l[j].mo], .int .i64 (10 + (j : Int))] wr fun e w' => (∃ v, e = .returned v) ∧ Hid (One w w' g (runS St.new l 10 (j + 1)) (j + 1))) :=
            (one_callA HX.out l[j] A3 c3 (10 + (j : Int)) (HSh.out _ (List.getElem_mem hlL)) (by omega) (HFj.out j) hdt (HT.out.below HX.out.1)).mono fun e w' ⟨he, h1⟩ => ⟨he, by show One _ _ _ _ _; rw [runS_at hlL]; exact h1⟩
          clear hdt
          go_wp2_with fail
          refine HCa.out.mono ?_
          rintro e w2 ⟨⟨v, rfl⟩, HX2⟩
          go_wp2_with fail
          go_roundw
          case rel => exact ⟨j + 1, by go_num, by omega, HX2⟩
          case measure => simp [intOf]; omega
        · have hltz : ¬ (j : Int) < (n : Int) := by omega
          have hjn : j = n := by omega
          have HX1 : Hid (One w wr g SA n) := by
            have h := HX.out
            rw [hjn, HSA.out] at h
            exact h
          clear HX hjn HFj
          go_wp2_with fail
          refine (HC1.out _ _ HX1.out).mono ?_
          rintro e w5 ⟨g2, rfl, HX2⟩
          go_wp2_with fail
          refine (HC2.out _ _ _ HX2.out).mono ?_
          rintro e w6 ⟨g3, rfl, HX3⟩
          have HY0 : Hid (Three w w6 g2 (runS SA m 100 0) (N + 0) g SA n g3 SA N) := HX3
          clear HX1 HX2 HX3 HC1 HC2
          go_wp2_with fail
          go_loopw [9] (fun vi wr => ∃ (j : Nat), vi = .int .i64 j ∧ j ≤ k ∧ Hid (Three w wr g2 (runS SA m 100 j) (N + j) g SA n g3 SA N)) (fun vi _ => k - (intOf vi).toNat)
          case atStart => exact ⟨0, rfl, Nat.zero_le _, HY0⟩
          case round =>
            clear HY0
            clear hltz hlt hj
            rename_i j0 _ _ _ _
            obtain ⟨j, rfl, hj, HX⟩ := hrel
            by_cases hlt : j < k
            · have hltz : (j : Int) < (k : Int) := by omega
              have hlL : j < m.length := by rw [HK2.out]; exact hlt
              obtain ⟨ad, A3, c3, hA, hdt, a0, a1, a2, a3, a4, a5, a6, a7, a8, a9⟩ := choice_of HD.out HX.out.1 j hlL
              subst hA
              have HCa : Hid (Calls Tryd.prog 10 #[.pointer (some ⟨g2, 0, none⟩), .agg #[.int .i64 m[j].d, .string (mkS m[j].bk), .string (mkS m[j].ky), .slice A3 (byN m[j].dt).length c3, .int .i64 m[j].n, .int .i64 m[j].a, .string (mkS m[j].pf), .string (mkS m[j].fr), .int .i64 m[j].fi, .int .i64 m[j].mo], .int .i64 (100 + (j : Int))] wr fun e w' => (∃ v, e = .returned v) ∧ Hid (Three w w' g2 (runS SA m 100 (j + 1)) (N + (j + 1)) g SA n g3 SA N)) :=
                (three_callA HX.out m[j] A3 c3 (100 + (j : Int)) (HSh2.out _ (List.getElem_mem hlL)) (by omega) (HFk.out j) hdt (HT.out.below HX.out.1)).mono fun e w' ⟨he, h1⟩ => ⟨he, by show Three _ _ _ _ _ _ _ _ _ _ _; rw [runS_at hlL]; exact h1⟩
              clear hdt
              go_wp2_with fail
              refine HCa.out.mono ?_
              rintro e w2 ⟨⟨v, rfl⟩, HX2⟩
              go_wp2_with fail
              go_roundw
              case rel => exact ⟨j + 1, by go_num, by omega, HX2⟩
              case measure => simp [intOf]; omega
            · have hltz : ¬ (j : Int) < (k : Int) := by omega
              have hjn : j = k := by omega
              have HX1 : Hid (Three w wr g2 SC (N + k) g SA n g3 SA N) := by
                have h := HX.out
                rw [hjn, HSC.out] at h
                exact h
              clear HX hjn
              go_wp2_with fail
              refine (HS1.out _ _ _ _ HX1.out).mono ?_
              rintro e w5 ⟨rfl, HX2⟩
              go_wp2_with fail
              refine (HS2.out _ _ _ _ HX2.out).mono ?_
              rintro e w6 ⟨rfl, HX3⟩
              have HZ0 : Hid (Two w w6 g (runS SA m 100 0) (n + 0) g2 SC (N + k)) := HX3.out.two12.symm
              clear HX1 HX2 HX3 HS1 HS2
              go_wp2_with fail
              go_loopw [10] (fun vi wr => ∃ (j : Nat), vi = .int .i64 j ∧ j ≤ k ∧ Hid (Two w wr g (runS SA m 100 j) (n + j) g2 SC (N + k))) (fun vi _ => k - (intOf vi).toNat)
              case atStart => exact ⟨0, rfl, Nat.zero_le _, HZ0⟩
              case round =>
                clear HZ0
                clear hltz hlt hj
                rename_i j1 _ _ _ _
                obtain ⟨j, rfl, hj, HX⟩ := hrel
                by_cases hlt : j < k
                · have hltz : (j : Int) < (k : Int) := by omega
                  have hlL : j < m.length := by rw [HK2.out]; exact hlt
                  obtain ⟨ad, A3, c3, hA, hdt, a0, a1, a2, a3, a4, a5, a6, a7, a8, a9⟩ := choice_of HD.out HX.out.1 j hlL
                  subst hA
                  have HCa : Hid (Calls Tryd.prog 10 #[.pointer (some ⟨g, 0, none⟩), .agg #[.int .i64 m[j].d, .string (mkS m[j].bk), .string (mkS m[j].ky), .slice A3 (byN m[j].dt).length c3, .int .i64 m[j].n, .int .i64 m[j].a, .string (mkS m[j].pf), .string (mkS m[j].fr), .int .i64 m[j].fi, .int .i64 m[j].mo], .int .i64 (100 + (j : Int))] wr fun e w' => (∃ v, e = .returned v) ∧ Hid (Two w w' g (runS SA m 100 (j + 1)) (n + (j + 1)) g2 SC (N + k))) :=
                    (two_callA HX.out m[j] A3 c3 (100 + (j : Int)) (HSh2.out _ (List.getElem_mem hlL)) (by omega) (HFk.out j) hdt (HT.out.below HX.out.1)).mono fun e w' ⟨he, h1⟩ => ⟨he, by show Two _ _ _ _ _ _ _ _; rw [runS_at hlL]; exact h1⟩
                  clear hdt
                  go_wp2_with fail
                  refine HCa.out.mono ?_
                  rintro e w2 ⟨⟨v, rfl⟩, HX2⟩
                  go_wp2_with fail
                  go_roundw
                  case rel => exact ⟨j + 1, by go_num, by omega, HX2⟩
                  case measure => simp [intOf]; omega
                · have hltz : ¬ (j : Int) < (k : Int) := by omega
                  have hjn : j = k := by omega
                  have HX1 : Hid (Two w wr g SC (n + k) g2 SC (N + k)) := by
                    have h := HX.out
                    rw [hjn, HSC.out] at h
                    exact h
                  clear HX hjn
                  go_wp2_with fail
                  refine (HS3.out _ _ _ HX1.out).mono ?_
                  rintro e w5 ⟨rfl, HX2⟩
                  go_wp2_with fail
                  refine (HS4.out _ _ _ HX2.out).mono ?_
                  rintro e w6 ⟨rfl, HX3⟩
                  go_wp2_with fail
                  go_ret
                  exact ⟨rfl, HX3.out⟩
end Go.Proofs.YtjbjcfnbgcloiaaDoor.modelCopies

/- ModelCopies: a copy goes its own way: what is done to the one is not seen in the other, whichever way. -/
namespace Go.Proofs.YtjbjcfnbgcloiaaDoor.modelCopies
open Go.ChangeShapes Go.WideShapes Go.ChangeAt Go.RowKit Go.Shelf Nam Go.Proofs.YtjbjcfnbgcloiaaDoor

section
variable {H : Type} {enc : TypeId × Value → H}
set_option maxRecDepth 100000 in
theorem walk (u : Value) (du : DataW H) (pu : List MemPlace) {Wu : World} {bu : Nat} (ou : Value.okWide Tryd.prog Wu .any bu 22 u) (hu : DataW.Trod enc Tryd.prog Wu 0 (fun _ => true) true 22 u du pu) (v : Value) (dv : DataW H) (pv : List MemPlace) {Wv : World} {bv : Nat} (ov : Value.okWide Tryd.prog Wv .any bv 22 v) (hv : DataW.Trod enc Tryd.prog Wv 0 (fun _ => true) true 22 v dv pv) (W : World) (eu : W = Wu) (ev : W = Wv) (hT : Tabs W) :
    Calls Tryd.prog 5 #[u, v] W fun e W' => e = .returned (.bool true) ∧ Below W.heap.size W W' := by
  subst eu
  obtain ⟨lu, Au, cu, rfl, hcu, hCu, hNu⟩ := open_chs ou hu
  subst ev
  obtain ⟨lv, Av, cv, rfl, hcv, hCv, hNv⟩ := open_chs ov hv
  exact walk0 lu lv Au Av cu cv W hcu hcv hCu hCv hT
end
theorem own : ownKnob Tryd.prog.godebug = none := by kernel_rfl
theorem laidOut : laidOutB Tryd.prog = true := by kernel_rfl
/-- A world for the witness: the two tables holding what their initialisers lay. -/
noncomputable def laidWorld (os : Os) : World :=
  let w0 := World.holding Tryd.prog os ⟨#[], #[], []⟩
  let put (h : Array Obj) (g : Nat) (cs : Array Value) : Array Obj := h.modify g fun
    | .cells _ t frozen => .cells cs t frozen
    | o => o
  let h1 := put w0.heap 0 (Lib.firstTab.map fun z => Value.int .u8 z).toArray
  let h2 := put h1 1 ((List.range 16).flatMap fun i => [Value.int .u8 (Lib.accLo i), Value.int .u8 (Lib.accHi i)]).toArray
  { w0 with heap := h2 }
theorem laid_met (os : Os) : laidMet Tryd.prog Rows.modelCopiesRow.laid ((laidWorld os).forCall (fun _ _ => 0) ⟨#[], #[.slice none 0 0, .slice none 0 0], []⟩).memory :=
  laidMet_of_run' 8 (by kernel_rfl) (by kernel_rfl)
theorem reads (os : Os) {H : Type} (enc : TypeId × Value → H) : ∃ places, DataW.whole enc Tryd.prog ((laidWorld os).forCall (fun _ _ => 0) ⟨#[], #[.slice none 0 0, .slice none 0 0], []⟩).memory Tryd.f5.params.toList Rows.modelCopiesSpec.vars false (#[.slice none 0 0, .slice none 0 0] : Array Value).toList 8 = some ([.nil, .nil], [], places) :=
  ⟨[], by kernel_rfl⟩
set_option maxRecDepth 1000000 in
theorem tabs_of {W : World} (h : laidMetH Tryd.prog Rows.modelCopiesRow.laid W) : Tabs W :=
  utf8Tabs_of_readsT (U8Types.of196 Tryd.laysValid) ⟨by kernel_rfl, by kernel_rfl, by kernel_rfl, by kernel_rfl, by kernel_rfl, by kernel_rfl, by kernel_rfl⟩ (Lib.laidMet.reads h (.tail _ (.head _))) (Lib.laidMet.reads h (.head _))
set_option maxRecDepth 100000 in
theorem lifted (os : Os) (started : os.Started) (H : Type) (enc : TypeId × Value → H) (F : Stop.Interp) :
    ReturnsInHanded {} Tryd.checked os 5 .any ((OpenSpec.ofChange Rows.modelCopiesSpec).preRow enc Tryd.prog Tryd.f5 Rows.modelCopiesRow.domain false Rows.modelCopiesRow.laid) (((OpenSpec.ofChange Rows.modelCopiesSpec).at F).post enc Tryd.prog Tryd.f5 false true false false) := by
  obtain ⟨places, hx⟩ := reads os enc
  refine returnsInHanded_of_row (C := Tryd.checked) (s := OpenSpec.ofChange Rows.modelCopiesSpec) own started (by kernel_rfl) Tryd.func5
    (witness_row_at (enc := enc) (C := Tryd.checked) false (laidWorld os) #[.slice none 0 0, .slice none 0 0] rfl (by kernel_rfl) (by kernel_rfl) (by kernel_rfl)
      (OpenSpec.preRow_of_cond 8 hx (by kernel_rfl) (fun k hk => by cases hk) (by kernel_rfl) (laid_met os))) ?_
  intro W base args ds gs before hval0 hW _ _ _ hL _ _
  have hval : ∀ (j : Nat) t v, Tryd.f5.params[j]? = some t → args[j]? = some v → Value.okWide Tryd.prog W .any base t v := hval0
  have hW' := hW
  obtain ⟨p, q, hA0, hV, rfl, hfz, hnd⟩ := hW
  have hA : DataW.TrodAll enc Tryd.prog W 0 (fun _ => true) true Tryd.f5.params.toList args.toList ds p := hA0
  rw [Tryd.params5] at hA hval
  obtain ⟨v0, vs0, d0, ds0, p0, q0, hargs, rfl, rfl, h0, r0⟩ := trodAll_cons hA
  obtain ⟨v1, vs1, d1, ds1, p1, q1, rfl, rfl, rfl, h1, r1⟩ := trodAll_cons r0
  obtain ⟨rfl, rfl, rfl⟩ := trodAll_nil r1
  obtain rfl : args = #[v0, v1] := by cases args; simp_all
  obtain ⟨rfl, rfl⟩ := trodVars_none hV
  have o0 := hval 0 22 v0 rfl rfl
  have o1 := hval 1 22 v1 rfl rfl
  clear hA0 hval0
  simp only [List.append_nil] at hW'
  refine (walk v0 d0 p0 o0 h0 v1 d1 p1 o1 h1 W rfl rfl (tabs_of hL)).mono fun e W' ⟨he, hg⟩ => ?_
  subst he
  exact ⟨_, rfl, law_post (s := Rows.modelCopiesSpec) laidOut (of_decide_eq_true (by kernel_rfl)) Tryd.underlying4 rfl rfl rfl rfl rfl hW' hg⟩

theorem said : Rows.ModelCopiesSaid :=
  OpenClaim.holds_of_cond 5 Tryd.f5 rfl rfl rfl rfl rfl rfl rfl ⟨rfl, rfl, rfl, rfl, rfl⟩ rfl rfl rfl rfl rfl (by kernel_rfl) Tryd.func5 (by kernel_rfl)
    (of_decide_eq_true (by kernel_rfl)) (by unfold Func.isWrapper; first | (rw [if_pos (by decide +kernel)]; kernel_rfl) | (rw [if_neg (by decide +kernel)]; exact ⟨rfl, rfl⟩))
    (fun os started H enc _ F => by rw [OpenClaim.pre_eq_preRow]; exact lifted os started H enc F)
theorem plain (f : FuncId) (fn : Func) (hf : Tryd.pinned.checked.prog.funcNamed "strongbox/strongboxlaw22.ModelCopies" = some f) (hfn : Tryd.pinned.checked.prog.funcs[f]? = some fn) :
    true = Tryd.pinned.checked.prog.looks [] ∧ ∀ (j : Nat) t, fn.params[j]? = some t → Tryd.pinned.checked.prog.wantsStandIn t = false := by
  obtain rfl : f = 5 := Option.some.inj ((show Tryd.prog.funcNamed "strongbox/strongboxlaw22.ModelCopies" = some 5 by kernel_rfl).symm.trans hf) |>.symm
  obtain rfl : fn = Tryd.f5 := (Option.some.inj (Tryd.func5.symm.trans hfn)).symm
  refine ⟨by kernel_rfl, fun j t ht => ?_⟩
  rw [Tryd.params5] at ht
  have hm := Array.mem_of_getElem? ht
  simp only [List.mem_toArray, List.mem_cons, List.not_mem_nil, or_false] at hm
  rcases hm with rfl | rfl
  · exact (show Tryd.prog.wantsStandIn 22 = false by kernel_rfl)
  · exact (show Tryd.prog.wantsStandIn 22 = false by kernel_rfl)

/-- ████ THE CARD ████ -/
theorem proved : Rows.ModelCopiesCardSaid :=
  Claim7.holds_tied_plain_at .later [] _ _ _ _ said (fun _ h => by cases h) (by kernel_rfl) (fun _ h => by cases h) modelCopies_row_tie rfl ⟨rfl, rfl⟩ (by kernel_rfl) rfl plain (by kernel_rfl)
#print axioms proved
end Go.Proofs.YtjbjcfnbgcloiaaDoor.modelCopies
