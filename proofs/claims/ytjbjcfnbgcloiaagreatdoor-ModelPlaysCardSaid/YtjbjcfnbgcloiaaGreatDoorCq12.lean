/- The document's own model: Erase. -/
import Derived.Test.YtjbjcfnbgcloiaaGreatDoorCq11
import Derived.Deep.RegionLaw
import Derived.Deep.RegionHeld3
set_option linter.unusedSimpArgs false
set_option linter.unusedVariables false

set_option linter.unusedSimpArgs false
set_option linter.unusedVariables false
namespace Go.Proofs.YtjbjcfnbgcloiaaGreatDoor
open Go.RowKit Nam YtjbjcfnbgcloiaaGreatDoorW.PrintWords Go.Shelf

def rEraI (id : Int) : Int := if id = 0 then -1 else id
def rEraL (B : List (List UInt8)) (L : List Ob) (b k : List UInt8) (id : Int) : List Ob :=
  if rFindE B L b k (rEraI id) = 0 then L.set (atL L b k).2 ⟨b, k, (rsOf L b k).take (idxK (rEraI id) (rsOf L b k)).toNat ++ (rsOf L b k).drop ((idxK (rEraI id) (rsOf L b k)).toNat + 1)⟩ else L
set_option maxHeartbeats 2000000 in
set_option maxRecDepth 100000 in
theorem rera_is (w : World) (g : Nat) (B : List (List UInt8)) (L : List Ob) (b0 : Nat) (Q F : Nat → Prop) (b k : List UInt8) (id : Int) (hb : b.length ≤ 100000) (hk : k.length ≤ 100000) (hB : B.length ≤ 100000) (hL : L.length ≤ 100000) (hrs : ∀ o ∈ L, o.rs.length ≤ 64) (hb0 : b0 ≤ w.heap.size) (hm : RefM w g B L b0 Q F) (hT : Tabs w) :
    Calls Tryz.prog 45 #[.pointer (some ⟨g, 0, none⟩), .string (mkS b), .string (mkS k), .int .i64 id] w fun e w' => e = .returned (.int .i64 (rFindE B L b k (rEraI id))) ∧ Left w g b0 B (rEraL B L b k id) Q F w' := by
  obtain ⟨ie, hie⟩ : ∃ ie, rEraI id = ie := ⟨_, rfl⟩
  obtain ⟨fe, hfe⟩ : ∃ fe, rFindE B L b k ie = fe := ⟨_, rfl⟩
  have HFi : Hid (Calls Tryz.prog 70 #[.pointer (some ⟨g, 0, none⟩), .string (mkS b), .string (mkS k), .int .i64 ie] w fun e w' => (∃ i j : Int, e = .returned (.tuple #[.int .i64 i, .int .i64 j, .int .i64 fe]) ∧ Hid (fe = 0 → i = ((atL L b k).2 : Int) ∧ j = idxK ie (rsOf L b k))) ∧ Hid (Below w.heap.size w w')) := by
    have h := rfind_is w g B L b0 Q F b k ie hb hk hB hL hrs hm hT
    unfold RFindIs at h
    rw [hfe] at h
    exact h
  unfold rEraL
  rw [hie, hfe]
  have HM := Lib.hid hm
  clear hT hm
  by_cases h0 : fe = 0
  · subst h0
    rw [if_pos rfl]
    obtain ⟨hne, j, y, hix, hy, hgk⟩ := rfind_0 hfe
    obtain ⟨ha1, ha2, ha3⟩ := at_has hne
    have hrl := rsOf_len hrs b k
    obtain ⟨i, hi⟩ : ∃ i, (atL L b k).2 = i := ⟨_, rfl⟩
    rw [hi] at ha2 HFi ⊢
    rw [hix] at HFi ⊢
    rw [Int.toNat_natCast]
    obtain ⟨rs, hrsv⟩ : ∃ rs, rsOf L b k = rs := ⟨_, rfl⟩
    rw [hrsv] at ha2 hy hrl ⊢
    have hjl : j < rs.length := (List.getElem?_eq_some_iff.1 hy).1
    have HOb := Lib.hid ha2
    have HFe0 := hfe
    clear hne hgk ha1 ha2 ha3 hix hrsv hfe hi hrs
    have hid : id ≠ 0 := fun e => by
      have hie2 : ie = -1 := by rw [← hie, e]; exact if_pos rfl
      rw [hie2] at HFe0
      unfold rFindE at HFe0
      by_cases hn : namedB b k = false
      · rw [if_pos hn] at HFe0; cases HFe0
      · rw [if_neg hn, if_pos (by decide)] at HFe0; cases HFe0
    have hie2 : ie = id := by rw [← hie]; exact if_neg hid
    have hid2 : (ie == 0) = false := by rw [hie2]; simp; exact hid
    subst hie2
    clear hie hid HFe0
    go_enter Tryz.func45, Tryz.ntmps45
    go_wp2_with fail
    refine HFi.out.mono ?_
    rintro e wc ⟨⟨ii, jj, rfl, hij⟩, HB2⟩
    obtain ⟨rfl, rfl⟩ := hij.out (by first | rfl | trivial)
    have hR1 := HM.out.below HB2.out
    obtain ⟨vb, vl, news, k1, k2, k3, k4, k5⟩ := hR1.ex
    have hil : i < L.length := (List.getElem?_eq_some_iff.1 HOb.out).1
    obtain ⟨gl, cl, rfl, _⟩ := k3.form (by omega)
    obtain ⟨vs, ds, e1, e2, e3⟩ := k4.2 i _ HOb.out
    obtain ⟨m, hmm⟩ : ∃ m, rs.length = m := ⟨_, rfl⟩
    obtain ⟨gv, vc, csv, ev, _⟩ := e2.at_ j hy
    obtain ⟨gd, dc, csd, ed, _⟩ := e3.at_ j hy
    simp only at ev ed
    subst ev
    subst ed
    have hcell : ∀ t u, t < 4 → [Value.string (mkS b), .string (mkS k), .slice (some ⟨gv, 0, none⟩) rs.length vc, .slice (some ⟨gd, 0, none⟩) rs.length dc][t]? = some u → wc.cell? ⟨gl, i * 4 + t, none⟩ = some u := fun t u ht hu => by
      have := k3.cells (g := gl) rfl (i * 4 + t) u
      rw [add_plain] at this
      refine this ?_
      rw [← e1, List.getElem?_take, if_pos ht, List.getElem?_drop] at hu
      exact hu
    have c2 := hcell 2 _ (by omega) rfl
    have c3 := hcell 3 _ (by omega) rfl
    have g1 : wc.cell? ⟨g, 1, none⟩ = some (.slice (some ⟨gl, 0, none⟩) L.length cl) := blk_cell k1 1
    have hilz : (i : Int) < (L.length : Int) := by omega
    obtain ⟨nv, hnv, rnv⟩ := e2
    obtain ⟨nd, hnd, rnd⟩ := e3
    have hvc : rs.length ≤ vc := by
      rcases hnv with ⟨e, _⟩ | ⟨_, _, e, h, _⟩
      · cases e
      · injection e with _ _ e; omega
    have hdc : rs.length ≤ dc := by
      rcases hnd with ⟨e, _⟩ | ⟨_, _, e, h, _⟩
      · cases e
      · injection e with _ _ e; omega
    have hnvl : nv.length = rs.length * 4 := rnv.1
    have hndl : nd.length = rs.length * 1 := rnd.1
    have HLv : Hid (∀ V, Below wc.heap.size wc V → LiesAt V (.slice (some ⟨gv, 0, none⟩) rs.length vc) rs.length nv) := fun V hV => hnv.lies.below hV
    have HOv : Hid (∀ u ∈ nv, u.oneCell' = true) := rg_ones rnv (by decide) (fun p c hp u hu => by rw [show c = _ from hp] at hu; simp at hu; rcases hu with rfl | rfl | rfl | rfl <;> rfl)
    have HOd : Hid (∀ u ∈ nd, u.oneCell' = true) := rg_ones rnd (by decide) (fun p c hp u hu => by
      obtain ⟨a1, a2, a3, _⟩ := hp
      rw [a3, List.mem_singleton] at hu
      subst hu
      rfl)
    have HRv := Lib.hid rnv
    have HNd := Lib.hid (And.intro hnd rnd)
    have HX := Lib.hid (And.intro k1 (And.intro k2 (And.intro k3 (And.intro k4 k5))))
    have HE1 := Lib.hid e1
    have HR1 := Lib.hid hR1
    have HFg : Hid (∀ V, Below wc.heap.size wc V → V.frozen? ⟨gl, i * 4 + 2, none⟩ = false) := fun V hV => (pw_own_below k3 hV).frozenAt _
    have hjm : j + 1 ≤ rs.length := hjl
    have hj1 : j ≤ rs.length := by omega
    have hjc : j ≤ vc := by omega
    have hjc1 : j + 1 ≤ vc := by omega
    have hjd : j ≤ dc := by omega
    have hjd1 : j + 1 ≤ dc := by omega
    have hjmz : (j : Int) + 1 ≤ (rs.length : Int) := by omega
    have hjlz : (j : Int) < (rs.length : Int) := by omega
    have hjcz : (j : Int) + 1 ≤ (vc : Int) := by omega
    have hjdz : (j : Int) + 1 ≤ (dc : Int) := by omega
    have hrs64 : rs.length ≤ 64 := hrl
    have hw1 : IntKind.i64.wrap ((j : Int) + 1) = (j : Int) + 1 := by rw [IntWalk.i64_in _ (by omega)]
    have hw2 : ((j : Int) + 1).toNat = j + 1 := by omega
    have hw3 : (0 : Int) ≤ (j : Int) + 1 := by omega
    clear hcell k1 k2 k3 k4 k5 e1 hnv rnv hnd rnd hR1 hij hy hmm
    have HLt : Hid (∀ V, Below wc.heap.size wc V → LiesAt V (.slice (some ⟨gv, 0, none⟩) j vc) j (nv.take (j * 4))) := fun V hV => (HLv.out V hV).to_ j 4 hj1
    have HLf : Hid (∀ V, Below wc.heap.size wc V → LiesAt V (.slice (if vc = j + 1 then some ⟨gv, 0, none⟩ else some ⟨gv, (j + 1) * 4, none⟩) (rs.length - (j + 1)) (vc - (j + 1))) (rs.length - (j + 1)) (nv.drop ((j + 1) * 4))) := fun V hV => by
      have h := (HLv.out V hV).from_ (j + 1) 4 hjm hnvl
      simp only [Option.map_some, add_plain] at h ⊢
      exact h
    have hlt4 : (nv.take (j * 4)).length = j * 4 := by rw [List.length_take, hnvl]; omega
    have hlf4 : (nv.drop ((j + 1) * 4)).length = (rs.length - (j + 1)) * 4 := by rw [List.length_drop, hnvl]; omega
    have HOt : Hid (∀ u ∈ nv.take (j * 4), u.oneCell' = true) := fun u hu => HOv.out u (List.mem_of_mem_take hu)
    have HOf : Hid (∀ u ∈ nv.drop ((j + 1) * 4), u.oneCell' = true) := fun u hu => HOv.out u (List.mem_of_mem_drop hu)
    go_upto_region 7 with (fail)
    go_cut [10] (fun vj wx => vj = .int .i64 j ∧ ∃ (wb : World) (p2 : Option Addr) (q2 : Nat), wx = wb.setCell ⟨gl, i * 4 + 2, none⟩ (.slice p2 (j + (rs.length - (j + 1))) q2) ∧ Hid (Below wc.heap.size wc wb) ∧ Hid (wb.ownsRow wc.heap.size 38 4 (.slice p2 (j + (rs.length - (j + 1))) q2) (j + (rs.length - (j + 1))) (nv.take (j * 4) ++ nv.drop ((j + 1) * 4))))
    case first =>
      have HB5 : Hid (Below wc.heap.size wc wc.drew) := (Below.refl _ _).drew
      go_region_law
        (first
        | (refine step_ap_lies (base := wc.heap.size) (n := 0) (m := j) (xs := []) (cs := nv.take (j * 4)) apV (by rfl) (.const (.slice none 0 0)) (.tmp 39) (by rfl) (by rfl) (own_nil _ _ _ _) (by rfl) (HLt.out _ HB5.out) hlt4 HOt.out (by omega) HB5.out.size ?_; intro u1 wa hown1 hgr1 _; have HO1 := Lib.hid hown1; have HBa : Hid (Below wc.heap.size wc wa) := Below.grown HB5.out hgr1 HB5.out.size (fun k hk => by cases hk); clear hown1 hgr1; have c2b := pw_cell_below HBa.out c2)
        | (refine step_ap_lies (base := wc.heap.size) (n := 0 + j) (m := rs.length - (j + 1)) (xs := [] ++ nv.take (j * 4)) (cs := nv.drop ((j + 1) * 4)) apV (by rfl) (.tmp 40) (.tmp 47) (by rfl) (by rfl) HO1.out (by rfl) (HLf.out _ HBa.out) hlf4 HOf.out (by omega) HBa.out.size ?_; intro u2 wb hown2 hgr2 _; rw [Nat.zero_add, List.nil_append] at hown2; obtain ⟨p2, q2, rfl⟩ := own_slice hown2; have HO2 := Lib.hid hown2; have HBb : Hid (Below wc.heap.size wc wb) := HBa.out.grown hgr2 HBa.out.size (fun k hk => own_ge HO1.out k hk); clear hown2 hgr2; have cbb := pw_cell_below HBb.out c2; have fbb := HFg.out _ HBb.out)
        | fail)
      all_goals
        go_wp2_with fail
      all_goals
        go_meet
        exact ⟨rfl, wb, p2, q2, rfl, HBb, HO2⟩
    case rest =>
      obtain ⟨rfl, wb, p2, q2, rfl, HBb, HO2⟩ := hcut
      obtain ⟨W6, hW6⟩ : ∃ W6, wb.setCell ⟨gl, i * 4 + 2, none⟩ (.slice p2 (j + (rs.length - (j + 1))) q2) = W6 := ⟨_, rfl⟩
      have hq1 : Q gl := HX.out.2.2.2.2 gl rfl
      have ho6 : W6.ownsRow b0 71 4 (.slice (some ⟨gl, 0, none⟩) L.length cl) L.length (news.set (i * 4 + 2) (.slice p2 (j + (rs.length - (j + 1))) q2)) := by
        rw [← hW6]
        exact ((pw_own_below HX.out.2.2.1 HBb.out).stored _ _).1
      have n3 : news[i * 4 + 3]? = some (.slice (some ⟨gd, 0, none⟩) rs.length dc) := by
        have h := congrArg (fun l : List Value => l[3]?) HE1.out
        simpa [List.getElem?_take, List.getElem?_drop] using h
      have c3w : W6.cell? ⟨gl, i * 4 + 3, none⟩ = some (.slice (some ⟨gd, 0, none⟩) rs.length dc) := by
        rw [ho6.cellAt _ (by omega), List.getElem?_set, if_neg (by omega)]
        exact n3
      have HFr : Hid (∀ V, Below W6.heap.size W6 V → V.frozen? ⟨gl, i * 4 + 3, none⟩ = false) := fun V hV => (pw_own_below ho6 hV).frozenAt _
      have hmv6 : Moved Q wc W6 := by
        rw [← hW6]
        exact (Moved.of_below (Q := Q) HBb.out).trans (moved_set (Q := Q) wb hq1 _ _) (fun _ hi => .inl hi)
      have HFK : Hid (FKept F wc W6) := fun q hq => hmv6.block q (isC_lt (HR1.out.ic q (.inr hq))) (fun e => HR1.out.ap q e hq)
      have hF6 : ∀ q, F q → q < W6.heap.size := fun q hq => Nat.lt_of_lt_of_le (isC_lt (HR1.out.ic q (.inr hq))) hmv6.size
      have HFV : Hid (∀ V, Below W6.heap.size W6 V → FKept F wc V) := fun V hV => HFK.out.trans (fun q hq => hV.block q (hF6 q hq))
      have HLd : Hid (∀ V, Below W6.heap.size W6 V → LiesAt V (.slice (some ⟨gd, 0, none⟩) rs.length dc) rs.length nd) := fun V hV => (HNd.out.1.kept (HFV.out V hV)).lies
      have HLt1 : Hid (∀ V, Below W6.heap.size W6 V → LiesAt V (.slice (some ⟨gd, 0, none⟩) j dc) j (nd.take (j * 1))) := fun V hV => (HLd.out V hV).to_ j 1 hj1
      have HLf1 : Hid (∀ V, Below W6.heap.size W6 V → LiesAt V (.slice (if dc = j + 1 then some ⟨gd, 0, none⟩ else some ⟨gd, j + 1, none⟩) (rs.length - (j + 1)) (dc - (j + 1))) (rs.length - (j + 1)) (nd.drop ((j + 1) * 1))) := fun V hV => by
        have h := (HLd.out V hV).from_ (j + 1) 1 hjm hndl
        simp only [Option.map_some, add_plain, Nat.mul_one] at h ⊢
        exact h
      have hlt1 : (nd.take (j * 1)).length = j * 1 := by rw [List.length_take, hndl]; omega
      have hlf1 : (nd.drop ((j + 1) * 1)).length = (rs.length - (j + 1)) * 1 := by rw [List.length_drop, hndl]; omega
      have HOt1 : Hid (∀ u ∈ nd.take (j * 1), u.oneCell' = true) := fun u hu => HOd.out u (List.mem_of_mem_take hu)
      have HOf1 : Hid (∀ u ∈ nd.drop ((j + 1) * 1), u.oneCell' = true) := fun u hu => HOd.out u (List.mem_of_mem_drop hu)
      have hbse : wc.heap.size ≤ W6.heap.size := hmv6.size
      have HEnd : Hid (∀ (wd : World) (p5 : Option Addr) (q5 : Nat), Below W6.heap.size W6 wd → wd.ownsRow W6.heap.size 30 1 (.slice p5 (j + (rs.length - (j + 1))) q5) (j + (rs.length - (j + 1))) (nd.take (j * 1) ++ nd.drop ((j + 1) * 1)) →
          Left w g b0 B (L.set i ⟨b, k, rs.take j ++ rs.drop (j + 1)⟩) Q F (wd.setCell ⟨gl, i * 4 + 3, none⟩ (.slice p5 (j + (rs.length - (j + 1))) q5))) := fun wd p5 q5 hbd ho5 => by
        have hlen : (rs.take j ++ rs.drop (j + 1)).length = j + (rs.length - (j + 1)) := by
          rw [List.length_append, List.length_take, List.length_drop, Nat.min_eq_left hj1]
        obtain ⟨m1, m2⟩ := HR1.out.setO (i := i) (rs' := rs.take j ++ rs.drop (j + 1)) (v2 := .slice p2 (j + (rs.length - (j + 1))) q2) (v5 := .slice p5 (j + (rs.length - (j + 1))) q5) (Fb := fun _ => False) (Nat.le_trans hb0 HB2.out.size) HX.out.1 HX.out.2.1 HX.out.2.2.1 HX.out.2.2.2.1 HX.out.2.2.2.2 HOb.out HE1.out HBb.out (by rw [hW6]; exact hbd) (by rw [hlen]; exact HO2.out) ((rg_app (rg_take HRv.out j) (rg_drop HRv.out (j + 1))).imp_ fun _ _ h => h) (by rw [hlen]; exact own_weaken ho5 hbse)
          (fun _ hk => hk.elim) ((rg_app (rg_take (HNd.out.2.imp_ fun _ _ hp => dat_stays.kept hp (HFV.out wd hbd)) j) (rg_drop (HNd.out.2.imp_ fun _ _ hp => dat_stays.kept hp (HFV.out wd hbd)) (j + 1))).imp_ fun _ _ hp => dat_stays.mono hp fun _ hk => .inl hk)
        refine ⟨(Moved.of_below (Q := Q) HB2.out).trans m1 (fun _ hi => .inl hi), _, _, m2, fun q hq => ?_, fun q hq => ?_⟩
        · rcases hq with rfl | rfl
          · exact .inl HM.out.qg
          · exact .inl hq1
        · have hws := HB2.out.size
          rcases hq with (hq | hq) | hq | hq
          · exact .inl hq
          · exact hq.elim
          · have := own_ge HO2.out q hq
            exact .inr (by omega)
          · have := own_ge ho5 q hq
            exact .inr (by omega)
      rw [hW6]
      clear hW6 hmv6 ho6 n3 hF6 hq1 c2 g1
      go_wp2_with fail
      have HB6 : Hid (Below W6.heap.size W6 W6.drew) := (Below.refl _ _).drew
      go_region_law
        (first
        | (refine step_ap_lies (base := W6.heap.size) (n := 0) (m := j) (xs := []) (cs := nd.take (j * 1)) apD (by rfl) (.const (.slice none 0 0)) (.tmp 57) (by rfl) (by rfl) (own_nil _ _ _ _) (by rfl) (HLt1.out _ HB6.out) hlt1 HOt1.out (by omega) HB6.out.size ?_; intro u1 wa hown1 hgr1 _; have HO1 := Lib.hid hown1; have HBa : Hid (Below W6.heap.size W6 wa) := Below.grown HB6.out hgr1 HB6.out.size (fun k hk => by cases hk); clear hown1 hgr1; have c3b := pw_cell_below HBa.out c3w)
        | (refine step_ap_lies (base := W6.heap.size) (n := 0 + j) (m := rs.length - (j + 1)) (xs := [] ++ nd.take (j * 1)) (cs := nd.drop ((j + 1) * 1)) apD (by rfl) (.tmp 58) (.tmp 65) (by rfl) (by rfl) HO1.out (by rfl) (HLf1.out _ HBa.out) hlf1 HOf1.out (by omega) HBa.out.size ?_; intro u5 wd hown5 hgr5 _; rw [Nat.zero_add, List.nil_append] at hown5; obtain ⟨p5, q5, rfl⟩ := own_slice hown5; have HO5 := Lib.hid hown5; have HBd : Hid (Below W6.heap.size W6 wd) := HBa.out.grown hgr5 HBa.out.size (fun k hk => own_ge HO1.out k hk); clear hown5 hgr5; have cdd := pw_cell_below HBd.out c3w; have fdd := HFr.out _ HBd.out)
        | fail)
      all_goals
        go_wp2_with fail
      all_goals
        go_ret
        exact ⟨rfl, HEnd.out wd p5 q5 HBd.out HO5.out⟩
  · rw [if_neg h0]
    have e0 : (fe == 0) = false := by simp; exact h0
    clear hfe h0
    by_cases hid : id = 0
    · subst hid
      have hie2 : ie = -1 := by rw [← hie]; exact if_pos rfl
      subst hie2
      clear hie
      go_enter Tryz.func45, Tryz.ntmps45
      go_wp2_with fail
      refine HFi.out.mono ?_
      rintro e w2 ⟨⟨ii, jj, rfl, hij⟩, HB2⟩
      go_wp2_with fail
      go_ret
      exact ⟨rfl, left_below HM.out HB2.out⟩
    · have hie2 : ie = id := by rw [← hie]; exact if_neg hid
      subst hie2
      have hid2 : (ie == 0) = false := by simp; exact hid
      clear hie hid
      go_enter Tryz.func45, Tryz.ntmps45
      go_wp2_with fail
      refine HFi.out.mono ?_
      rintro e w2 ⟨⟨ii, jj, rfl, hij⟩, HB2⟩
      go_wp2_with fail
      go_ret
      exact ⟨rfl, left_below HM.out HB2.out⟩
end Go.Proofs.YtjbjcfnbgcloiaaGreatDoor

/- The document's own model: Remove. -/
set_option linter.unusedSimpArgs false
set_option linter.unusedVariables false
namespace Go.Proofs.YtjbjcfnbgcloiaaGreatDoor
open Go.RowKit Nam YtjbjcfnbgcloiaaGreatDoorW.PrintWords Go.Shelf

noncomputable def rRemove (B : List (List UInt8)) (L : List Ob) (b : List UInt8) : List (List UInt8) × List Ob × Int :=
  if bucketB b = false then (B, L, 12) else if b ∉ B then (B, L, 13) else if (∃ o ∈ L, o.bk = b ∧ o.rs ≠ []) then (B, L, 17) else (B.filter (fun t => decide (t ≠ b)), L.filter (fun o => decide (o.bk ≠ b)), 0)
theorem filter_snoc {α : Type} (p : α → Bool) (l : List α) (j : Nat) (x : α) (h : l[j]? = some x) : (l.take (j + 1)).filter p = (l.take j).filter p ++ (if p x = true then [x] else []) := by
  rw [List.take_add_one, h, List.filter_append]
  by_cases c : p x = true
  · simp [c]
  · simp [c]
theorem RefM.newBL {w V : World} {g b0 : Nat} {B B' : List (List UInt8)} {L L' : List Ob} {Q F : Nat → Prop} (h : RefM w g B L b0 Q F) (hb0 : b0 ≤ w.heap.size) (hb : Below w.heap.size w V) {v1 v2 : Value} {n1 n2 : List Value} (o1 : V.ownsRow w.heap.size 9 1 v1 B'.length n1) (r1 : Reps (StrE w F) 1 B' n1)
    (o2 : V.ownsRow w.heap.size 71 4 v2 L'.length n2) (r2 : Reps (ObE w F) 4 L' n2) : Left w g b0 B' L' Q F ((V.setCell ⟨g, 0, none⟩ v1).setCell ⟨g, 1, none⟩ v2) := by
  have hgl : g < w.heap.size := isC_lt (h.ic g (.inl h.qg))
  have hmv : Moved Q w ((V.setCell ⟨g, 0, none⟩ v1).setCell ⟨g, 1, none⟩ v2) := ((Moved.of_below (Q := Q) hb).trans (moved_set (Q := Q) V h.qg 0 v1) (fun _ hi => .inl hi)).trans (moved_set (Q := Q) _ h.qg 1 v2) (fun _ hi => .inl hi)
  obtain ⟨vb, vl, nl, k1, k2, k3, k4, k5⟩ := h.ex
  have hgV : ((V.setCell ⟨g, 0, none⟩ v1).setCell ⟨g, 1, none⟩ v2).heap[g]? = some (.cells #[v1, v2] 62 (0, 0)) := blk_set (blk_set (blk_below k1 hb) 0 v1) 1 v2
  have hne1 : some g ≠ v1.ownBlock := fun e => by have := own_ge o1 g e.symm; omega
  have hne2 : some g ≠ v2.ownBlock := fun e => by have := own_ge o2 g e.symm; omega
  have p1 := own_setCell (own_setCell o1 (p := ⟨g, 0, none⟩) hne1 v1) (p := ⟨g, 1, none⟩) hne1 v2
  have p2 := own_setCell (own_setCell o2 (p := ⟨g, 0, none⟩) hne2 v1) (p := ⟨g, 1, none⟩) hne2 v2
  have hFK : FKept F w ((V.setCell ⟨g, 0, none⟩ v1).setCell ⟨g, 1, none⟩ v2) := fun j hj => hmv.block j (isC_lt (h.ic j (.inr hj))) (fun q => h.ap j q hj)
  have hd := own_type_ne p1 p2 (by decide)
  refine ⟨hmv, _, fun k => F k ∨ v1.ownBlock = some k, h.remade hmv hb0 hgV (rowG_own p1 (r1.imp_ fun _ _ h => h) (fun k hk => .inr hk)) (own_weaken p2 hb0) ((r2.imp_ fun _ _ hp => ob_stays.kept hp hFK).imp_ fun _ _ hp => ob_stays.mono hp fun _ hk => .inl hk) (fun k hk => .inr (own_ge p2 k hk)) (fun k hk => ?_), fun k hk => ?_, fun k hk => ?_⟩
  · rcases hk with hk | hk
    · exact .inl hk
    · obtain ⟨cells, hc⟩ := own_typed p1 k hk
      refine .inr ⟨own_ge p1 k hk, ⟨_, _, _, hc⟩, fun e => ?_⟩
      rcases hd with hd | hd
      · rw [hd] at hk; cases hk
      · exact hd (hk.trans e.symm)
  · rcases hk with rfl | hk
    · exact .inl h.qg
    · exact .inr (own_ge p2 k hk)
  · exact hk.imp_right fun e => own_ge p1 k e
set_option maxHeartbeats 2000000 in
set_option maxRecDepth 100000 in
theorem rrem_is (w : World) (g : Nat) (B : List (List UInt8)) (L : List Ob) (b0 : Nat) (Q F : Nat → Prop) (b : List UInt8) (hb : b.length ≤ 100000) (hB : B.length ≤ 100000) (hL : L.length ≤ 100000) (hb0 : b0 ≤ w.heap.size) (hm : RefM w g B L b0 Q F) :
    Calls Tryz.prog 41 #[.pointer (some ⟨g, 0, none⟩), .string (mkS b)] w fun e w' => e = .returned (.int .i64 (rRemove B L b).2.2) ∧ Left w g b0 (rRemove B L b).1 (rRemove B L b).2.1 Q F w' := by
  have hsb : (mkS b).size ≤ maxLen := by rw [mkS_size]; unfold maxLen; omega
  obtain ⟨ok, hok⟩ : ∃ ok, bucketB b = ok := ⟨_, rfl⟩
  obtain ⟨th, hth⟩ : ∃ th, decide (b ∈ B) = th := ⟨_, rfl⟩
  have HBk : Hid (Calls Tryz.prog 18 #[.string (mkS b)] w fun e w' => e = .returned (.bool ok) ∧ w = w') := by
    have := rbucket_is (mkS b) w hsb
    rw [mkS_list, hok] at this
    exact this
  have HTh : Hid (Calls Tryz.prog 65 #[.pointer (some ⟨g, 0, none⟩), .string (mkS b)] w fun e w' => e = .returned (.bool th) ∧ Below w.heap.size w w') := by
    have := rthere_is w g B L b0 Q F b hB hm
    rw [hth] at this
    exact this
  have HM := Lib.hid hm
  cases ok with
  | false =>
    have hE : rRemove B L b = (B, L, 12) := if_pos hok
    rw [hE]
    clear hok hth hE hm
    go_enter Tryz.func41, Tryz.ntmps41
    go_wp2_with fail
    refine HBk.out.mono ?_
    rintro e w1 ⟨rfl, rfl⟩
    go_wp2_with fail
    go_ret
    exact ⟨rfl, left_below HM.out (Below.refl _ _)⟩
  | true =>
    cases th with
    | false =>
      have hE : rRemove B L b = (B, L, 13) := (if_neg (by rw [hok]; simp)).trans (if_pos (of_decide_eq_false hth))
      rw [hE]
      clear hok hth hE hm
      go_enter Tryz.func41, Tryz.ntmps41
      go_wp2_with fail
      refine HBk.out.mono ?_
      rintro e w1 ⟨rfl, rfl⟩
      go_wp2_with fail
      refine HTh.out.mono ?_
      rintro e w2 ⟨rfl, hb2⟩
      go_wp2_with fail
      go_ret
      exact ⟨rfl, left_below HM.out hb2⟩
    | true =>
      have hE : rRemove B L b = if (∃ o ∈ L, o.bk = b ∧ o.rs ≠ []) then (B, L, 17) else (B.filter (fun t => decide (t ≠ b)), L.filter (fun o => decide (o.bk ≠ b)), 0) := (if_neg (by rw [hok]; simp)).trans (if_neg (fun e => e (of_decide_eq_true hth)))
      have HE := Lib.hid hE
      have hglt : g < w.heap.size := isC_lt (hm.ic g (.inl hm.qg))
      have HFz := Lib.hid hm.frz
      obtain ⟨A, c, A2, c2, hcB, hcL, HG, HBc, HO⟩ := hm.lay
      obtain ⟨n, hn⟩ : ∃ n, B.length = n := ⟨_, rfl⟩
      obtain ⟨m, hmm⟩ : ∃ m, L.length = m := ⟨_, rfl⟩
      rw [hn, hmm] at HG
      rw [hn] at hcB hB
      rw [hmm] at hcL hL
      have HNB := Lib.hid hn
      have HNL := Lib.hid hmm
      clear hok hth hE hm hn hmm
      go_enter Tryz.func41, Tryz.ntmps41
      go_wp2_with fail
      refine HBk.out.mono ?_
      rintro e w1 ⟨rfl, rfl⟩
      go_wp2_with fail
      refine HTh.out.mono ?_
      rintro e w2 ⟨rfl, hb2⟩
      have HB2 := Lib.hid hb2
      clear hb2 HBk HTh
      go_wp2_with fail
      go_loopw [5] (fun vi wr => ∃ (j : Nat), vi = .int .i64 j ∧ j ≤ m ∧ Hid (∀ o ∈ L.take j, ¬ (o.bk = b ∧ o.rs ≠ [])) ∧ Hid (Below w.heap.size w wr)) (fun vi _ => m - (intOf vi).toNat)
      case atStart => exact ⟨0, rfl, Nat.zero_le _, by show ∀ o ∈ L.take 0, _; simp, HB2⟩
      case round =>
        obtain ⟨j, rfl, hj, HJ, HW⟩ := hrel
        obtain ⟨g0, g1⟩ := HG.out _ HW.out
        by_cases hlt : j < m
        · have hltz : (j : Int) < (m : Int) := by omega
          obtain ⟨o, ho⟩ : ∃ o, L[j]? = some o := ⟨_, List.getElem?_eq_getElem (by have := HNL.out; omega)⟩
          obtain ⟨gl, vs, ds, rfl, hv, _, hcell⟩ := HO.out j o ho
          obtain ⟨vp, vc, rfl, _⟩ := hv.slice
          obtain ⟨a0, a1, a2, a3⟩ := hcell _ HW.out
          clear hcell hv a1 a3
          have HJ2 : Hid (¬ (o.bk = b ∧ o.rs ≠ []) → ∀ x ∈ L.take (j + 1), ¬ (x.bk = b ∧ x.rs ≠ [])) := fun hno x hx => by
            rw [List.take_add_one, ho] at hx
            rcases List.mem_append.1 hx with h | h
            · exact HJ.out x h
            · simp at h
              rw [h]
              exact hno
          by_cases e1 : o.bk = b
          · have q1 := streq_yes b
            rw [e1] at a0
            obtain ⟨r, hr⟩ : ∃ r, o.rs.length = r := ⟨_, rfl⟩
            rw [hr] at a2
            by_cases h0 : r = 0
            · have hrn : o.rs = [] := List.length_eq_zero_iff.1 (by omega)
              have HJ3 := Lib.hid (HJ2.out (fun e => e.2 hrn))
              have d0 : decide ((0 : Int) < (r : Int)) = false := by simp; omega
              subst h0
              clear hrn HJ2 hr
              go_wp2_with fail
              go_roundw
              case rel => exact ⟨j + 1, by go_num, by omega, HJ3, HW⟩
              case measure => simp [intOf]; omega
            · have h17 : rRemove B L b = (B, L, 17) := HE.out.trans (if_pos ⟨o, List.mem_of_getElem? ho, e1, fun e => h0 (by rw [← hr, e]; rfl)⟩)
              have H17 := Lib.hid h17
              have d0 : (0 : Int) < (r : Int) := by omega
              clear h17 HJ2 hr
              go_wp2_with fail
              go_ret
              refine ⟨by rw [H17.out]; rfl, ?_⟩
              rw [H17.out]
              exact left_below HM.out HW.out
          · have q1 := streq_no e1
            have HJ3 := Lib.hid (HJ2.out (fun e => e1 e.1))
            clear HJ2
            go_wp2_with fail
            go_roundw
            case rel => exact ⟨j + 1, by go_num, by omega, HJ3, HW⟩
            case measure => simp [intOf]; omega
        · have hltz : ¬ (j : Int) < (m : Int) := by omega
          have h0 : rRemove B L b = (B.filter (fun t => decide (t ≠ b)), L.filter (fun o => decide (o.bk ≠ b)), 0) := HE.out.trans (if_neg (fun ⟨o, ho, e⟩ => HJ.out o (by rw [List.take_of_length_le (by have := HNL.out; omega)]; exact ho) e))
          have H0 := Lib.hid h0
          clear h0 HJ
          go_wp2_with fail
          obtain ⟨wq, hwq⟩ : ∃ wq, wr = wq := ⟨_, rfl⟩
          rw [hwq] at HW ⊢
          clear hwq g0 g1 hltz hlt hj
          go_loopw [6, 7] (fun vo vi wr => ∃ (j k : Nat) (p : Option Addr) (q : Nat), vo = .slice p k q ∧ vi = .int .i64 j ∧ j ≤ n ∧ k ≤ j ∧ Hid (Below w.heap.size w wr) ∧ Hid (((B.take j).filter (fun t => decide (t ≠ b))).length = k ∧ wr.ownsRow w.heap.size 9 1 (.slice p k q) k (((B.take j).filter (fun t => decide (t ≠ b))).map (fun t => Value.string (mkS t))))) (fun vo vi _ => n - (intOf vi).toNat)
          case atStart => exact ⟨0, 0, none, 0, rfl, rfl, Nat.zero_le _, Nat.le_refl _, HW, by show _ ∧ _; simp; exact own_nil _ _ _ _⟩
          case round =>
            clear HW
            obtain ⟨j, kk, p, q, rfl, rfl, hj, hkj, HW, HO1⟩ := hrel
            obtain ⟨g0, g1⟩ := HG.out _ HW.out
            by_cases hlt : j < n
            · have hltz : (j : Int) < (n : Int) := by omega
              obtain ⟨t, ht⟩ : ∃ t, B[j]? = some t := ⟨_, List.getElem?_eq_getElem (by have := HNB.out; omega)⟩
              obtain ⟨gb, rfl, hcell⟩ := HBc.out j t ht
              have a0 := hcell _ HW.out
              clear hcell
              have hf := filter_snoc (fun t => decide (t ≠ b)) B j t ht
              by_cases e1 : t = b
              · have q1 := streq_yes b
                rw [e1] at a0
                rw [if_neg (by simp [e1]), List.append_nil] at hf
                have HO2 : Hid (((B.take (j + 1)).filter (fun t => decide (t ≠ b))).length = kk ∧ wr.ownsRow w.heap.size 9 1 (.slice p kk q) kk (((B.take (j + 1)).filter (fun t => decide (t ≠ b))).map (fun t => Value.string (mkS t)))) := by show _ ∧ _; rw [hf]; exact HO1.out
                clear HO1 hf
                go_wp2_with fail
                go_roundw
                case rel => exact ⟨j + 1, kk, p, q, rfl, by go_num, by omega, by omega, HW, HO2⟩
                case measure => simp [intOf]; omega
              · have q1 := streq_no e1
                rw [if_pos (by simp [e1])] at hf
                have HFs := Lib.hid hf
                clear hf
                go_wp2_with (at_builtin; refine wpList_ap_lies (base := w.heap.size) apS (by rfl) (.tmp 66) (.tmp 74) (by rfl) (by rfl) (pw_own_below HO1.out.2 ((Below.refl _ _).alloc (Nat.le_refl _) _)) (by rfl) (lies_new wr #[.string (mkS t)] _ _) (by rfl) (by simp [Value.oneCell']) (by show kk + 1 ≤ _; omega) (HW.out.alloc HW.out.size _).size ?_; intro v4 wa hown4 hgr4 _; obtain ⟨p4, q4, rfl⟩ := own_slice hown4; have HO4 := Lib.hid hown4; have HBa : Hid (Below w.heap.size w wa) := (HW.out.alloc HW.out.size _).grown hgr4 (HW.out.alloc HW.out.size _).size (fun k hk => own_ge HO1.out.2 k hk); clear hown4 hgr4)
                have HO5 : Hid (((B.take (j + 1)).filter (fun t => decide (t ≠ b))).length = kk + 1 ∧ wa.ownsRow w.heap.size 9 1 (.slice p4 (kk + 1) q4) (kk + 1) (((B.take (j + 1)).filter (fun t => decide (t ≠ b))).map (fun t => Value.string (mkS t)))) := by
                  show _ ∧ _
                  rw [HFs.out, List.length_append, List.map_append, HO1.out.1]
                  exact ⟨rfl, HO4.out⟩
                clear HO1 HO4 HFs
                go_roundw
                case rel => exact ⟨j + 1, kk + 1, p4, q4, rfl, by go_num, by omega, by omega, HBa, HO5⟩
                case measure => simp [intOf]; omega
            · have hltz : ¬ (j : Int) < (n : Int) := by omega
              have hjn : j = n := by omega
              have HO2 : Hid ((B.filter (fun t => decide (t ≠ b))).length = kk ∧ wr.ownsRow w.heap.size 9 1 (.slice p kk q) kk ((B.filter (fun t => decide (t ≠ b))).map (fun t => Value.string (mkS t)))) := by
                have h := HO1.out
                rw [List.take_of_length_le (by have := HNB.out; omega)] at h
                exact h
              clear HO1 hjn
              go_wp2_with fail
              obtain ⟨wq, hwq⟩ : ∃ wq, wr = wq := ⟨_, rfl⟩
              rw [hwq] at HW HO2 ⊢
              clear hwq g0 g1 hltz hlt hj hkj
              go_loopw [8, 9] (fun vo vi wr => ∃ (j k : Nat) (p' : Option Addr) (q' : Nat), vo = .slice p' k q' ∧ vi = .int .i64 j ∧ j ≤ m ∧ k ≤ j ∧ Hid (Below w.heap.size w wr ∧ wr.ownsRow w.heap.size 9 1 (.slice p kk q) kk ((B.filter (fun t => decide (t ≠ b))).map (fun t => Value.string (mkS t)))) ∧ Hid (∃ cs, ((L.take j).filter (fun o => decide (o.bk ≠ b))).length = k ∧ wr.ownsRow w.heap.size 71 4 (.slice p' k q') k cs ∧ Reps (ObE w F) 4 ((L.take j).filter (fun o => decide (o.bk ≠ b))) cs)) (fun vo vi _ => m - (intOf vi).toNat)
              case atStart => exact ⟨0, 0, none, 0, rfl, rfl, Nat.zero_le _, Nat.le_refl _, ⟨HW.out, HO2.out.2⟩, [], by simp, own_nil _ _ _ _, by simp; exact Reps.none _ _⟩
              case round =>
                obtain ⟨j, k3, p3, q3, rfl, rfl, hj, hkj, HWO, HO1⟩ := hrel
                obtain ⟨g0, g1⟩ := HG.out _ HWO.out.1
                by_cases hlt : j < m
                · have hltz : (j : Int) < (m : Int) := by omega
                  obtain ⟨o, ho⟩ : ∃ o, L[j]? = some o := ⟨_, List.getElem?_eq_getElem (by have := HNL.out; omega)⟩
                  obtain ⟨gl, vs, ds, rfl, hv, hd, hcell⟩ := HO.out j o ho
                  obtain ⟨a0, a1, a2, a3⟩ := hcell _ HWO.out.1
                  have HEl : Hid (ObE w F o [.string (mkS o.bk), .string (mkS o.ky), vs, ds]) := ⟨vs, ds, rfl, hv, hd⟩
                  obtain ⟨vp, vc, rfl, _⟩ := hv.slice
                  obtain ⟨dp, dc, rfl, _⟩ := hd.slice
                  clear hcell hv hd
                  have hf := filter_snoc (fun o : Ob => decide (o.bk ≠ b)) L j o ho
                  by_cases e1 : o.bk = b
                  · have q1 := streq_yes b
                    rw [e1] at a0
                    rw [if_neg (by simp [e1]), List.append_nil] at hf
                    have HO4 : Hid (∃ cs, ((L.take (j + 1)).filter (fun o => decide (o.bk ≠ b))).length = k3 ∧ wr.ownsRow w.heap.size 71 4 (.slice p3 k3 q3) k3 cs ∧ Reps (ObE w F) 4 ((L.take (j + 1)).filter (fun o => decide (o.bk ≠ b))) cs) := by show ∃ _, _; rw [hf]; exact HO1.out
                    clear HO1 hf HEl
                    go_wp2_with fail
                    go_roundw
                    case rel => exact ⟨j + 1, k3, p3, q3, rfl, by go_num, by omega, by omega, HWO, HO4⟩
                    case measure => simp [intOf]; omega
                  · have q1 := streq_no e1
                    rw [if_pos (by simp [e1])] at hf
                    have HFs := Lib.hid hf
                    obtain ⟨cs, hcl, hco, hcr⟩ := HO1.out
                    have HCO := Lib.hid hco
                    have HCR := Lib.hid (And.intro hcl hcr)
                    clear hf HO1 hcl hco hcr
                    go_wp2_with (at_builtin; refine wpList_ap_lies (base := w.heap.size) apO (by rfl) (.tmp 95) (.tmp 103) (by rfl) (by rfl) (pw_own_below HCO.out ((Below.refl _ _).alloc (Nat.le_refl _) _)) (by rfl) (lies_obj wr #[.string (mkS o.bk), .string (mkS o.ky), .slice vp o.rs.length vc, .slice dp o.rs.length dc] _ _ 1) (by rfl) (by simp [Value.oneCell']) (by show k3 + 1 ≤ _; omega) (HWO.out.1.alloc HWO.out.1.size _).size ?_; intro v4 wa hown4 hgr4 _; obtain ⟨p4, q4, rfl⟩ := own_slice hown4; have HO4 := Lib.hid hown4; have HBa : Hid (Below w.heap.size w wa) := (HWO.out.1.alloc HWO.out.1.size _).grown hgr4 (HWO.out.1.alloc HWO.out.1.size _).size (fun k hk => own_ge HCO.out k hk); have HBo : Hid (wa.ownsRow w.heap.size 9 1 (.slice p kk q) kk ((B.filter (fun t => decide (t ≠ b))).map (fun t => Value.string (mkS t)))) := own_other (pw_own_below HWO.out.2 ((Below.refl _ _).alloc (Nat.le_refl _) _)) hgr4 (own_type_ne HWO.out.2 HCO.out (by decide)); clear hown4 hgr4)
                    have HO5 : Hid (∃ cs, ((L.take (j + 1)).filter (fun o => decide (o.bk ≠ b))).length = k3 + 1 ∧ wa.ownsRow w.heap.size 71 4 (.slice p4 (k3 + 1) q4) (k3 + 1) cs ∧ Reps (ObE w F) 4 ((L.take (j + 1)).filter (fun o => decide (o.bk ≠ b))) cs) := by
                      show ∃ _, _
                      rw [HFs.out, List.length_append, HCR.out.1]
                      exact ⟨_, rfl, HO4.out, rg_app HCR.out.2 (reps_sing HEl.out rfl)⟩
                    clear HCO HCR HO4 HFs HEl
                    go_roundw
                    case rel => exact ⟨j + 1, k3 + 1, p4, q4, rfl, by go_num, by omega, by omega, ⟨HBa.out, HBo.out⟩, HO5⟩
                    case measure => simp [intOf]; omega
                · have hltz : ¬ (j : Int) < (m : Int) := by omega
                  obtain ⟨cs, hcl, hco, hcr⟩ := HO1.out
                  rw [List.take_of_length_le (by have := HNL.out; omega)] at hcl hcr
                  have HLf : Hid (Left w g b0 (B.filter (fun t => decide (t ≠ b))) (L.filter (fun o => decide (o.bk ≠ b))) Q F ((wr.setCell ⟨g, 0, none⟩ (.slice p kk q)).setCell ⟨g, 1, none⟩ (.slice p3 k3 q3))) :=
                    HM.out.newBL hb0 HWO.out.1 (by rw [HO2.out.1]; exact HWO.out.2) (by
                      have : ∀ l : List (List UInt8), Reps (StrE w F) 1 l (l.map (fun t => Value.string (mkS t))) := fun l => by
                        induction l with
                        | nil => exact Reps.none _ _
                        | cons a r ih => exact rg_app (reps_sing (R := StrE w F) (sz := 1) (p := a) rfl rfl) ih
                      exact this _) (by rw [hcl]; exact hco) hcr
                  have z0 := HFz.out _ HWO.out.1 0
                  have z1 := HFz.out _ HWO.out.1 1
                  clear hcl hco hcr HO1
                  go_wp2_with fail
                  go_ret
                  refine ⟨by rw [H0.out]; rfl, ?_⟩
                  rw [H0.out]
                  exact HLf.out
end Go.Proofs.YtjbjcfnbgcloiaaGreatDoor

/- The document's own model: what "within" says. -/
set_option linter.unusedSimpArgs false
set_option linter.unusedVariables false
namespace Go.Proofs.YtjbjcfnbgcloiaaGreatDoor
open Go.RowKit Nam

def withinR (B : List (List UInt8)) (L : List Ob) (B2 : List (List UInt8)) (L2 : List Ob) : Prop := (∀ b ∈ B, b ∈ B2) ∧ ∀ o ∈ L, o.rs = [] ∨ rsOf L2 o.bk o.ky = o.rs
open Classical in
noncomputable def withinB (B : List (List UInt8)) (L : List Ob) (B2 : List (List UInt8)) (L2 : List Ob) : Bool := decide (withinR B L B2 L2)
open Classical in
theorem within_yes {B : List (List UInt8)} {L : List Ob} {B2 : List (List UInt8)} {L2 : List Ob} (h : withinR B L B2 L2) : withinB B L B2 L2 = true := decide_eq_true h
open Classical in
theorem within_no {B : List (List UInt8)} {L : List Ob} {B2 : List (List UInt8)} {L2 : List Ob} (h : ¬ withinR B L B2 L2) : withinB B L B2 L2 = false := decide_eq_false h
open Classical in
theorem withinB_iff {B : List (List UInt8)} {L : List Ob} {B2 : List (List UInt8)} {L2 : List Ob} : withinB B L B2 L2 = true ↔ withinR B L B2 L2 := decide_eq_true_iff
end Go.Proofs.YtjbjcfnbgcloiaaGreatDoor

/- The document's own model: Make. -/
set_option linter.unusedSimpArgs false
set_option linter.unusedVariables false
namespace Go.Proofs.YtjbjcfnbgcloiaaGreatDoor
open Go.RowKit Nam YtjbjcfnbgcloiaaGreatDoorW.PrintWords Go.Shelf

def aheadN (b : List UInt8) : List (List UInt8) → Nat
  | [] => 0
  | t :: r => if Op.bytesLess t b = true then aheadN b r + 1 else 0
def rMake (B : List (List UInt8)) (b : List UInt8) : List (List UInt8) × Int :=
  if bucketB b = false then (B, 12) else if b ∈ B then (B, 7) else if 64 ≤ B.length then (B, 18) else (B.take (aheadN b B) ++ b :: B.drop (aheadN b B), 0)

theorem RefM.newB {w V : World} {g b0 : Nat} {B B' : List (List UInt8)} {L : List Ob} {Q F : Nat → Prop} (h : RefM w g B L b0 Q F) (hb : Below w.heap.size w V) {v : Value} {news : List Value} (hown : V.ownsRow w.heap.size 9 1 v B'.length news) (hr : Reps (StrE V F) 1 B' news) :
    Moved Q w (V.setCell ⟨g, 0, none⟩ v) ∧ RefM (V.setCell ⟨g, 0, none⟩ v) g B' L b0 Q (fun k => F k ∨ v.ownBlock = some k) := by
  have hgl := isC_lt (h.ic g (.inl h.qg))
  have hge : ∀ k, v.ownBlock = some k → w.heap.size ≤ k := own_ge hown
  have hlt : ∀ k, v.ownBlock = some k → k < V.heap.size := own_lt hown
  have hblk : ∀ k, k ≠ g → (V.setCell ⟨g, 0, none⟩ v).heap[k]? = V.heap[k]? := fun k hk => Below.heap_setCell V ⟨g, 0, none⟩ v k hk
  have hsz : (V.setCell ⟨g, 0, none⟩ v).heap.size = V.heap.size := by simp
  have hbs : ∀ k, k < w.heap.size → k ≠ g → (V.setCell ⟨g, 0, none⟩ v).heap[k]? = w.heap[k]? := fun k hk hg => (hblk k hg).trans (hb.block k hk)
  obtain ⟨vb, vl, nl, h1, h2, h3, h4, h5⟩ := h.ex
  have h1V := blk_below h1 hb
  have h1S : (V.setCell ⟨g, 0, none⟩ v).heap[g]? = some (.cells #[v, vl] 62 (0, 0)) := blk_set h1V 0 v
  have hF : FKept F w (V.setCell ⟨g, 0, none⟩ v) := fun k hk => hbs k (isC_lt (h.ic k (.inr hk))) (fun e => h.ap g h.qg (e ▸ hk))
  have hqs : ∀ k, vl.ownBlock = some k → k ≠ g := fun k hk e => by
    subst e
    rcases h3.2 with ⟨e1, _⟩ | ⟨g2, cap, cur, e1, e2, e3, _⟩
    · rw [e1] at hk; cases hk
    · rw [e1] at hk
      injection hk with hk
      subst hk
      rw [h1] at e3
      injection e3 with e3
      injection e3 with _ e4
      exact absurd e4 (by decide)
  have ho := (Only.refl 0 (g + 1) V).put (g := g) 0 v (Nat.zero_le _) (.inl (Nat.lt_succ_self _))
  refine ⟨⟨ho.os.trans hb.os, ho.tape.trans hb.tape, ho.output.trans hb.output, by rw [hsz]; exact hb.size, fun k hk hq => hbs k hk (fun e => hq (e ▸ h.qg))⟩, ?_, h.qb, fun k hq hf => ?_, h.qg, v, vl, nl, h1S, ?_, ?_, h4.imp_ fun _ _ hp => ob_stays.mono (ob_stays.kept hp hF) (fun _ hk => .inl hk), h5⟩
  · intro k hk
    by_cases e : k = g
    · subst e
      exact ⟨_, _, _, h1S⟩
    · rcases hk with hk | hk | hk
      · obtain ⟨a, b, c, e2⟩ := h.ic k (.inl hk)
        exact ⟨a, b, c, (hbs k (isC_lt ⟨a, b, c, e2⟩) e).trans e2⟩
      · obtain ⟨a, b, c, e2⟩ := h.ic k (.inr hk)
        exact ⟨a, b, c, (hbs k (isC_lt ⟨a, b, c, e2⟩) e).trans e2⟩
      · rcases hown.2 with ⟨e1, _⟩ | ⟨g2, cap, cur, e1, e2, e3, _⟩
        · rw [e1] at hk; cases hk
        · rw [e1] at hk
          injection hk with hk
          subst hk
          exact ⟨_, _, _, (hblk g2 e).trans e3⟩
  · rcases hf with hf | hf
    · exact h.ap k hq hf
    · have := hge k hf
      have := isC_lt (h.ic k (.inl hq))
      omega
  · have hown2 : (V.setCell ⟨g, 0, none⟩ v).ownsRow w.heap.size 9 1 v B'.length news := own_setCell hown (fun e => by have := hge g e.symm; omega) v
    exact rowG_own hown2 (hr.imp_ fun _ _ hp => hp) (fun k hk => .inr hk)
  · rcases h3.2 with ⟨e1, e2⟩ | ⟨g2, cap, cur, e1, e2, e3, e4⟩
    · exact ⟨h3.1, .inl ⟨e1, e2⟩⟩
    · have hg2 : g2 ≠ g := hqs g2 (by rw [e1]; rfl)
      exact ⟨h3.1, .inr ⟨g2, cap, cur, e1, e2, (hbs g2 (isC_lt ⟨_, _, _, e3⟩) hg2).trans e3, e4⟩⟩

set_option maxHeartbeats 2000000 in
set_option maxRecDepth 100000 in
theorem rmake_is (w : World) (g : Nat) (B : List (List UInt8)) (L : List Ob) (b0 : Nat) (Q F : Nat → Prop) (b : List UInt8) (hb : b.length ≤ 100000) (hB : B.length ≤ 64) (hS : ∀ t ∈ B, t.length ≤ 100000) (hm : RefM w g B L b0 Q F) :
    Calls Tryz.prog 40 #[.pointer (some ⟨g, 0, none⟩), .string (mkS b)] w fun e w' => e = .returned (.int .i64 (rMake B b).2) ∧ Moved Q w w' ∧ ∃ F', RefM w' g (rMake B b).1 L b0 Q F' ∧ ∀ k, F' k → F k ∨ w.heap.size ≤ k := by
  have hsb : (mkS b).size ≤ maxLen := by rw [mkS_size]; unfold maxLen; omega
  obtain ⟨ok, hok⟩ : ∃ ok, bucketB b = ok := ⟨_, rfl⟩
  obtain ⟨th, hth⟩ : ∃ th, decide (b ∈ B) = th := ⟨_, rfl⟩
  have HBk : Hid (Calls Tryz.prog 18 #[.string (mkS b)] w fun e w' => e = .returned (.bool ok) ∧ w = w') := by
    have := rbucket_is (mkS b) w hsb
    rw [mkS_list, hok] at this
    exact this
  have HTh : Hid (Calls Tryz.prog 65 #[.pointer (some ⟨g, 0, none⟩), .string (mkS b)] w fun e w' => e = .returned (.bool th) ∧ Below w.heap.size w w') := by
    have := rthere_is w g B L b0 Q F b (by omega) hm
    rw [hth] at this
    exact this
  cases ok with
  | false =>
    have hE : rMake B b = (B, 12) := if_pos hok
    rw [hE]
    clear hok hth hE
    go_enter Tryz.func40, Tryz.ntmps40
    go_wp2_with fail
    refine HBk.out.mono ?_
    rintro e w1 ⟨rfl, rfl⟩
    go_wp2_with fail
    go_ret
    exact ⟨rfl, Moved.refl _ _, F, hm, fun k hk => .inl hk⟩
  | true =>
    cases th with
    | true =>
      have hE : rMake B b = (B, 7) := (if_neg (by rw [hok]; simp)).trans (if_pos (of_decide_eq_true hth))
      rw [hE]
      clear hok hth hE
      go_enter Tryz.func40, Tryz.ntmps40
      go_wp2_with fail
      refine HBk.out.mono ?_
      rintro e w1 ⟨rfl, rfl⟩
      go_wp2_with fail
      refine HTh.out.mono ?_
      rintro e w2 ⟨rfl, hb2⟩
      go_wp2_with fail
      go_ret
      exact ⟨rfl, Moved.of_below hb2, F, hm.below hb2, fun k hk => .inl hk⟩
    | false =>
      obtain ⟨A, c, A2, c2, hc, _, HG, HB, _⟩ := hm.lay
      obtain ⟨n, hn⟩ : ∃ n, B.length = n := ⟨_, rfl⟩
      rw [hn] at HG hc
      by_cases h64 : 64 ≤ n
      · have hE : rMake B b = (B, 18) := (if_neg (by rw [hok]; simp)).trans ((if_neg (of_decide_eq_false hth)).trans (if_pos (by omega)))
        have hn64 : n = 64 := by omega
        rw [hE]
        clear hok hth hE
        go_enter Tryz.func40, Tryz.ntmps40
        go_wp2_with fail
        refine HBk.out.mono ?_
        rintro e w1 ⟨rfl, rfl⟩
        go_wp2_with fail
        refine HTh.out.mono ?_
        rintro e w2 ⟨rfl, hb2⟩
        obtain ⟨g0, g1⟩ := HG.out _ hb2
        go_wp2_with fail
        go_ret
        exact ⟨rfl, Moved.of_below hb2, F, hm.below hb2, fun k hk => .inl hk⟩
      · have hE : rMake B b = (B.take (aheadN b B) ++ b :: B.drop (aheadN b B), 0) := (if_neg (by rw [hok]; simp)).trans ((if_neg (of_decide_eq_false hth)).trans (if_neg (by omega)))
        have h64z : (n : Int) < 64 := by omega
        obtain ⟨ns, hns, hrs⟩ := hm.rowB (HG.out w (Below.refl _ _)).1
        have hnl : ns.length = n := by rw [hrs.1, hn, Nat.mul_one]
        have HRs : Hid (Reps (StrE w F) 1 B ns) := hrs
        have HLi : Hid (∀ V, Below w.heap.size w V → LiesAt V (.slice A n c) n ns) := fun V hV => by
          have h := hns.lies
          rw [hn] at h
          exact h.below hV
        have HOne : Hid (∀ u ∈ ns, u.oneCell' = true) := rg_ones hrs (by decide) (fun p c hp u hu => by rw [show c = [.string (mkS p)] from hp, List.mem_singleton] at hu; subst hu; rfl)
        clear hns hrs
        rw [hE]
        have HM := Lib.hid hm
        have HFz := Lib.hid hm.frz
        clear hok hth hE hm
        go_enter Tryz.func40, Tryz.ntmps40
        go_wp2_with fail
        refine HBk.out.mono ?_
        rintro e w1 ⟨rfl, rfl⟩
        go_wp2_with fail
        refine HTh.out.mono ?_
        rintro e w2 ⟨rfl, hb2⟩
        obtain ⟨g0, g1⟩ := HG.out _ hb2
        have HB2 := Lib.hid hb2
        clear hb2 HBk HTh
        have hd64 : decide ((64 : Int) ≤ (n : Int)) = false := by simp; omega
        go_wp2_with fail
        go_loopw [5] (fun vk wr => ∃ (j : Nat), vk = .int .i64 j ∧ j ≤ n ∧ Hid (aheadN b B = j + aheadN b (B.drop j)) ∧ Hid (Below w.heap.size w wr)) (fun vk _ => n - (intOf vk).toNat)
        case atStart => exact ⟨0, rfl, Nat.zero_le _, by show _ = _; simp, HB2⟩
        case round =>
          obtain ⟨j, rfl, hj, HA, HW⟩ := hrel
          obtain ⟨g0, g1⟩ := HG.out _ HW.out
          by_cases hlt : j < n
          · have hltz : (j : Int) < (n : Int) := by omega
            obtain ⟨t, ht⟩ : ∃ t, B[j]? = some t := ⟨_, List.getElem?_eq_getElem (by omega)⟩
            have hdr : B.drop j = t :: B.drop (j + 1) := by
              obtain ⟨h1, h2⟩ := List.getElem?_eq_some_iff.1 ht
              rw [List.drop_eq_getElem_cons h1, h2]
            obtain ⟨gb, rfl, hcell⟩ := HB.out j t ht
            have a0 := hcell _ HW.out
            clear hcell
            obtain ⟨le, hle⟩ : ∃ le, Op.bytesLess t b = le := ⟨_, rfl⟩
            have HLe : Hid (∀ V, Calls Tryz.prog 66 #[.string (mkS t), .string (mkS b)] V fun e w' => e = .returned (.bool le) ∧ Below V.heap.size V w') := fun V => by
              refine (rless_is (mkS t) (mkS b) V (by rw [mkS_size]; have := hS t (List.mem_of_getElem? ht); unfold maxLen; omega) hsb).mono fun e w' ⟨he, m, hw⟩ => ⟨?_, by rw [hw]; exact pw_below_drewN (Below.refl _ _) m⟩
              rw [he, ByteArray.toList_eq, ByteArray.toList_eq, mkS_list, mkS_list, hle]
            have HAn : Hid (aheadN b (B.drop j) = if le = true then aheadN b (B.drop (j + 1)) + 1 else 0) := by
              show _ = _
              rw [hdr]
              show (if Op.bytesLess t b = true then aheadN b (B.drop (j + 1)) + 1 else 0) = _
              rw [hle]
            clear hle hdr
            cases le with
            | true =>
              have HA2 : Hid (aheadN b B = (j + 1) + aheadN b (B.drop (j + 1))) := by
                show _ = _
                rw [HA.out, HAn.out, if_pos rfl]
                omega
              go_wp2_with fail
              refine (HLe.out _).mono ?_
              rintro e w4 ⟨rfl, hb4⟩
              have HW4 : Hid (Below w.heap.size w w4) := HW.out.trans (hb4.mono HW.out.size)
              clear hb4
              go_wp2_with fail
              go_roundw
              case rel => exact ⟨j + 1, by go_num, by omega, HA2, HW4⟩
              case measure => simp [intOf]; omega
            | false =>
              have HK : Hid (aheadN b B = j) := by
                show _ = _
                rw [HA.out, HAn.out, if_neg (by simp)]
                omega
              go_wp2_with fail
              refine (HLe.out _).mono ?_
              rintro e w4 ⟨rfl, hb4⟩
              have HW4 : Hid (Below w.heap.size w w4) := HW.out.trans (hb4.mono HW.out.size)
              clear hb4 HA HAn
              have g0' := (HG.out _ HW4.out).1
              clear g0 g1
              go_wp2_with fail
              have hb5 : Below w.heap.size w w4.drew := pw_below_drewN HW4.out 1
              have HB5 := Lib.hid hb5
              have hjc : j ≤ c := by omega
              have hjn : j ≤ n := by omega
              have hjcz : (j : Int) ≤ (c : Int) := by omega
              have hjnz : (j : Int) ≤ (n : Int) := by omega
              have HLt : Hid (∀ V, Below w.heap.size w V → LiesAt V (.slice (some ⟨gb, 0, none⟩) j c) j (ns.take (j * 1))) := fun V hV => (HLi.out V hV).to_ j 1 hjn
              have HLd : Hid (∀ V, Below w.heap.size w V → LiesAt V (.slice (if c = j then some ⟨gb, 0, none⟩ else some ⟨gb, j, none⟩) (n - j) (c - j)) (n - j) (ns.drop (j * 1))) := fun V hV => by
                have h := (HLi.out V hV).from_ j 1 hjn (by rw [hnl, Nat.mul_one])
                simp only [Option.map_some, add_plain, Nat.mul_one] at h ⊢
                exact h
              have HO1t : Hid (∀ u ∈ ns.take (j * 1), u.oneCell' = true) := fun u hu => HOne.out u (List.mem_of_mem_take hu)
              have HO1d : Hid (∀ u ∈ ns.drop (j * 1), u.oneCell' = true) := fun u hu => HOne.out u (List.mem_of_mem_drop hu)
              have hlt1 : (ns.take (j * 1)).length = j * 1 := by rw [List.length_take, hnl]; omega
              have hld1 : (ns.drop (j * 1)).length = (n - j) * 1 := by rw [List.length_drop, hnl]; omega
              have HEnd : Hid (∀ (wc : World) (p3 : Option Addr) (c3 : Nat) (v : Value), Below w.heap.size w wc → wc.ownsRow w.heap.size 9 1 (.slice p3 (0 + j + 1 + (n - j)) c3) (0 + j + 1 + (n - j)) ([] ++ ns.take (j * 1) ++ [.string (mkS b)] ++ ns.drop (j * 1)) → v = .slice p3 (0 + j + 1 + (n - j)) c3 →
                  Moved Q w (wc.setCell ⟨g, 0, none⟩ v) ∧ ∃ F', RefM (wc.setCell ⟨g, 0, none⟩ v) g (B.take (aheadN b B) ++ b :: B.drop (aheadN b B)) L b0 Q F' ∧ ∀ k, F' k → F k ∨ w.heap.size ≤ k) := fun wc p3 c3 v hbc ho hv => by
                subst hv
                rw [HK.out, show B.take j ++ b :: B.drop j = B.take j ++ [b] ++ B.drop j by simp]
                have hlen : (B.take j ++ [b] ++ B.drop j).length = 0 + j + 1 + (n - j) := by
                  simp only [List.length_append, List.length_take, List.length_drop, List.length_singleton, hn]
                  omega
                obtain ⟨h1, h2⟩ := HM.out.newB (B' := B.take j ++ [b] ++ B.drop j) hbc (by rw [hlen]; exact ho) ((rg_app (rg_app (rg_take HRs.out j) (reps_sing rfl rfl)) (rg_drop HRs.out j)).imp_ fun _ _ h => h)
                exact ⟨h1, _, h2, fun k hk => hk.imp_right fun e => own_ge ho k e⟩
              have hbs5 := HB5.out.size
              clear hb5
              have g0d3 := fun o => (HG.out (w4.alloc o) (HW4.out.alloc HW4.out.size o)).1
              have g0d := (HG.out _ HB5.out).1
              have g0d2 := fun o => (HG.out (w4.drew.alloc o) (HB5.out.alloc HB5.out.size o)).1
              clear HLi HOne HRs HM HK
              go_region_law
                (first
                | (refine step_ap_lies (base := w.heap.size) (n := 0) (m := j) (xs := []) (cs := ns.take (j * 1)) apS (by rfl) (.const (.slice none 0 0)) (.tmp 47) (by rfl) (by rfl) (own_nil _ _ _ _) (by rfl) (HLt.out _ (by first | exact HB5.out | exact HB5.out.alloc HB5.out.size _)) hlt1 HO1t.out (by omega) (by first | exact HB5.out.size | exact (HB5.out.alloc HB5.out.size _).size) ?_; intro v1 wa hown1 hgr1 hob1; have HO1 := Lib.hid hown1; have HBa : Hid (Below w.heap.size w wa) := Below.grown (by first | exact HB5.out | exact HB5.out.alloc HB5.out.size _) hgr1 (by first | exact HB5.out.size | exact (HB5.out.alloc HB5.out.size _).size) (fun k hk => by cases hk); have HG1 := Lib.hid hgr1; clear hown1 hgr1; have ga := (HG.out _ HBa.out).1; have ga2 := fun o => (HG.out (wa.alloc o) (HBa.out.alloc HBa.out.size o)).1)
                | (refine step_ap_lies (base := w.heap.size) (n := 0 + j) (m := 1) (xs := [] ++ ns.take (j * 1)) (cs := [.string (mkS b)]) apS (by rfl) (.tmp 48) (.tmp 50) (by rfl) (by rfl) (pw_own_below HO1.out ((Below.refl _ _).alloc (Nat.le_refl _) _)) (by rfl) (lies_new wa #[.string (mkS b)] _ _) (by rfl) (by simp [Value.oneCell']) (by omega) (HBa.out.alloc HBa.out.size _).size ?_; intro v2 wb hown2 hgr2 hob2; have HO2 := Lib.hid hown2; have HBb : Hid (Below w.heap.size w wb) := (HBa.out.alloc HBa.out.size _).grown hgr2 (HBa.out.alloc HBa.out.size _).size (fun k hk => own_ge HO1.out k hk); clear hown2 hgr2; have gbb := (HG.out _ HBb.out).1)
                | (refine step_ap_lies (base := w.heap.size) (n := 0 + j) (m := 1) (xs := [] ++ ns.take (j * 1)) (cs := [.string (mkS b)]) apS (by rfl) (.tmp 48) (.tmp 50) (by rfl) (by rfl) HO1.out (by rfl) ((lies_new w4.drew #[.string (mkS b)] _ _).grown HG1.out (fun _ _ _ _ h => by cases h)) (by rfl) (by simp [Value.oneCell']) (by omega) HBa.out.size ?_; intro v2 wb hown2 hgr2 hob2; have HO2 := Lib.hid hown2; have HBb : Hid (Below w.heap.size w wb) := HBa.out.grown hgr2 HBa.out.size (fun k hk => own_ge HO1.out k hk); clear hown2 hgr2; have gbb := (HG.out _ HBb.out).1)
                | (refine step_ap_lies (base := w.heap.size) (n := 0 + j + 1) (m := n - j) (xs := [] ++ ns.take (j * 1) ++ [.string (mkS b)]) (cs := ns.drop (j * 1)) apS (by rfl) (.tmp 51) (.tmp 57) (by rfl) (by rfl) HO2.out (by rfl) (HLd.out _ HBb.out) hld1 HO1d.out (by omega) HBb.out.size ?_; intro v3 wc hown3 hgr3 hob3; obtain ⟨p3, c3, rfl⟩ := own_slice hown3; have HO3 := Lib.hid hown3; have HBc : Hid (Below w.heap.size w wc) := HBb.out.grown hgr3 HBb.out.size (fun k hk => own_ge HO2.out k hk); clear hown3 hgr3; have gc := (HG.out _ HBc.out).1; have zc := HFz.out _ HBc.out 0)
                | fail)
              all_goals
                go_wp2_with fail
                go_ret
                exact ⟨rfl, HEnd.out wc p3 c3 _ HBc.out HO3.out (by simp)⟩
          · have hltz : ¬ (j : Int) < (n : Int) := by omega
            have hjn0 : j = n := by omega
            have HK : Hid (aheadN b B = j) := by
              show _ = _
              rw [HA.out, List.drop_of_length_le (by omega)]
              rfl
            obtain ⟨w4, hw4⟩ : ∃ w4, wr = w4 := ⟨_, rfl⟩
            rw [hw4] at g0 g1 HW ⊢
            have HW4 := HW
            clear hw4 HA HW
            rw [hjn0] at HK
            go_wp2_with fail
            have hb5 : Below w.heap.size w w4.drew := pw_below_drewN HW4.out 1
            have HB5 := Lib.hid hb5
            have hjn : n ≤ n := Nat.le_refl _
            have hjcz : (n : Int) ≤ (c : Int) := by omega
            have HLt : Hid (∀ V, Below w.heap.size w V → LiesAt V (.slice A n c) n (ns.take (n * 1))) := fun V hV => (HLi.out V hV).to_ n 1 hjn
            have hd0 : ns.drop (n * 1) = [] := List.drop_of_length_le (by rw [hnl]; omega)
            have HLd : Hid (∀ V, Below w.heap.size w V → LiesAt V (.slice (if c = n then A else A.map (·.add n)) 0 (c - n)) 0 []) := fun V hV => by
              have h := (HLi.out V hV).from_ n 1 hjn (by rw [hnl, Nat.mul_one])
              rw [hd0] at h
              simp only [Nat.mul_one, Nat.sub_self] at h ⊢
              exact h
            have HO1t : Hid (∀ u ∈ ns.take (n * 1), u.oneCell' = true) := fun u hu => HOne.out u (List.mem_of_mem_take hu)
            have hlt1 : (ns.take (n * 1)).length = n * 1 := by rw [List.length_take, hnl]; omega
            have HEnd : Hid (∀ (wc : World) (p3 : Option Addr) (c3 : Nat) (v : Value), Below w.heap.size w wc → wc.ownsRow w.heap.size 9 1 (.slice p3 (0 + n + 1 + 0) c3) (0 + n + 1 + 0) ([] ++ ns.take (n * 1) ++ [.string (mkS b)] ++ []) → v = .slice p3 (0 + n + 1 + 0) c3 →
                Moved Q w (wc.setCell ⟨g, 0, none⟩ v) ∧ ∃ F', RefM (wc.setCell ⟨g, 0, none⟩ v) g (B.take (aheadN b B) ++ b :: B.drop (aheadN b B)) L b0 Q F' ∧ ∀ k, F' k → F k ∨ w.heap.size ≤ k) := fun wc p3 c3 v hbc ho hv => by
              subst hv
              rw [HK.out, show B.take n ++ b :: B.drop n = B.take n ++ [b] ++ B.drop n by simp]
              have hlen : (B.take n ++ [b] ++ B.drop n).length = 0 + n + 1 + 0 := by
                simp only [List.length_append, List.length_take, List.length_drop, List.length_singleton, hn]
                omega
              obtain ⟨h1, h2⟩ := HM.out.newB (B' := B.take n ++ [b] ++ B.drop n) hbc (by rw [hlen]; exact ho) (by have hr := rg_app (rg_app (rg_take HRs.out n) (reps_sing (R := StrE w F) (sz := 1) (p := b) rfl rfl)) (rg_drop HRs.out n); rw [hd0] at hr; exact hr.imp_ fun _ _ h => h)
              exact ⟨h1, _, h2, fun k hk => hk.imp_right fun e => own_ge ho k e⟩
            have hbs5 := HB5.out.size
            clear hb5
            have g0d3 := fun o => (HG.out (w4.alloc o) (HW4.out.alloc HW4.out.size o)).1
            have g0d := (HG.out _ HB5.out).1
            have g0d2 := fun o => (HG.out (w4.drew.alloc o) (HB5.out.alloc HB5.out.size o)).1
            clear HLi HOne HRs HM HK
            go_region_law
              (first
              | (refine step_ap_lies (base := w.heap.size) (n := 0) (m := n) (xs := []) (cs := ns.take (n * 1)) apS (by rfl) (.const (.slice none 0 0)) (.tmp 47) (by rfl) (by rfl) (own_nil _ _ _ _) (by rfl) (HLt.out _ (by first | exact HB5.out | exact HB5.out.alloc HB5.out.size _)) hlt1 HO1t.out (by omega) (by first | exact HB5.out.size | exact (HB5.out.alloc HB5.out.size _).size) ?_; intro v1 wa hown1 hgr1 hob1; have HO1 := Lib.hid hown1; have HBa : Hid (Below w.heap.size w wa) := Below.grown (by first | exact HB5.out | exact HB5.out.alloc HB5.out.size _) hgr1 (by first | exact HB5.out.size | exact (HB5.out.alloc HB5.out.size _).size) (fun k hk => by cases hk); have HG1 := Lib.hid hgr1; clear hown1 hgr1; have ga := (HG.out _ HBa.out).1; have ga2 := fun o => (HG.out (wa.alloc o) (HBa.out.alloc HBa.out.size o)).1)
              | (refine step_ap_lies (base := w.heap.size) (n := 0 + n) (m := 1) (xs := [] ++ ns.take (n * 1)) (cs := [.string (mkS b)]) apS (by rfl) (.tmp 48) (.tmp 50) (by rfl) (by rfl) (pw_own_below HO1.out ((Below.refl _ _).alloc (Nat.le_refl _) _)) (by rfl) (lies_new wa #[.string (mkS b)] _ _) (by rfl) (by simp [Value.oneCell']) (by omega) (HBa.out.alloc HBa.out.size _).size ?_; intro v2 wb hown2 hgr2 hob2; have HO2 := Lib.hid hown2; have HBb : Hid (Below w.heap.size w wb) := (HBa.out.alloc HBa.out.size _).grown hgr2 (HBa.out.alloc HBa.out.size _).size (fun k hk => own_ge HO1.out k hk); clear hown2 hgr2; have gbb := (HG.out _ HBb.out).1)
              | (refine step_ap_lies (base := w.heap.size) (n := 0 + n) (m := 1) (xs := [] ++ ns.take (n * 1)) (cs := [.string (mkS b)]) apS (by rfl) (.tmp 48) (.tmp 50) (by rfl) (by rfl) HO1.out (by rfl) ((lies_new w4.drew #[.string (mkS b)] _ _).grown HG1.out (fun _ _ _ _ h => by cases h)) (by rfl) (by simp [Value.oneCell']) (by omega) HBa.out.size ?_; intro v2 wb hown2 hgr2 hob2; have HO2 := Lib.hid hown2; have HBb : Hid (Below w.heap.size w wb) := HBa.out.grown hgr2 HBa.out.size (fun k hk => own_ge HO1.out k hk); clear hown2 hgr2; have gbb := (HG.out _ HBb.out).1)
              | (refine step_ap_lies (base := w.heap.size) (n := 0 + n + 1) (m := 0) (xs := [] ++ ns.take (n * 1) ++ [.string (mkS b)]) (cs := []) apS (by rfl) (.tmp 51) (.tmp 57) (by rfl) (by rfl) HO2.out (by rfl) (HLd.out _ HBb.out) (by rfl) (by simp) (by omega) HBb.out.size ?_; intro v3 wc hown3 hgr3 hob3; obtain ⟨p3, c3, rfl⟩ := own_slice hown3; have HO3 := Lib.hid hown3; have HBc : Hid (Below w.heap.size w wc) := HBb.out.grown hgr3 HBb.out.size (fun k hk => own_ge HO2.out k hk); clear hown3 hgr3; have gc := (HG.out _ HBc.out).1; have zc := HFz.out _ HBc.out 0)
              | fail)
            all_goals
              go_wp2_with fail
            all_goals
              go_ret
              exact ⟨rfl, HEnd.out wc p3 c3 _ HBc.out HO3.out (by simp)⟩
end Go.Proofs.YtjbjcfnbgcloiaaGreatDoor

/- The document's model and the program's: one state in two spellings; what each call makes of both is one state again. -/
set_option linter.unusedSimpArgs false
set_option linter.unusedVariables false
namespace Go.Proofs.YtjbjcfnbgcloiaaGreatDoor
open Go.RowKit Nam

def okey (o : Ob) : List UInt8 × List UInt8 := (o.bk, o.ky)
theorem atP_iff (b k : List UInt8) (o : Ob) : atP b k o = true ↔ okey o = (b, k) := by
  unfold atP okey
  simp
theorem rsOf_nil (b k : List UInt8) : rsOf [] b k = [] := rfl
theorem rsOf_cons (o : Ob) (L : List Ob) (b k : List UInt8) : rsOf (o :: L) b k = if okey o = (b, k) then o.rs else rsOf L b k := by
  unfold rsOf
  by_cases h : atP b k o = true
  · rw [if_pos ((atP_iff b k o).1 h), List.findIdx?_cons, if_pos h]
    rfl
  · rw [if_neg (fun e => h ((atP_iff b k o).2 e)), List.findIdx?_cons, if_neg h]
    cases L.findIdx? (atP b k) <;> simp
theorem rsOf_snoc (b0 k0 b k : List UInt8) : ∀ L : List Ob, rsOf (L ++ [⟨b0, k0, []⟩]) b k = rsOf L b k
  | [] => by rw [List.nil_append, rsOf_cons, rsOf_nil]; split <;> rfl
  | o :: L => by rw [List.cons_append, rsOf_cons, rsOf_cons, rsOf_snoc b0 k0 b k L]
theorem rsOf_mem {o : Ob} : ∀ {L : List Ob}, (L.map okey).Nodup → o ∈ L → rsOf L o.bk o.ky = o.rs
  | x :: L, hn, ho => by
    rw [List.map_cons, List.nodup_cons] at hn
    rw [rsOf_cons]
    rcases List.mem_cons.1 ho with rfl | ho
    · rw [if_pos (show okey o = (o.bk, o.ky) from rfl)]
    · rw [if_neg (fun e => hn.1 (by rw [e]; exact List.mem_map_of_mem ho)), rsOf_mem hn.2 ho]
theorem rsOf_set (b0 k0 : List UInt8) (r r0 : List Kp) (b k : List UInt8) : ∀ (L : List Ob) (j : Nat), (L.map okey).Nodup → L[j]? = some ⟨b0, k0, r0⟩ → rsOf (L.set j ⟨b0, k0, r⟩) b k = if (b0, k0) = (b, k) then r else rsOf L b k
  | [], j, _, h => by cases h
  | x :: L, 0, hn, h => by
    injection h with h
    subst h
    rw [List.set_cons_zero, rsOf_cons, rsOf_cons]
    show (if (b0, k0) = (b, k) then r else _) = if (b0, k0) = (b, k) then r else if (b0, k0) = (b, k) then _ else _
    split <;> rfl
  | x :: L, j + 1, hn, h => by
    rw [List.map_cons, List.nodup_cons] at hn
    have h' : L[j]? = some ⟨b0, k0, r0⟩ := h
    rw [List.set_cons_succ, rsOf_cons, rsOf_cons, rsOf_set b0 k0 r r0 b k L j hn.2 h']
    by_cases hx : okey x = (b, k)
    · rw [if_pos hx, if_pos hx, if_neg (fun e => hn.1 (by rw [hx, ← e]; exact List.mem_map.2 ⟨_, List.mem_of_getElem? h', rfl⟩))]
    · rw [if_neg hx, if_neg hx]
theorem rsOf_filter (c b k : List UInt8) : ∀ L : List Ob, rsOf (L.filter (fun o => decide (o.bk ≠ c))) b k = if b = c then [] else rsOf L b k
  | [] => by rw [List.filter_nil, rsOf_nil]; split <;> rfl
  | o :: L => by
    have ih := rsOf_filter c b k L
    by_cases ho : o.bk = c
    · rw [List.filter_cons_of_neg (by simp [ho]), ih, rsOf_cons]
      by_cases hb : b = c
      · rw [if_pos hb, if_pos hb]
      · rw [if_neg hb, if_neg hb, if_neg (fun e => hb (by rw [← ho]; exact (congrArg Prod.fst e).symm))]
    · rw [List.filter_cons_of_pos (by simp [ho]), rsOf_cons, rsOf_cons, ih]
      by_cases hb : b = c
      · rw [if_pos hb, if_pos hb, if_neg (fun e => ho (by rw [← hb]; exact congrArg Prod.fst e))]
      · rw [if_neg hb, if_neg hb]
theorem map_set_key (L : List Ob) (j : Nat) (x y : Ob) (h : L[j]? = some x) (e : okey y = okey x) : (L.set j y).map okey = L.map okey := by
  rw [List.map_set, e]
  refine List.ext_getElem? fun i => ?_
  rw [List.getElem?_set, List.length_map]
  split
  · rename_i hij
    subst hij
    rw [List.getElem?_map, h]
    rw [if_pos (List.getElem?_eq_some_iff.1 h).1]
    rfl
  · rfl

theorem atL_form (L : List Ob) (b k : List UInt8) : (atL L b k).1 = L ∨ ((atL L b k).1 = L ++ [⟨b, k, []⟩] ∧ (b, k) ∉ L.map okey) := by
  unfold atL
  cases h : L.findIdx? (atP b k) with
  | some j => exact .inl rfl
  | none =>
    refine .inr ⟨rfl, fun hm => ?_⟩
    obtain ⟨o, ho, e⟩ := List.mem_map.1 hm
    rw [List.findIdx?_eq_none_iff] at h
    have := h o ho
    rw [(atP_iff b k o).2 e] at this
    cases this
theorem atL_nodup {L : List Ob} (hn : (L.map okey).Nodup) (b k : List UInt8) : ((atL L b k).1.map okey).Nodup := by
  rcases atL_form L b k with h | ⟨h, hm⟩
  · rw [h]; exact hn
  · rw [h, List.map_append, List.map_cons, List.map_nil, List.nodup_append]
    refine ⟨hn, by simp, fun a ha c hc e => ?_⟩
    simp only [List.mem_singleton] at hc
    subst e
    rw [hc] at ha
    exact hm ha
theorem atL_rs (L : List Ob) (b k b' k' : List UInt8) : rsOf (atL L b k).1 b' k' = rsOf L b' k' := by
  rcases atL_form L b k with h | ⟨h, _⟩
  · rw [h]
  · rw [h, rsOf_snoc]
theorem atL_len1 (L : List Ob) (b k : List UInt8) : (atL L b k).1.length ≤ L.length + 1 := by
  rcases atL_form L b k with h | ⟨h, _⟩
  · rw [h]; omega
  · rw [h]; simp
theorem atL_bk {L : List Ob} {B : List (List UInt8)} (h : ∀ o ∈ L, o.bk ∈ B) {b : List UInt8} (hb : b ∈ B) (k : List UInt8) : ∀ o ∈ (atL L b k).1, o.bk ∈ B := by
  rcases atL_form L b k with e | ⟨e, _⟩
  · rw [e]; exact h
  · rw [e]
    intro o ho
    rcases List.mem_append.1 ho with ho | ho
    · exact h o ho
    · rw [List.mem_singleton] at ho
      rw [ho]; exact hb

structure RelM (S : St) (B : List (List UInt8)) (L : List Ob) (m : Nat) : Prop where
  nd : S.B.Nodup
  off : ∀ s, s ∉ S.B → ∀ k, S.V s k = []
  len : S.B.length = B.length
  mem : ∀ b, b ∈ S.B ↔ b ∈ B
  srt : B.Pairwise (fun a b => Op.bytesLess a b = true)
  row : ∀ b k, rsOf L b k = S.V b k
  one : (L.map okey).Nodup
  inb : ∀ o ∈ L, o.bk ∈ B
  few : L.length ≤ m
theorem rel_new : RelM St.new [] [] 0 := ⟨List.nodup_nil, fun _ _ _ => rfl, rfl, fun _ => Iff.rfl, List.Pairwise.nil, fun _ _ => rfl, List.nodup_nil, fun _ h => absurd h List.not_mem_nil, Nat.le_refl _⟩
theorem RelM.mono {S : St} {B : List (List UInt8)} {L : List Ob} {m m' : Nat} (h : RelM S B L m) (hm : m ≤ m') : RelM S B L m' := ⟨h.nd, h.off, h.len, h.mem, h.srt, h.row, h.one, h.inb, Nat.le_trans h.few hm⟩
theorem RelM.rs {S : St} {B : List (List UInt8)} {L : List Ob} {m : Nat} (h : RelM S B L m) {o : Ob} (ho : o ∈ L) : o.rs = S.V o.bk o.ky := by
  rw [← h.row, rsOf_mem h.one ho]
theorem RelM.rs64 {S : St} {B : List (List UInt8)} {L : List Ob} {m : Nat} (h : RelM S B L m) (hS : S.Fine) : ∀ o ∈ L, o.rs.length ≤ 64 := fun o ho => by
  rw [h.rs ho]; exact hS.len _ _
theorem RelM.set {S : St} {B : List (List UInt8)} {L : List Ob} {m : Nat} (h : RelM S B L m) {b k : List UInt8} (hb : b ∈ B) {j : Nat} {r0 r : List Kp} (hj : L[j]? = some ⟨b, k, r0⟩) : RelM (S.put b k r) B (L.set j ⟨b, k, r⟩) m := by
  refine ⟨h.nd, fun s hs k' => ?_, h.len, h.mem, h.srt, fun b' k' => ?_, ?_, fun o ho => ?_, by rw [List.length_set]; exact h.few⟩
  · show (if s = b ∧ k' = k then r else S.V s k') = []
    rw [if_neg (fun e => hs (by rw [e.1]; exact (h.mem b).2 hb))]
    exact h.off s hs k'
  · rw [rsOf_set b k r r0 b' k' L j h.one hj]
    show _ = if b' = b ∧ k' = k then r else S.V b' k'
    by_cases e : b' = b ∧ k' = k
    · rw [if_pos e, if_pos (by rw [e.1, e.2])]
    · rw [if_neg e, if_neg (fun e2 => e ⟨(congrArg Prod.fst e2).symm, (congrArg Prod.snd e2).symm⟩), h.row]
  · rw [map_set_key L j ⟨b, k, r0⟩ ⟨b, k, r⟩ hj rfl]
    exact h.one
  · rcases List.mem_or_eq_of_mem_set ho with ho | rfl
    · exact h.inb o ho
    · exact hb
theorem RelM.at {S : St} {B : List (List UInt8)} {L : List Ob} {m : Nat} (h : RelM S B L m) {b : List UInt8} (hb : b ∈ B) (k : List UInt8) : RelM S B (atL L b k).1 (m + 1) :=
  ⟨h.nd, h.off, h.len, h.mem, h.srt, fun b' k' => (atL_rs L b k b' k').trans (h.row b' k'), atL_nodup h.one b k, atL_bk h.inb hb k, Nat.le_trans (atL_len1 L b k) (by have := h.few; omega)⟩
theorem RelM.more {S : St} {B : List (List UInt8)} {L : List Ob} {m : Nat} (h : RelM S B L m) {b : List UInt8} (hb : b ∈ B) (k : List UInt8) (y : Kp) : RelM (if moreE (S.V b k) y = 0 then S.put b k (S.V b k ++ [y]) else S) B (rMoreL L b k y) (m + 1) := by
  have ha := h.at hb k
  unfold rMoreL
  rw [h.row]
  split
  · refine ha.set hb (r0 := rsOf L b k) (at_obj L b k)
  · exact ha
theorem RelM.ask {S : St} {B : List (List UInt8)} {L : List Ob} {m : Nat} (h : RelM S B L m) (b : List UInt8) : (b ∉ S.B) = (b ∉ B) := propext (not_congr (h.mem b))
theorem RelM.putE {S : St} {B : List (List UInt8)} {L : List Ob} {m : Nat} (h : RelM S B L m) (id : Int) (b k d : List UInt8) : rPutE B L id b k d = S.putE id b k d := by
  unfold rPutE St.putE
  rw [h.row]
  simp only [h.ask b]
theorem RelM.doPut {S : St} {B : List (List UInt8)} {L : List Ob} {m : Nat} (h : RelM S B L m) (id : Int) (b k d : List UInt8) : RelM (S.doPut id b k d) B (rPutL B L id b k d) (m + 1) := by
  unfold rPutL
  by_cases h1 : namedB b k = false
  · have e : S.doPut id b k d = S := by
      unfold St.doPut St.putE
      rw [if_pos h1]
      exact if_neg (by decide)
    rw [if_pos h1, e]; exact h.mono (by omega)
  by_cases h2 : 65536 < d.length
  · have e : S.doPut id b k d = S := by
      unfold St.doPut St.putE
      rw [if_neg h1, if_pos h2]
      exact if_neg (by decide)
    rw [if_neg h1, if_pos h2, e]; exact h.mono (by omega)
  by_cases h3 : b ∈ B
  · have e : S.doPut id b k d = if moreE (S.V b k) (kpOf id d) = 0 then S.put b k (S.V b k ++ [kpOf id d]) else S := by
      unfold St.doPut St.putE
      rw [if_neg h1, if_neg h2, if_neg (show ¬ ¬ b ∈ S.B from fun e => e ((h.mem b).2 h3))]
    rw [if_neg h1, if_neg h2, if_neg (show ¬ ¬ b ∈ B from fun e => e h3), e]
    exact h.more h3 k _
  · have e : S.doPut id b k d = S := by
      unfold St.doPut St.putE
      rw [if_neg h1, if_neg h2, if_pos (fun e => h3 ((h.mem b).1 e))]
      exact if_neg (by decide)
    rw [if_neg h1, if_neg h2, if_pos h3, e]; exact h.mono (by omega)
theorem RelM.findE {S : St} {B : List (List UInt8)} {L : List Ob} {m : Nat} (h : RelM S B L m) (b k : List UInt8) (id : Int) : rFindE B L b k id = S.findE b k id 0 := by
  unfold rFindE St.findE
  rw [h.row]
  simp only [h.ask b]
theorem RelM.findE1 {S : St} {B : List (List UInt8)} {L : List Ob} {m : Nat} (h : RelM S B L m) (b k : List UInt8) (id : Int) : rFindE B L b k (rEraI id) = S.findE b k id 1 := by
  rw [h.findE]
  unfold St.findE
  by_cases h1 : namedB b k = false
  · simp [h1]
  by_cases h0 : id < 1
  · have h2 : rEraI id < 0 := by unfold rEraI; split <;> omega
    simp [h1, h0, h2]
  · have h2 : rEraI id = id := by unfold rEraI; rw [if_neg (by omega)]
    have h3 : ¬ id < 0 := by omega
    rw [h2]
    simp [h1, h0, h3]
theorem RelM.delE {S : St} {B : List (List UInt8)} {L : List Ob} {m : Nat} (h : RelM S B L m) (id : Int) (b k : List UInt8) : rDelE B L id b k = S.delE id b k := by
  unfold rDelE St.delE askE St.findE
  rw [h.row]
  by_cases h1 : namedB b k = false
  · simp [h1]
  simp only [h1, if_false]
  by_cases h3 : b ∈ B
  · have h3' := (h.mem b).2 h3
    simp only [h3, h3', not_true, if_false]
    by_cases h4 : S.V b k = []
    · simp [h4]
    · have : ¬ (idxK 0 (S.V b k) < 0) := by
        unfold idxK
        rw [if_pos rfl]
        have := List.length_pos_iff.2 h4
        omega
      simp [h4, this]
  · have h3' : b ∉ S.B := fun e => h3 ((h.mem b).1 e)
    simp [h3, h3']
theorem RelM.doDel {S : St} {B : List (List UInt8)} {L : List Ob} {m : Nat} (h : RelM S B L m) (id : Int) (b k : List UInt8) : RelM (S.doDel id b k) B (rDelL B L id b k) (m + 1) := by
  have he := h.delE id b k
  unfold rDelL St.doDel
  rw [← he]
  unfold rDelE
  by_cases h1 : askE B b k ≠ 0
  · rw [if_pos h1, if_pos h1, if_neg h1]; exact h.mono (by omega)
  rw [if_neg h1, if_neg h1]
  by_cases h2 : rsOf L b k = []
  · rw [if_pos h2, if_pos h2, if_neg (by decide)]; exact h.mono (by omega)
  rw [if_neg h2, if_neg h2, h.row]
  have h3 : b ∈ B := by
    refine Classical.byContradiction fun h3 => h1 ?_
    unfold askE
    by_cases hnb : namedB b k = false
    · rw [if_pos hnb]; decide
    · rw [if_neg hnb, if_pos h3]; decide
  exact h.more h3 k _
theorem RelM.getE {S : St} {B : List (List UInt8)} {L : List Ob} {m : Nat} (h : RelM S B L m) (b k : List UInt8) (id : Int) : rGetE B L b k id = S.getE b k id ∧ rGetK L b k id = S.getK b k id := by
  have hk : rGetK L b k id = S.getK b k id := by unfold rGetK St.getK; rw [h.row]
  refine ⟨?_, hk⟩
  unfold rGetE St.getE
  rw [h.findE, hk]
  by_cases hf : S.findE b k id 0 ≠ 0
  · rw [if_pos hf, if_pos hf]
  · rw [if_neg hf, if_neg hf]
    cases S.getK b k id <;> rfl
theorem RelM.doEra {S : St} {B : List (List UInt8)} {L : List Ob} {m : Nat} (h : RelM S B L m) (b k : List UInt8) (id : Int) : RelM (S.doEra b k id) B (rEraL B L b k id) (m + 1) := by
  unfold rEraL St.doEra
  rw [h.findE1]
  by_cases h0 : S.findE b k id 1 = 0
  · rw [if_pos h0, if_pos h0]
    have hf := find_in h0
    have hne : rsOf L b k ≠ [] := by rw [h.row]; exact hf.2.1
    obtain ⟨_, h2, _⟩ := at_has hne
    have hid : rEraI id = id := by
      unfold rEraI
      rw [if_neg]
      intro e
      subst e
      unfold St.findE at h0
      by_cases h1 : namedB b k = false
      · rw [if_pos h1] at h0; cases h0
      · rw [if_neg h1, if_pos (by decide)] at h0; cases h0
    rw [hid]
    have := (h.set (r := S.eraL b k id) ((h.mem b).1 hf.1) h2).mono (Nat.le_succ m)
    unfold St.eraL at this
    unfold St.eraL
    rw [h.row]
    exact this
  · rw [if_neg h0, if_neg h0]
    exact h.mono (by omega)
theorem ahead_sorted (b : List UInt8) : ∀ B : List (List UInt8), B.Pairwise (fun a c => Op.bytesLess a c = true) → b ∉ B → (B.take (aheadN b B) ++ b :: B.drop (aheadN b B)).Pairwise (fun a c => Op.bytesLess a c = true)
  | [], _, _ => by simp
  | t :: r, hs, hb => by
    rw [List.pairwise_cons] at hs
    rw [List.mem_cons, not_or] at hb
    unfold aheadN
    by_cases ht : Op.bytesLess t b = true
    · rw [if_pos ht]
      have ih := ahead_sorted b r hs.2 hb.2
      rw [List.take_succ_cons, List.drop_succ_cons, List.cons_append, List.pairwise_cons]
      refine ⟨fun x hx => ?_, ih⟩
      rcases List.mem_append.1 hx with hx | hx
      · exact hs.1 x (List.mem_of_mem_take hx)
      · rcases List.mem_cons.1 hx with rfl | hx
        · exact ht
        · exact hs.1 x (List.mem_of_mem_drop hx)
    · rw [if_neg ht, List.take_zero, List.drop_zero, List.nil_append, List.pairwise_cons]
      have hbt : Op.bytesLess b t = true := by
        cases hh : Op.bytesLess b t with
        | true => rfl
        | false => exact absurd (less_total b t hh (by simpa using ht)) hb.1
      refine ⟨fun x hx => ?_, List.pairwise_cons.2 hs⟩
      rcases List.mem_cons.1 hx with rfl | hx
      · exact hbt
      · exact less_trans _ _ _ hbt (hs.1 x hx)
theorem mem_ins {b x : List UInt8} {B : List (List UInt8)} (n : Nat) : x ∈ B.take n ++ b :: B.drop n ↔ x = b ∨ x ∈ B := by
  rw [List.mem_append, List.mem_cons]
  constructor
  · rintro (h | h | h)
    · exact .inr (List.mem_of_mem_take h)
    · exact .inl h
    · exact .inr (List.mem_of_mem_drop h)
  · rintro (h | h)
    · exact .inr (.inl h)
    · rw [← List.take_append_drop n B, List.mem_append] at h
      exact h.elim .inl (fun h => .inr (.inr h))
theorem RelM.makeE {S : St} {B : List (List UInt8)} {L : List Ob} {m : Nat} (h : RelM S B L m) (b : List UInt8) : (rMake B b).2 = (S.make b).2 ∧ RelM (S.make b).1 (rMake B b).1 L m := by
  unfold rMake St.make
  by_cases h1 : bucketB b = false
  · rw [if_pos h1, if_pos h1]; exact ⟨rfl, h⟩
  rw [if_neg h1, if_neg h1]
  by_cases h2 : b ∈ B
  · rw [if_pos h2, if_pos ((h.mem b).2 h2)]; exact ⟨rfl, h⟩
  have h2' : b ∉ S.B := fun e => h2 ((h.mem b).1 e)
  rw [if_neg h2, if_neg h2', h.len]
  by_cases h3 : 64 ≤ B.length
  · rw [if_pos h3, if_pos h3]; exact ⟨rfl, h⟩
  rw [if_neg h3, if_neg h3]
  refine ⟨rfl, ?_, fun s hs k => h.off s (fun e => hs (List.mem_append_left _ e)) k, ?_, fun c => ?_, ahead_sorted b B h.srt h2, h.row, h.one, fun o ho => (mem_ins _).2 (.inr (h.inb o ho)), h.few⟩
  · show (S.B ++ [b]).Nodup
    rw [List.nodup_append]
    exact ⟨h.nd, by simp, fun a ha c hc e => by rw [List.mem_singleton] at hc; subst e; rw [hc] at ha; exact h2' ha⟩
  · show (S.B ++ [b]).length = (B.take _ ++ b :: B.drop _).length
    simp only [List.length_append, List.length_cons, List.length_take, List.length_drop, List.length_nil, h.len]
    omega
  · show c ∈ S.B ++ [b] ↔ c ∈ B.take _ ++ b :: B.drop _
    rw [mem_ins, List.mem_append, List.mem_singleton, h.mem]
    exact Or.comm
theorem RelM.removeE {S : St} {B : List (List UInt8)} {L : List Ob} {m : Nat} (h : RelM S B L m) (b : List UInt8) : (rRemove B L b).2.2 = (S.remove b).2 ∧ RelM (S.remove b).1 (rRemove B L b).1 (rRemove B L b).2.1 m := by
  unfold rRemove St.remove
  by_cases h1 : bucketB b = false
  · rw [if_pos h1, if_pos h1]; exact ⟨rfl, h⟩
  rw [if_neg h1, if_neg h1]
  by_cases h2 : b ∈ B
  case neg => rw [if_pos h2, if_pos (fun e => h2 ((h.mem b).1 e))]; exact ⟨rfl, h⟩
  rw [if_neg (show ¬ ¬ b ∈ B from fun e => e h2), if_neg (show ¬ ¬ b ∈ S.B from fun e => e ((h.mem b).2 h2))]
  have he : (∃ o ∈ L, o.bk = b ∧ o.rs ≠ []) ↔ ∃ k, S.V b k ≠ [] := by
    constructor
    · rintro ⟨o, ho, rfl, hr⟩
      exact ⟨o.ky, by rw [← h.rs ho]; exact hr⟩
    · rintro ⟨k, hk⟩
      rw [← h.row] at hk
      obtain ⟨_, h4, _⟩ := at_has hk
      exact ⟨_, List.mem_of_getElem? h4, rfl, hk⟩
  by_cases h3 : ∃ k, S.V b k ≠ []
  · rw [if_pos (he.2 h3), if_pos h3]; exact ⟨rfl, h⟩
  rw [if_neg (fun e => h3 (he.1 e)), if_neg h3]
  have hz : ∀ k, S.V b k = [] := fun k => Classical.byContradiction fun e => h3 ⟨k, e⟩
  have hp : (B.filter (fun t => decide (t ≠ b))).Pairwise (fun a c => Op.bytesLess a c = true) := h.srt.filter _
  have hpm : S.B.Perm B := (List.perm_ext_iff_of_nodup h.nd (h.srt.imp fun {a c} hac e => by subst e; rw [less_irrefl] at hac; cases hac)).2 h.mem
  refine ⟨rfl, h.nd.filter _, fun s hs k => ?_, (hpm.filter _).length_eq, fun c => ?_, hp, fun b' k' => ?_, ?_, fun o ho => ?_, Nat.le_trans (List.length_filter_le _ _) h.few⟩
  · by_cases e : s = b
    · rw [e]; exact hz k
    · exact h.off s (fun e2 => hs (List.mem_filter.2 ⟨e2, by simpa using e⟩)) k
  · show c ∈ S.B.filter _ ↔ c ∈ B.filter _
    rw [List.mem_filter, List.mem_filter, h.mem]
  · rw [rsOf_filter]
    show _ = S.V b' k'
    by_cases e : b' = b
    · rw [if_pos e, e, hz]
    · rw [if_neg e, h.row]
  · exact (List.Sublist.map okey List.filter_sublist).nodup h.one
  · obtain ⟨h5, h6⟩ := List.mem_filter.1 ho
    exact List.mem_filter.2 ⟨h.inb o h5, h6⟩
theorem RelM.same {S S2 : St} {B B2 : List (List UInt8)} {L L2 : List Ob} {m m2 : Nat} (h : RelM S B L m) (h2 : RelM S2 B2 L2 m2) : SameS S S2 ↔ withinR B L B2 L2 ∧ withinR B2 L2 B L := by
  constructor
  · rintro ⟨hB, hV⟩
    have hV' : ∀ b k, S.V b k = S2.V b k := fun b k => by
      by_cases hb : b ∈ S.B
      · exact congrFun (hV b hb) k
      · rw [h.off b hb k, h2.off b (fun e => hb ((hB b).2 e)) k]
    exact ⟨⟨fun b hb => (h2.mem b).1 ((hB b).1 ((h.mem b).2 hb)), fun o ho => .inr (by rw [h2.row, ← hV', h.rs ho])⟩, ⟨fun b hb => (h.mem b).1 ((hB b).2 ((h2.mem b).2 hb)), fun o ho => .inr (by rw [h.row, hV', h2.rs ho])⟩⟩
  · rintro ⟨⟨hB, hL⟩, ⟨hB2, hL2⟩⟩
    refine ⟨fun s => ⟨fun hs => (h2.mem s).2 (hB s ((h.mem s).1 hs)), fun hs => (h.mem s).2 (hB2 s ((h2.mem s).1 hs))⟩, fun b _ => funext fun k => ?_⟩
    by_cases hr : S.V b k = []
    · by_cases hr2 : S2.V b k = []
      · rw [hr, hr2]
      · rw [← h2.row] at hr2
        obtain ⟨_, h5, _⟩ := at_has hr2
        rcases hL2 _ (List.mem_of_getElem? h5) with e | e
        · exact absurd e hr2
        · rw [h.row, h2.row] at e
          exact e
    · rw [← h.row] at hr
      obtain ⟨_, h5, _⟩ := at_has hr
      rcases hL _ (List.mem_of_getElem? h5) with e | e
      · exact absurd e hr
      · rw [h.row, h2.row] at e
        exact e.symm
theorem RelM.sameB {S S2 : St} {B B2 : List (List UInt8)} {L L2 : List Ob} {m m2 : Nat} (h : RelM S B L m) (h2 : RelM S2 B2 L2 m2) : sameB S S2 = (withinB B L B2 L2 && withinB B2 L2 B L) := by
  rw [Bool.eq_iff_iff, sameB_iff, Bool.and_eq_true, h.same h2, withinB_iff, withinB_iff]

def refE (L : List Ob) (b : List UInt8) : List Ent := L.flatMap fun o => if o.bk = b then entsK o.ky o.rs else []
theorem refE_keys {S : St} {B : List (List UInt8)} {L : List Ob} {m : Nat} (h : RelM S B L m) (b : List UInt8) : refE L b = entsOf (S.V b) ((L.filter fun o => decide (o.bk = b)).map (·.ky)) := by
  have hrs : ∀ o ∈ L, o.rs = S.V o.bk o.ky := fun o ho => h.rs ho
  clear h
  unfold refE entsOf
  induction L with
  | nil => rfl
  | cons o L ih =>
    have ih := ih fun x hx => hrs x (List.mem_cons_of_mem _ hx)
    rw [List.flatMap_cons, ih]
    by_cases hb : o.bk = b
    · rw [if_pos hb, List.filter_cons_of_pos (by simpa using hb), List.map_cons, List.flatMap_cons, hrs o (List.mem_cons_self ..), hb]
    · rw [if_neg hb, List.filter_cons_of_neg (by simpa using hb), List.nil_append]
theorem flat_filter {f : List UInt8 → List Kp} : ∀ ks : List (List UInt8), entsOf f ks = entsOf f (ks.filter fun k => decide (f k ≠ []))
  | [] => rfl
  | k :: ks => by
    have ih := flat_filter (f := f) ks
    unfold entsOf at ih ⊢
    by_cases hk : f k = []
    · rw [List.filter_cons_of_neg (by simpa using hk), List.flatMap_cons, hk, ih]
      rfl
    · rw [List.filter_cons_of_pos (by simpa using hk), List.flatMap_cons, List.flatMap_cons, ih]
theorem ents_perm {f : List UInt8 → List Kp} {ks ks' : List (List UInt8)} (h : AllOf f ks) (h' : AllOf f ks') : (entsOf f ks).Perm (entsOf f ks') := by
  rw [flat_filter ks, flat_filter ks']
  unfold entsOf
  refine List.Perm.flatMap_right _ ((List.perm_ext_iff_of_nodup (h.1.filter _) (h'.1.filter _)).2 fun k => ?_)
  rw [List.mem_filter, List.mem_filter]
  constructor
  · rintro ⟨_, hk⟩
    exact ⟨h'.2 k (by simpa using hk), hk⟩
  · rintro ⟨_, hk⟩
    exact ⟨h.2 k (by simpa using hk), hk⟩
theorem key_inj {b : List UInt8} : ∀ {L : List Ob}, (L.map okey).Nodup → ((L.filter fun o => decide (o.bk = b)).map (·.ky)).Nodup
  | [], _ => List.nodup_nil
  | o :: L, hn => by
    rw [List.map_cons, List.nodup_cons] at hn
    by_cases hb : o.bk = b
    · rw [List.filter_cons_of_pos (by simpa using hb), List.map_cons, List.nodup_cons]
      refine ⟨fun hm => hn.1 ?_, key_inj hn.2⟩
      obtain ⟨x, hx, e⟩ := List.mem_map.1 hm
      obtain ⟨hx1, hx2⟩ := List.mem_filter.1 hx
      exact List.mem_map.2 ⟨x, hx1, by unfold okey; rw [show x.ky = o.ky from e, show x.bk = b by simpa using hx2, hb]⟩
    · rw [List.filter_cons_of_neg (by simpa using hb)]
      exact key_inj hn.2
theorem refE_perm {S : St} {B : List (List UInt8)} {L : List Ob} {m : Nat} (h : RelM S B L m) (b : List UInt8) {ks : List (List UInt8)} (hk : AllOf (S.V b) ks) : (refE L b).Perm (entsOf (S.V b) ks) := by
  rw [refE_keys h b]
  refine ents_perm ⟨key_inj h.one, fun k hk => ?_⟩ hk
  rw [← h.row] at hk
  obtain ⟨_, h5, _⟩ := at_has hk
  exact List.mem_map.2 ⟨_, List.mem_filter.2 ⟨List.mem_of_getElem? h5, by simp⟩, rfl⟩
end Go.Proofs.YtjbjcfnbgcloiaaGreatDoor
