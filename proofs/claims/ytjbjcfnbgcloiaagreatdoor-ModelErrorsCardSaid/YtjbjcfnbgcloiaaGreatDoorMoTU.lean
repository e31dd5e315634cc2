/- slices.EqualFunc of rows of versions. -/
import Derived.Test.YtjbjcfnbgcloiaaGreatDoorMoSW
import Derived.Test.YtjbjcfnbgcloiaaGreatDoorMoOR
import Derived.Laws.EntriesVeiled

namespace Go.Proofs.YtjbjcfnbgcloiaaGreatDoor
open Go.RowKit Nam YtjbjcfnbgcloiaaGreatDoorW.PrintWords

theorem row_cells {w : World} {F : Nat → Prop} {g n c : Nat} {l : List Kp} {zs : List (Kp × Option Addr × Nat)} (hz : zs.map Prod.fst = l)
    (hc : ∀ j, j < zs.length → zs[j]!.1.dt.length ≤ zs[j]!.2.2 ∧ DatF w F zs[j]!.2.1 zs[j]!.1.dt ∧ ∀ i v, (encK zs[j]!)[i]? = some v → w.cell? ⟨g, 0 + j * 5 + i, none⟩ = some v) (j : Nat) (hj : j < l.length) :
    ∃ (x : Kp) (A : Option Addr) (c : Nat), l[j]? = some x ∧ DatF w F A x.dt ∧ (∀ i v, (kpCells x (.slice A x.dt.length c))[i]? = some v → w.cell? ⟨g, j * 5 + i, none⟩ = some v) := by
  have hj2 : j < zs.length := by rw [← hz, List.length_map] at hj; exact hj
  obtain ⟨h1, h2, h3⟩ := hc j hj2
  refine ⟨zs[j]!.1, zs[j]!.2.1, zs[j]!.2.2, ?_, h2, fun i v hv => ?_⟩
  · rw [← hz, List.getElem?_map, go_at_ hj2]
    rfl
  · have := h3 i v hv
    rw [Nat.zero_add] at this
    exact this
/-- An element's cells, one by one. -/
structure KAt (w : World) (g o : Nat) (x : Kp) (A : Option Addr) (c : Nat) : Prop where
  c0 : w.cell? ⟨g, o, none⟩ = some (.int .i64 x.id)
  c1 : w.cell? ⟨g, o + 1, none⟩ = some (.bool x.mark)
  c2 : w.cell? ⟨g, o + 2, none⟩ = some (.int .i64 x.sz)
  c3 : w.cell? ⟨g, o + 3, none⟩ = some (.int .u32 x.sum)
  c4 : w.cell? ⟨g, o + 4, none⟩ = some (.slice A x.dt.length c)
theorem RowV.kat {w : World} {F : Nat → Prop} {g c : Nat} {l : List Kp} {n : Nat} (h : RowV w F (.slice (some ⟨g, 0, none⟩) n c) l) (j : Nat) (hj : j < l.length) : ∃ (x : Kp) (A : Option Addr) (c : Nat), l[j]? = some x ∧ DatF w F A x.dt ∧ KAt w g (j * 5) x A c := by
  obtain ⟨A, c', h1, h2, h3⟩ := h.at_ j (List.getElem?_eq_getElem hj)
  exact ⟨l[j], A, c', List.getElem?_eq_getElem hj, h2, ⟨h3 0 _ rfl, h3 1 _ rfl, h3 2 _ rfl, h3 3 _ rfl, h3 4 _ rfl⟩⟩
theorem KAt.below {w w' : World} {g o : Nat} {x : Kp} {A : Option Addr} {c : Nat} (h : KAt w g o x A c) (hb : Below w.heap.size w w') (hg : g < w.heap.size) : KAt w' g o x A c :=
  ⟨(hb.cell (p := ⟨g, o, none⟩) hg).trans h.c0, (hb.cell (p := ⟨g, o + 1, none⟩) hg).trans h.c1, (hb.cell (p := ⟨g, o + 2, none⟩) hg).trans h.c2, (hb.cell (p := ⟨g, o + 3, none⟩) hg).trans h.c3, (hb.cell (p := ⟨g, o + 4, none⟩) hg).trans h.c4⟩

theorem take_eq_succ {l m : List Kp} {k : Nat} {x y : Kp} (hx : l[k]? = some x) (hy : m[k]? = some y) (h : l.take k = m.take k) (e : x = y) : l.take (k + 1) = m.take (k + 1) := by
  rw [List.take_add_one, List.take_add_one, h, hx, hy, e]

set_option maxHeartbeats 2000000 in
set_option maxRecDepth 100000 in
theorem eqrows_is (w : World) (F F' : Nat → Prop) (v1 v2 : Value) (l m : List Kp) (hF : ∀ k, F k → IsC w k) (hF' : ∀ k, F' k → IsC w k) (h1 : RowV w F v1 l) (h2 : RowV w F' v2 m) (hl : l.length ≤ 100000) (hm : m.length ≤ 100000) :
    Calls Tryz.prog 25 #[v1, v2, .func (.func 22) #[] #[]] w fun e w' => e = .returned (.bool (decide (l = m))) ∧ Below w.heap.size w w' := by
  obtain ⟨A1, k1, hv1, hk1⟩ := h1.slice
  obtain ⟨A2, k2, hv2, hk2⟩ := h2.slice
  obtain ⟨n, hn⟩ : ∃ n, l.length = n := ⟨_, rfl⟩
  obtain ⟨n', hn'⟩ : ∃ n, m.length = n := ⟨_, rfl⟩
  by_cases hlen : n = n'
  · subst hlen
    by_cases h0 : n = 0
    · subst h0
      have e1 := List.length_eq_zero_iff.1 hn
      have e2 := List.length_eq_zero_iff.1 hn'
      subst e1; subst e2
      simp only [List.length_nil] at hv1 hv2
      subst hv1; subst hv2
      clear h1 h2 hF hF' hn hn' hk1 hk2 hl hm
      go_enter Tryz.func25, Tryz.ntmps25
      go_wp2
      go_loopw [17] (fun s17 wr => s17 = .int .i64 0 ∧ Below w.heap.size w wr) (fun s17 _ => 0)
      case atStart => exact ⟨rfl, Below.refl _ _⟩
      case round =>
        obtain ⟨rfl, hbw⟩ := hrel
        go_wp2
        go_ret
        exact ⟨by simp, hbw⟩
    · obtain ⟨g1, c1, e1, f1, _⟩ := h1.full (by intro e; subst e; simp at hn; omega)
      obtain ⟨g2, c2, e2, f2, _⟩ := h2.full (by intro e; subst e; simp at hn'; omega)
      subst e1; subst e2
      have hg1 : g1 < w.heap.size := isC_lt (hF g1 f1)
      have hg2 : g2 < w.heap.size := isC_lt (hF' g2 f2)
      rw [hn] at h1 hl ⊢
      rw [hn'] at h2 hm ⊢
      have eg : ∀ args w, (callFunc 22 args).run Tryz.prog w = .ok (.enter 22 args) w := enters_of Tryz.func22 (by kernel_rfl) rfl
      have HE : Hid (∀ k, k < n → ∃ x A c y B d, l[k]? = some x ∧ m[k]? = some y ∧ (∀ W, Below w.heap.size w W → KAt W g1 (k * 5) x A c ∧ KAt W g2 (k * 5) y B d) ∧
          ∀ W, Below w.heap.size w W → Calls Tryz.prog 22 #[.agg #[.int .i64 x.id, .bool x.mark, .int .i64 x.sz, .int .u32 x.sum, .slice A x.dt.length c], .agg #[.int .i64 y.id, .bool y.mark, .int .i64 y.sz, .int .u32 y.sum, .slice B y.dt.length d]] W fun e w' => e = .returned (.bool (alikeB x y)) ∧ Below w.heap.size w w') := fun k hk => by
        obtain ⟨x, A, c, hx, dx, kx⟩ := h1.kat k (by rw [hn]; exact hk)
        obtain ⟨y, B, d, hy, dy, ky⟩ := h2.kat k (by rw [hn']; exact hk)
        refine ⟨x, A, c, y, B, d, hx, hy, fun W hW => ⟨kx.below hW hg1, ky.below hW hg2⟩, fun W hW => ?_⟩
        refine (alike_is W (fun j => F j ∨ F' j) x y A B c d (fun j hj => ?_) ((dx.kept (below_cells hW hF)).mono fun _ h => .inl h) ((dy.kept (below_cells hW hF')).mono fun _ h => .inr h)).mono fun e w' ⟨he, hb⟩ => ⟨he, hW.trans (hb.mono hW.size)⟩
        rcases hj with hj | hj
        · obtain ⟨a, b, c, hh⟩ := hF j hj
          exact ⟨a, b, c, (hW.block j (isC_lt (hF j hj))).trans hh⟩
        · obtain ⟨a, b, c, hh⟩ := hF' j hj
          exact ⟨a, b, c, (hW.block j (isC_lt (hF' j hj))).trans hh⟩
      have HN := Lib.hid (And.intro hn hn')
      have HG1 : Hid (∀ W, Below w.heap.size w W → g1 < W.heap.size ∧ g2 < W.heap.size) := fun W hW => ⟨Nat.lt_of_lt_of_le hg1 hW.size, Nat.lt_of_lt_of_le hg2 hW.size⟩
      clear h1 h2 hF hF' hn hn' hk1 hk2 hg1 hg2 f1 f2 hv1 hv2
      go_enter Tryz.func25, Tryz.ntmps25
      go_wp2
      go_loopw [17] (fun s17 wr => ∃ k : Nat, k ≤ n ∧ s17 = .int .i64 k ∧ Hid (l.take k = m.take k) ∧ Hid (Below w.heap.size w wr)) (fun s17 _ => n - (intOf s17).toNat)
      case atStart => exact ⟨0, Nat.zero_le _, rfl, (by show _ = _; simp), Below.refl _ _⟩
      case round =>
        obtain ⟨k, hk, rfl, HT, HB⟩ := hrel
        by_cases hlt : k < n
        · have hltz : (k : Int) < (n : Int) := by omega
          obtain ⟨x, A, c, y, B, d, hx, hy, hka, hcl⟩ := HE.out k hlt
          obtain ⟨⟨a0, a1, a2, a3, a4⟩, ⟨b0, b1, b2, b3, b4⟩⟩ := hka wr HB.out
          have HX := Lib.hid hx
          have HY := Lib.hid hy
          have HC := Lib.hid hcl
          obtain ⟨q1, q2⟩ := HG1.out wr HB.out
          have r1 : g1 ≠ wr.heap.size := by omega
          have r2 : g2 ≠ wr.heap.size := by omega
          clear hx hy hcl hka
          cases hq : alikeB x y with
          | true =>
            rw [hq] at HC
            have HQ := Lib.hid hq
            clear hq
            go_wp2_with (go_at_fn 22; refine (HC.out _ (((HB.out.alloc HB.out.size _).alloc (by have := HB.out.size; simp; omega) _))).mono ?_; rintro e w' ⟨rfl, hb'⟩)
            go_roundw
            case rel => exact ⟨k + 1, by omega, by go_num, take_eq_succ HX.out HY.out HT.out ((alikeB_iff _ _).1 HQ.out), hb'⟩
            case measure => simp [intOf]; omega
          | false =>
            rw [hq] at HC
            have HQ := Lib.hid hq
            clear hq
            go_wp2_with (go_at_fn 22; refine (HC.out _ (((HB.out.alloc HB.out.size _).alloc (by have := HB.out.size; simp; omega) _))).mono ?_; rintro e w' ⟨rfl, hb'⟩)
            go_ret
            refine ⟨?_, hb'⟩
            have hne : ¬ l = m := fun e => by
              have hxy := HX.out
              rw [e, HY.out] at hxy
              injection hxy with hxy
              have := HQ.out
              rw [(alikeB_iff _ _).2 hxy.symm] at this
              cases this
            rw [decide_eq_false hne]
            rfl
        · have hltz : ¬ (k : Int) < (n : Int) := by omega
          obtain rfl : k = n := by omega
          go_wp2
          go_ret
          refine ⟨?_, HB.out⟩
          have h3 := HT.out
          rw [List.take_of_length_le (by have := HN.out.1; omega), List.take_of_length_le (by have := HN.out.2; omega)] at h3
          rw [decide_eq_true h3]
          rfl
  · have HR : Hid (decide (l = m) = false) := decide_eq_false (fun e => hlen (by rw [← hn, ← hn', e]))
    have hne : ((n : Int) == n') = false := by simp; omega
    have hne2 : ((n : Int) != n') = true := by simp; omega
    rw [hn] at hv1
    rw [hn'] at hv2
    subst hv1; subst hv2
    clear h1 h2 hF hF' hn hn' hk1 hk2
    go_enter Tryz.func25, Tryz.ntmps25
    go_wp2
    go_ret
    exact ⟨by rw [HR.out]; rfl, Below.refl _ _⟩
end Go.Proofs.YtjbjcfnbgcloiaaGreatDoor

/- Same$2, Same$3, Same of package model: do two models have the same? -/
namespace Go.Proofs.YtjbjcfnbgcloiaaGreatDoor
open Go.RowKit Nam YtjbjcfnbgcloiaaGreatDoorW.PrintWords

abbrev fnAlike : Value := .func (.func 22) #[] #[]
abbrev fnRows (a : Addr) : Value := .func (.func 24) #[] #[.pointer (some a)]
abbrev fnMaps (a : Addr) : Value := .func (.func 27) #[] #[.pointer (some a)]
set_option maxHeartbeats 1000000 in
theorem same2_is (w : World) (F F' : Nat → Prop) (b : Nat) (v1 v2 : Value) (l m : List Kp) (hF : ∀ k, F k → IsC w k) (hF' : ∀ k, F' k → IsC w k) (hb : w.heap[b]? = some (.cells #[fnAlike] 73 (0, 0))) (h1 : RowV w F v1 l) (h2 : RowV w F' v2 m) (hl : l.length ≤ 100000) (hm : m.length ≤ 100000) :
    Calls Tryz.prog 24 #[v1, v2, .pointer (some ⟨b, 0, none⟩)] w fun e w' => e = .returned (.bool (decide (l = m))) ∧ Below w.heap.size w w' := by
  have HE := Lib.hid (eqrows_is w F F' v1 v2 l m hF hF' h1 h2 hl hm)
  have c0 := (blk_cell hb 0).trans (rfl : _ = some fnAlike)
  clear h1 h2 hF hF' hb hl hm
  go_enter Tryz.func24, Tryz.ntmps24
  go_wp2_with (go_at_call 25; refine HE.out.mono ?_; rintro e w' ⟨rfl, hb'⟩)
  go_ret
  exact ⟨rfl, hb'⟩

/-! ### a bucket's keys, nil or not -/
def Mp (w : World) (F : Nat → Prop) (p : Option Nat) (f : List UInt8 → List Kp) : Prop := ((p = none ∧ f = fun _ => []) ∨ ∃ b n, p = some b ∧ InnerM w F b n f) ∧ ∀ s, (f s).length ≤ 1000
theorem mp_inj {w : World} {F F' : Nat → Prop} {p : Option Nat} {f f' : List UInt8 → List Kp} (h : Mp w F p f) (h' : Mp w F' p f') : f = f' := by
  rcases h.1 with ⟨rfl, rfl⟩ | ⟨b, n, rfl, h1⟩
  · rcases h'.1 with ⟨_, rfl⟩ | ⟨b, n, e, _⟩
    · rfl
    · cases e
  · rcases h'.1 with ⟨e, _⟩ | ⟨b', n', e, h2⟩
    · cases e
    · injection e with e
      subst e
      exact inner_inj h1 h2
theorem Mp.below {w w' : World} {F : Nat → Prop} {p : Option Nat} {f : List UInt8 → List Kp} (h : Mp w F p f) (hb : Below w.heap.size w w') (hF : ∀ k, F k → IsC w k) : Mp w' F p f := by
  refine ⟨?_, h.2⟩
  rcases h.1 with h | ⟨b, n, e, h1⟩
  · exact .inl h
  · obtain ⟨D, h2, _⟩ := id h1
    exact .inr ⟨b, n, e, h1.kept (hb.block b (isM_lt (ownsMap_isM h2))) (below_cells hb hF)⟩
/-- Only the keys with versions, in a map that lies in V; its rows as they lay in w. -/
def FullIs (w : World) (F : Nat → Prop) (V : World) (p : Option Nat) (f : List UInt8 → List Kp) : Prop :=
  ∃ D, Go.Proofs.SrcOf Tryz.prog 9 (Rrow w F) V p D ∧ ∀ s, Maps.has D (.string s) = decide (f s ≠ []) ∧ (f s ≠ [] → rowOf w F (D.atKey (.string s) .nil) = f s)
theorem FullIs.below {w : World} {F : Nat → Prop} {V V' : World} {p : Option Nat} {f : List UInt8 → List Kp} (h : FullIs w F V p f) (hb : Below V.heap.size V V') : FullIs w F V' p f := by
  obtain ⟨D, h1, h2⟩ := h
  refine ⟨D, h1.kept (below_grown hb) ?_, h2⟩
  cases p with
  | none => exact .inr rfl
  | some b => exact .inl (by simp)
theorem tok_none {w : World} {F : Nat → Prop} {v : Value} {l : List Kp} {d : DataW Unit} {ps : List MemPlace} (hv : R2 v = some (d, ps)) (h : RowV w F v l) : tokNone d = decide (l = []) := by
  obtain ⟨A, c, he, _⟩ := h.slice
  rcases R2_inv hv with ⟨rfl, rfl⟩ | ⟨g, n, c', rfl, rfl⟩
  · injection he with _ h0 _
    rw [List.length_eq_zero_iff.1 h0.symm]
    rfl
  · injection he with _ h0 _
    show decide ((n : Int) = 0) = _
    rw [h0, decide_eq_decide]
    rw [← List.length_eq_zero_iff]
    omega
set_option maxHeartbeats 1000000 in
set_option maxRecDepth 100000 in
theorem full_nil (w : World) : Calls Tryz.prog 29 #[.map none] w fun e w' => e = .returned (.map none) ∧ Below w.heap.size w w' := by
  have HCl := Lib.hid (AnyW.maps_Clone_nil Tryz.mcloneK w)
  have HDe := Lib.hid (fun fv => AnyDf.maps_DeleteFunc_nil Tryz.mdelK fv w)
  have HB : Hid (Below w.heap.size w (w.alloc (.mapIter none 0 #[] 0))) := (Below.refl _ _).alloc (Nat.le_refl _) _
  go_enter Tryz.func29, Tryz.ntmps29
  go_wp2_with (first | (go_at_call 56; refine HCl.out.mono ?_; rintro e w' ⟨rfl, rfl⟩) | (go_at_call 57; refine (HDe.out _).mono ?_; rintro e w2 ⟨rfl, rfl⟩))
  go_ret
  exact ⟨rfl, HB.out⟩
theorem full_any (w V : World) (F : Nat → Prop) (p : Option Nat) (f : List UInt8 → List Kp) (h : Mp w F p f) (hb : Below w.heap.size w V) :
    Calls Tryz.prog 29 #[.map p] V fun e w' => (∃ p', e = .returned (.map p') ∧ Hid (FullIs w F w' p' f)) ∧ Below V.heap.size V w' := by
  obtain ⟨h, hlen⟩ := h
  rcases h with ⟨rfl, rfl⟩ | ⟨b, n, rfl, hin⟩
  · refine (full_nil V).mono fun e w' ⟨he, hb'⟩ => ⟨⟨none, he, ?_⟩, hb'⟩
    exact ⟨.nil, .inl ⟨rfl, rfl⟩, fun s => ⟨rfl, fun h => absurd rfl h⟩⟩
  · obtain ⟨D, h1, _, h2⟩ := inner_row hin
    have hV := ownsMap_kept h1 (hb.block b (isM_lt (ownsMap_isM h1)))
    refine (full_is V b n D hV).mono fun e w' ⟨⟨b', he, _, ho⟩, hb'⟩ => ⟨⟨some b', he, ?_⟩, hb'⟩
    have hsm := strMap_of h1
    refine ⟨_, .inr ⟨b', n, rfl, ownsMap_re ho fun s v yd yp hv ha => ?_⟩, fun s => ?_⟩
    · have hh := Maps.has_true_of_atKey ha
      obtain ⟨v', ps', h3, h4⟩ := h2 s
      rw [← (sm_del hsm s).2 hh .nil, ha .nil] at h3
      rw [R2_one hv h3, Rrow_of h4 (hlen s), ← R2_one hv h3]
      exact hv
    · obtain ⟨v', ps', h3, h4⟩ := h2 s
      have ht := tok_none h3 h4
      obtain ⟨d1, d2⟩ := sm_del (pd := fun _ yd => tokNone yd) hsm s
      have hhas : Maps.has (Lib.deleteFuncD (fun _ yd => tokNone yd) D) (.string s) = decide (f s ≠ []) := by
        rw [d1, ht]
        by_cases e : f s = []
        · simp [e]
        · have : Maps.has D (.string s) = true := by
            cases hd : Maps.has D (.string s) with
            | true => rfl
            | false =>
              rw [sm_none s hd] at ht
              exact absurd (of_decide_eq_true ht.symm) e
          simp [e, this]
      refine ⟨hhas, fun hne => ?_⟩
      rw [d2 (by rw [hhas, decide_eq_true hne])]
      exact rowOf_eq h3 h4

open Classical in
noncomputable def funEqB (f f' : List UInt8 → List Kp) : Bool := decide (f = f')
open Classical in
theorem funEqB_iff (f f' : List UInt8 → List Kp) : funEqB f f' = true ↔ f = f' := decide_eq_true_iff
/-- maps.EqualFunc of two such maps. -/
theorem eqmap2 (w V : World) (F F' : Nat → Prop) (b : Nat) (p p' : Option Nat) (f f' : List UInt8 → List Kp) (hF : ∀ k, F k → IsC w k) (hF' : ∀ k, F' k → IsC w k) (hb : w.heap[b]? = some (.cells #[fnAlike] 73 (0, 0))) (hV : Below w.heap.size w V) (h : FullIs w F V p f) (h' : FullIs w F' V p' f') :
    Calls Tryz.prog 28 #[.map p, .map p', fnRows ⟨b, 0, none⟩] V fun e w' => e = .returned (.bool (funEqB f f')) ∧ Below V.heap.size V w' := by
  obtain ⟨D, h1, h2⟩ := h
  obtain ⟨D', h1', h2'⟩ := h'
  have eg : ∀ args w, (callFunc 24 args).run Tryz.prog w = .ok (.enter 24 args) w := enters_of Tryz.func24 (by kernel_rfl) rfl
  have hz : Rrow w F' (.slice none 0 0) = some (.nil, []) := Rrow_of (rowV_nil w F') (by simp)
  refine (AnyEq.maps_EqualFunc_opt Tryz.meq2 KS (Rrow w F) (Rrow w F') (fun x y => decide (rowOf w F x = rowOf w F' y)) 24 #[.pointer (some ⟨b, 0, none⟩)] p p' D D' V eg h1 h1' (.slice none 0 0) (fun w => zero77 w) .nil [] hz ?_).mono fun e w' ⟨he, hg⟩ => ⟨?_, grown_below' hg⟩
  · intro W x y xd yd xp yp hg hx hy
    obtain ⟨hx1, l, hx2, hx3⟩ := Rrow_inv hx
    obtain ⟨hy1, m, hy2, hy3⟩ := Rrow_inv hy
    have hW := hV.trans ((grown_below' hg).mono hV.size)
    have hk : ∀ G : Nat → Prop, (∀ k, G k → IsC w k) → ∀ k, G k → IsC W k := fun G hG k hk => by
      obtain ⟨a, b, c, hh⟩ := hG k hk
      exact ⟨a, b, c, (hW.block k (isC_lt (hG k hk))).trans hh⟩
    refine (same2_is W F F' b x y l m (hk F hF) (hk F' hF') (blk_below hb hW) (hx2.kept (below_cells hW hF)) (hy2.kept (below_cells hW hF')) (by omega) (by omega)).mono fun e w' ⟨he, hb'⟩ => ⟨?_, below_grown hb'⟩
    rw [he, rowOf_eq hx1 hx2, rowOf_eq hy1 hy2]
  · have hs : ∀ {G : Nat → Prop} {q : Option Nat} {E : DataW Unit}, Go.Proofs.SrcOf Tryz.prog 9 (Rrow w G) V q E → E = .nil ∨ StrMap E := fun hq => by
      rcases hq with ⟨_, e⟩ | ⟨b, n, _, ho⟩
      · exact .inl e
      · exact .inr (strMap_of ho)
    have hnil : ∀ E : DataW Unit, StrMap E → (Lib.equalFuncD (fun x y => decide (rowOf w F x = rowOf w F' y)) .nil E = Lib.equalFuncD (fun x y => decide (rowOf w F x = rowOf w F' y)) (.map []) E) := fun E _ => rfl
    have key : Lib.equalFuncD (fun x y => decide (rowOf w F x = rowOf w F' y)) D D' = true ↔ (∀ s, Maps.has D (.string s) = Maps.has D' (.string s)) ∧ ∀ s, Maps.has D (.string s) = true → decide (rowOf w F (D.atKey (.string s) .nil) = rowOf w F' (D'.atKey (.string s) .nil)) = true := by
      have e0 : StrMap (.map [] : DataW Unit) := ⟨[], rfl, List.nodup_nil⟩
      rcases hs h1 with rfl | s1 <;> rcases hs h1' with rfl | s2
      · exact equalFunc_iff (eqd := fun x y => decide (rowOf w F x = rowOf w F' y)) (D1 := .map []) (D2 := .map []) e0 e0
      · exact equalFunc_iff (eqd := fun x y => decide (rowOf w F x = rowOf w F' y)) (D1 := .map []) e0 s2
      · exact equalFunc_iff (eqd := fun x y => decide (rowOf w F x = rowOf w F' y)) (D2 := .map []) s1 e0
      · exact equalFunc_iff s1 s2
    rw [he]
    congr 2
    rw [Bool.eq_iff_iff]
    refine Iff.trans key ?_
    rw [funEqB_iff]
    constructor
    · rintro ⟨hh, ha⟩
      funext s
      have e1 := hh s
      rw [(h2 s).1, (h2' s).1] at e1
      by_cases e : f s = []
      · have : f' s = [] := by
          by_cases e' : f' s = []
          · exact e'
          · rw [decide_eq_false (by simp [e]), decide_eq_true e'] at e1
            cases e1
        rw [e, this]
      · have e' : f' s ≠ [] := by
          intro e'
          rw [decide_eq_true e, decide_eq_false (by simp [e'])] at e1
          cases e1
        have := ha s (by rw [(h2 s).1, decide_eq_true e])
        rw [decide_eq_true_iff, (h2 s).2 e, (h2' s).2 e'] at this
        exact this
    · rintro rfl
      refine ⟨fun s => by rw [(h2 s).1, (h2' s).1], fun s hs => ?_⟩
      rw [(h2 s).1, decide_eq_true_iff] at hs
      rw [decide_eq_true_iff, (h2 s).2 hs, (h2' s).2 hs]

set_option maxHeartbeats 2000000 in
set_option maxRecDepth 100000 in
theorem same3_is (w : World) (F F' : Nat → Prop) (b c : Nat) (p p' : Option Nat) (f f' : List UInt8 → List Kp) (hF : ∀ k, F k → IsC w k) (hF' : ∀ k, F' k → IsC w k) (hb : w.heap[b]? = some (.cells #[fnAlike] 73 (0, 0))) (hc : w.heap[c]? = some (.cells #[fnRows ⟨b, 0, none⟩] 75 (0, 0))) (h : Mp w F p f) (h' : Mp w F' p' f') :
    Calls Tryz.prog 27 #[.map p, .map p', .pointer (some ⟨c, 0, none⟩)] w fun e w' => e = .returned (.bool (funEqB f f')) ∧ Below w.heap.size w w' := by
  have HFu : Hid (∀ V p f F, Below w.heap.size w V → Mp w F p f → Calls Tryz.prog 29 #[.map p] V fun e w' => (∃ p', e = .returned (.map p') ∧ Hid (FullIs w F w' p' f)) ∧ Hid (Below V.heap.size V w') ∧ Hid (Below w'.heap.size w' w') ∧ Below w.heap.size w w') := fun V p f F hV hm =>
    (full_any w V F p f hm hV).mono fun e w' ⟨h1, h2⟩ => ⟨h1, h2, Below.refl _ _, hV.trans (h2.mono hV.size)⟩
  have HEq : Hid (∀ V V1 V2 p1 p2, Below w.heap.size w V → Hid (FullIs w F V1 p1 f) → Hid (FullIs w F' V2 p2 f') → Hid (Below V1.heap.size V1 V) → Hid (Below V2.heap.size V2 V) → Calls Tryz.prog 28 #[.map p1, .map p2, fnRows ⟨b, 0, none⟩] V fun e w' => e = .returned (.bool (funEqB f f')) ∧ Below w.heap.size w w') := fun V V1 V2 p1 p2 hV h1 h2 b1 b2 =>
    (eqmap2 w V F F' b p1 p2 f f' hF hF' hb hV (h1.out.below b1.out) (h2.out.below b2.out)).mono fun e w' ⟨he, hb'⟩ => ⟨he, hV.trans (hb'.mono hV.size)⟩
  have HC : Hid (∀ V, Below w.heap.size w V → V.cell? ⟨c, 0, none⟩ = some (fnRows ⟨b, 0, none⟩)) := fun V hV => (blk_cell (blk_below hc hV) 0).trans rfl
  have hb0 : Below w.heap.size w w := Below.refl _ _
  have hb0d : Below w.heap.size w w.drew := (Below.refl _ _).drew
  clear hb hc hF hF'
  go_enter Tryz.func27, Tryz.ntmps27
  go_wp2_with fail
  go_region_held3 (fun V => V.cell? ⟨c, 0, none⟩ = some (fnRows ⟨b, 0, none⟩)) (exact HC.out _ (by assumption)) (first | (go_at_call 29; refine (HFu.out _ _ _ _ (by assumption) (by assumption)).mono ?_; rintro e w' ⟨⟨pp, rfl, HP⟩, HQ1, HQ2, hbq⟩) | (go_at_call 28; refine (HEq.out _ _ _ _ _ (by assumption) (by assumption) (by assumption) (by assumption) (by assumption)).mono ?_; rintro e w' ⟨rfl, hbq⟩))
  all_goals
    go_wp2_with fail
    go_ret
    exact ⟨rfl, by assumption⟩

/-! ### two models -/
def SameS (S S' : St) : Prop := (∀ s, s ∈ S.B ↔ s ∈ S'.B) ∧ ∀ s, s ∈ S.B → S.V s = S'.V s
open Classical in
noncomputable def sameB (S S' : St) : Bool := decide (SameS S S')
open Classical in
theorem sameB_iff (S S' : St) : sameB S S' = true ↔ SameS S S' := decide_eq_true_iff
open Classical in
noncomputable def Rmap (w : World) (F : Nat → Prop) (v : Value) : Option (DataW Unit × List MemPlace) := if (∃ p f, v = .map p ∧ Mp w F p f) then R1 v else none
theorem Rmap_of {w : World} {F : Nat → Prop} {p : Option Nat} {f : List UInt8 → List Kp} (h : Mp w F p f) : Rmap w F (.map p) = R1 (.map p) := if_pos ⟨p, f, rfl, h⟩
theorem Rmap_inv {w : World} {F : Nat → Prop} {v : Value} {z : DataW Unit × List MemPlace} (h : Rmap w F v = some z) : R1 v = some z ∧ ∃ p f, v = .map p ∧ Mp w F p f := by
  unfold Rmap at h
  split at h
  · rename_i hl
    exact ⟨h, hl⟩
  · cases h
open Classical in
noncomputable def mapOf (w : World) (F : Nat → Prop) (d : DataW Unit) : List UInt8 → List Kp := if h : ∃ f p ps, R1 (.map p) = some (d, ps) ∧ Mp w F p f then h.choose else fun _ => []
theorem mapOf_eq {w : World} {F : Nat → Prop} {d : DataW Unit} {p : Option Nat} {ps : List MemPlace} {f : List UInt8 → List Kp} (hv : R1 (.map p) = some (d, ps)) (hr : Mp w F p f) : mapOf w F d = f := by
  have h : ∃ f p ps, R1 (.map p) = some (d, ps) ∧ Mp w F p f := ⟨f, p, ps, hv, hr⟩
  unfold mapOf
  rw [dif_pos h]
  obtain ⟨p', ps', h1, h2⟩ := h.choose_spec
  have := R1_one h1 hv
  injection this with this
  rw [this] at h2
  exact mp_inj h2 hr
theorem outer_map {w : World} {g n mb : Nat} {S : St} {Q F : Nat → Prop} {D : DataW Unit} (h : Outer w g S n Q F mb D) (hl : ∀ b k, (S.V b k).length ≤ 1000) : w.ownsMap Tryz.prog 9 (Rmap w F) mb n D ∧ ∀ s, s ∈ S.B → mapOf w F (D.atKey (.string s) .nil) = S.V s := by
  refine ⟨ownsMap_re h.o fun s v yd yp hv ha => ?_, fun s hs => ?_⟩
  · have hh := Maps.has_true_of_atKey ha
    rw [h.hs, decide_eq_true_iff] at hh
    obtain ⟨b, e1, _, _, e4⟩ := h.at_ s hh
    rw [ha .nil] at e1
    subst e1
    have e5 : v = .map (some b) := R1_one hv (show R1 (.map (some b)) = some (.lit (.int .i64 b), []) from rfl)
    subst e5
    rw [Rmap_of ⟨.inr ⟨b, n, rfl, e4⟩, hl s⟩]
    exact hv
  · obtain ⟨b, e1, _, _, e4⟩ := h.at_ s hs
    exact mapOf_eq (p := some b) (ps := []) (by rw [e1]; rfl) ⟨.inr ⟨b, n, rfl, e4⟩, hl s⟩
theorem eqmap1 (w V : World) (F F' : Nat → Prop) (b c : Nat) (g n mb g' n' mb' : Nat) (S S' : St) (Q Q' : Nat → Prop) (D D' : DataW Unit) (hF : ∀ k, F k → IsC w k) (hF' : ∀ k, F' k → IsC w k) (hb : w.heap[b]? = some (.cells #[fnAlike] 73 (0, 0))) (hc : w.heap[c]? = some (.cells #[fnRows ⟨b, 0, none⟩] 75 (0, 0)))
    (h : Outer w g S n Q F mb D) (h' : Outer w g' S' n' Q' F' mb' D') (hl : ∀ b k, (S.V b k).length ≤ 1000) (hl' : ∀ b k, (S'.V b k).length ≤ 1000) (hV : Below w.heap.size w V) :
    Calls Tryz.prog 26 #[.map (some mb), .map (some mb'), fnMaps ⟨c, 0, none⟩] V fun e w' => e = .returned (.bool (sameB S S')) ∧ Below w.heap.size w w' := by
  obtain ⟨o1, t1⟩ := outer_map h hl
  obtain ⟨o1', t1'⟩ := outer_map h' hl'
  have p1 := ownsMap_kept o1 (hV.block mb (isM_lt (ownsMap_isM o1)))
  have p1' := ownsMap_kept o1' (hV.block mb' (isM_lt (ownsMap_isM o1')))
  have eg : ∀ args w, (callFunc 27 args).run Tryz.prog w = .ok (.enter 27 args) w := enters_of Tryz.func27 (by kernel_rfl) rfl
  have hz : Rmap w F' (.map none) = some (.nil, []) := Rmap_of (f := fun _ => []) ⟨.inl ⟨rfl, rfl⟩, fun s => by simp⟩
  refine (AnyEq.maps_EqualFunc_opt Tryz.meq1 KS (Rmap w F) (Rmap w F') (fun x y => funEqB (mapOf w F x) (mapOf w F' y)) 27 #[.pointer (some ⟨c, 0, none⟩)] (some mb) (some mb') D D' V eg (.inr ⟨mb, n, rfl, p1⟩) (.inr ⟨mb', n', rfl, p1'⟩) (.map none) (fun w => zero63 w) .nil [] hz ?_).mono fun e w' ⟨he, hg⟩ => ⟨?_, hV.trans ((grown_below' hg).mono hV.size)⟩
  · intro W x y xd yd xp yp hg hx hy
    obtain ⟨hx1, p, f, rfl, hx2⟩ := Rmap_inv hx
    obtain ⟨hy1, p', f', rfl, hy2⟩ := Rmap_inv hy
    have hW := hV.trans ((grown_below' hg).mono hV.size)
    have hk : ∀ G : Nat → Prop, (∀ k, G k → IsC w k) → ∀ k, G k → IsC W k := fun G hG k hk => by
      obtain ⟨a, b, c, hh⟩ := hG k hk
      exact ⟨a, b, c, (hW.block k (isC_lt (hG k hk))).trans hh⟩
    refine (same3_is W F F' b c p p' f f' (hk F hF) (hk F' hF') (blk_below hb hW) (blk_below hc hW) (hx2.below hW hF) (hy2.below hW hF')).mono fun e w' ⟨he, hb'⟩ => ⟨?_, below_grown hb'⟩
    rw [he, mapOf_eq hx1 hx2, mapOf_eq hy1 hy2]
  · rw [he]
    congr 2
    rw [Bool.eq_iff_iff]
    refine Iff.trans (equalFunc_iff (strMap_of h.o) (strMap_of h'.o)) ?_
    rw [sameB_iff]
    constructor
    · rintro ⟨hh, ha⟩
      have hm : ∀ s, s ∈ S.B ↔ s ∈ S'.B := fun s => by
        have := hh s
        rw [h.hs, h'.hs] at this
        exact decide_eq_decide.1 this
      refine ⟨hm, fun s hs => ?_⟩
      have := ha s (by rw [h.hs, decide_eq_true hs])
      rw [t1 s hs, t1' s ((hm s).1 hs)] at this
      exact (funEqB_iff _ _).1 this
    · rintro ⟨hm, ha⟩
      refine ⟨fun s => by rw [h.hs, h'.hs]; exact decide_eq_decide.2 (hm s), fun s hs => ?_⟩
      rw [h.hs, decide_eq_true_iff] at hs
      rw [t1 s hs, t1' s ((hm s).1 hs)]
      exact (funEqB_iff _ _).2 (ha s hs)

set_option maxHeartbeats 2000000 in
set_option maxRecDepth 100000 in
theorem same_is (w : World) (g g' n n' : Nat) (S S' : St) (Q Q' F F' : Nat → Prop) (h : HasM w g S n Q F) (h' : HasM w g' S' n' Q' F') (hl : ∀ b k, (S.V b k).length ≤ 1000) (hl' : ∀ b k, (S'.V b k).length ≤ 1000) :
    Calls Tryz.prog 11 #[.pointer (some ⟨g, 0, none⟩), .pointer (some ⟨g', 0, none⟩)] w fun e w' => e = .returned (.bool (sameB S S')) ∧ Below w.heap.size w w' := by
  obtain ⟨W1, hW1⟩ : ∃ W1, w.alloc (.cells #[fnAlike] 73) = W1 := ⟨_, rfl⟩
  obtain ⟨W2, hW2⟩ : ∃ W2, W1.alloc (.cells #[fnRows ⟨w.heap.size, 0, none⟩] 75) = W2 := ⟨_, rfl⟩
  have hb1 : Below w.heap.size w W1 := by rw [← hW1]; exact (Below.refl _ _).alloc (Nat.le_refl _) _
  have hb2 : Below W1.heap.size W1 W2 := by rw [← hW2]; exact (Below.refl _ _).alloc (Nat.le_refl _) _
  have hs1 : W1.heap.size = w.heap.size + 1 := by rw [← hW1]; simp
  have hb02 := hb1.trans (hb2.mono hb1.size)
  have k1 : W2.heap[w.heap.size]? = some (.cells #[fnAlike] 73 (0, 0)) := by
    rw [hb2.block _ (by omega), ← hW1]
    exact heap_alloc_new w _
  have k2 : W2.heap[w.heap.size + 1]? = some (.cells #[fnRows ⟨w.heap.size, 0, none⟩] 75 (0, 0)) := by
    rw [← hs1, ← hW2]
    exact heap_alloc_new W1 _
  have m1 := h.below hb02
  have m1' := h'.below hb02
  obtain ⟨mb, D, hO⟩ := m1.ex
  obtain ⟨mb', D', hO'⟩ := m1'.ex
  have HEq : Hid (∀ V, Below W2.heap.size W2 V → Calls Tryz.prog 26 #[.map (some mb), .map (some mb'), fnMaps ⟨w.heap.size + 1, 0, none⟩] V fun e w' => e = .returned (.bool (sameB S S')) ∧ Below W2.heap.size W2 w') := fun V hV =>
    eqmap1 W2 V F F' _ _ g n mb g' n' mb' S S' Q Q' D D' m1.f m1'.f k1 k2 hO hO' hl hl' hV
  have HC : Hid (∀ V, Below W2.heap.size W2 V → V.cell? ⟨g, 0, none⟩ = some (.map (some mb)) ∧ V.cell? ⟨g', 0, none⟩ = some (.map (some mb'))) := fun V hV =>
    ⟨(blk_cell (blk_below hO.c hV) 0).trans rfl, (blk_cell (blk_below hO'.c hV) 0).trans rfl⟩
  have HB := Lib.hid hb02
  have hbb : Below W2.heap.size W2 W2 := Below.refl _ _
  have hbbd : Below W2.heap.size W2 W2.drew := (Below.refl _ _).drew
  clear h h' hl hl' m1 m1' hO hO' k1 k2 hb1 hb2 hs1 hb02
  subst hW1
  go_enter Tryz.func11, Tryz.ntmps11
  go_upto_region 5 with (fail)
  clear hW2
  go_wp2_with fail
  go_region_held3 (fun V => V.cell? ⟨g, 0, none⟩ = some (.map (some mb)) ∧ V.cell? ⟨g', 0, none⟩ = some (.map (some mb'))) (exact HC.out _ (by assumption)) ((go_at_call 26; refine (HEq.out _ (by assumption)).mono ?_; rintro e w' ⟨rfl, hbq⟩))
  all_goals
    go_wp2_with fail
    go_ret
    exact ⟨rfl, HB.out.trans (hbq.mono HB.out.size)⟩
end Go.Proofs.YtjbjcfnbgcloiaaGreatDoor
