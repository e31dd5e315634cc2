/- Rows and maps of versions read in one way; two maps held against each other, plainly. -/
import Derived.Test.YtjbjcfnbgcloiaaGreatDoorMoE

namespace Go.Proofs.YtjbjcfnbgcloiaaGreatDoor
open Go.RowKit Nam YtjbjcfnbgcloiaaGreatDoorW.PrintWords

theorem below_grown {w w' : World} (h : Below w.heap.size w w') : w.grownBy w' none := ⟨h.os, h.tape, h.output, h.size, fun k hk _ => h.block k hk⟩
theorem grown_below' {w w' : World} (h : w.grownBy w' none) : Below w.heap.size w w' := ⟨h.os, h.tape, h.output, h.size, fun k hk => h.block k hk (by simp)⟩
/-! ### what lies somewhere reads in one way -/
theorem ints_inj {w : World} {A : Option Addr} {n : Nat} {a b : List Int} (ha : (Kd.int .u8).C w A n a) (hb : (Kd.int .u8).C w A n b) (h1 : a.length = n) (h2 : b.length = n) : a = b := by
  apply List.ext_getElem (by omega)
  intro i hi hi2
  obtain ⟨ad, e, hc⟩ := Kd.at_int ha (i : Int) (by omega) (by omega)
  obtain ⟨ad', e', hc'⟩ := Kd.at_int hb (i : Int) (by omega) (by omega)
  rw [e] at e'
  injection e' with e'
  subst e'
  rw [hc] at hc'
  injection hc' with hc'
  injection hc' with _ hc'
  unfold rd at hc'
  simpa [List.getD_eq_getElem?_getD, hi, hi2] using hc'
theorem datF_inj {w : World} {F F' : Nat → Prop} {A : Option Addr} {l m : List UInt8} (h : DatF w F A l) (h2 : DatF w F' A m) (hn : l.length = m.length) : l = m :=
  byN_inj (ints_inj h.now (by rw [hn]; exact h2.now) (byN_length l) (by rw [byN_length, hn]))
theorem rowV_inj {w : World} {F F' : Nat → Prop} {v : Value} {l m : List Kp} (h : RowV w F v l) (h2 : RowV w F' v m) : l = m := by
  obtain ⟨A, c, hv, _⟩ := h.slice
  obtain ⟨A2, c2, hv2, _⟩ := h2.slice
  have hlen : l.length = m.length := by
    rw [hv] at hv2
    injection hv2 with _ hv2 _
  by_cases h0 : l = []
  · subst h0
    exact (List.length_eq_zero_iff.1 (by rw [← hlen]; rfl)).symm
  · obtain ⟨news, h1, _⟩ := id h
    rcases h1 with ⟨_, e0, _⟩ | ⟨g, c, rfl, _⟩
    · exact absurd (List.length_eq_zero_iff.1 e0) h0
    apply List.ext_getElem hlen
    intro j hj hj2
    obtain ⟨A, c1, _, d1, f1⟩ := h.at_ j (List.getElem?_eq_getElem hj)
    obtain ⟨B, c2, _, d2, f2⟩ := h2.at_ j (List.getElem?_eq_getElem hj2)
    generalize l[j] = x at d1 f1
    generalize m[j] = y at d2 f2
    have e0 := (f1 0 _ rfl).symm.trans (f2 0 _ rfl)
    have e1 := (f1 1 _ rfl).symm.trans (f2 1 _ rfl)
    have e2 := (f1 2 _ rfl).symm.trans (f2 2 _ rfl)
    have e3 := (f1 3 _ rfl).symm.trans (f2 3 _ rfl)
    have e4 := (f1 4 _ rfl).symm.trans (f2 4 _ rfl)
    simp only [Option.some.injEq, Value.int.injEq, Value.bool.injEq, Value.slice.injEq, true_and] at e0 e1 e2 e3 e4
    obtain ⟨rfl, e5, _⟩ := e4
    have e6 := datF_inj d1 d2 e5
    cases x; cases y
    simp only at e0 e1 e2 e3 e6
    subst e0; subst e1; subst e2; subst e3; subst e6
    rfl

/-! ### a map's elements, as far as they read -/
theorem key_isStr {v : Value} {kl : Lit} (h : keyOf Tryz.prog 9 v = some kl) : ∃ s, kl = .string s := by
  exact (WideMaps.string_law Tryz.underlying9).str h
theorem ownsMap_re {w : World} {R R' : Value → Option (DataW Unit × List MemPlace)} {b n : Nat} {D : DataW Unit} (h : w.ownsMap Tryz.prog 9 R b n D)
    (hs : ∀ s v yd yp, R v = some (yd, yp) → (∀ zd, D.atKey (.string s) zd = yd) → R' v = some (yd, yp)) : w.ownsMap Tryz.prog 9 R' b n D := by
  obtain ⟨es, hE, hap, hkeys⟩ := h.entries KS
  obtain ⟨es0, clock, hb, F, hle, hD⟩ := h
  have hst : ∀ x ∈ es0.toList, ∀ z, R x.val = some z → R' x.val = some z := by
    intro x hx z hz
    obtain ⟨y, hy⟩ := F.reads x hx
    obtain ⟨z', hz', e2⟩ := WideElems.rd_val hy
    obtain rfl : z = z' := Option.some.inj (hz.symm.trans hz')
    obtain ⟨s, hs'⟩ := key_isStr (WideElems.rd_key hy)
    have hmem : y ∈ es := by
      rw [hD] at hE
      injection hE with hE
      rw [← hE]
      exact mem_sorted.2 (List.mem_map.2 ⟨x, hx, WideElems.rg_of hy⟩)
    refine hs s x.val z.1 z.2 hz (fun zd => ?_)
    rw [hE, ← hs']
    exact (WideAt.atKey_mem zd (hkeys y hmem) hap hmem).trans e2
  obtain ⟨F', hmap, _⟩ := F.stay hst
  exact ⟨es0, clock, hb, F', hle, by rw [hmap]; exact hD⟩
open Classical in
/-- Rows of versions that read. -/
noncomputable def Rrow (w : World) (F : Nat → Prop) (v : Value) : Option (DataW Unit × List MemPlace) := if (∃ l, RowV w F v l ∧ l.length ≤ 1000) then R2 v else none
theorem Rrow_of {w : World} {F : Nat → Prop} {v : Value} {l : List Kp} (h : RowV w F v l) (hl : l.length ≤ 1000) : Rrow w F v = R2 v := if_pos ⟨l, h, hl⟩
theorem Rrow_inv {w : World} {F : Nat → Prop} {v : Value} {z : DataW Unit × List MemPlace} (h : Rrow w F v = some z) : R2 v = some z ∧ ∃ l, RowV w F v l ∧ l.length ≤ 1000 := by
  unfold Rrow at h
  split at h
  · rename_i hl
    exact ⟨h, hl⟩
  · cases h
open Classical in
/-- What row a token tells of. -/
noncomputable def rowOf (w : World) (F : Nat → Prop) (d : DataW Unit) : List Kp := if h : ∃ l v ps, R2 v = some (d, ps) ∧ RowV w F v l then h.choose else []
theorem rowOf_eq {w : World} {F : Nat → Prop} {d : DataW Unit} {v : Value} {ps : List MemPlace} {l : List Kp} (hv : R2 v = some (d, ps)) (hr : RowV w F v l) : rowOf w F d = l := by
  have h : ∃ l v ps, R2 v = some (d, ps) ∧ RowV w F v l := ⟨l, v, ps, hv, hr⟩
  unfold rowOf
  rw [dif_pos h]
  obtain ⟨v', ps', h1, h2⟩ := h.choose_spec
  rw [R2_one h1 hv] at h2
  exact rowV_inj h2 hr
/-- A bucket's map tells its keys in one way. -/
theorem inner_inj {w : World} {F F' : Nat → Prop} {b n n' : Nat} {f f' : List UInt8 → List Kp} (h : InnerM w F b n f) (h' : InnerM w F' b n' f') : f = f' := by
  obtain ⟨D, ⟨es, clock, hb, F1, _, hD⟩, h2⟩ := h
  obtain ⟨D', ⟨es', clock', hb', F1', _, hD'⟩, h2'⟩ := h'
  rw [hb] at hb'
  injection hb' with hb'
  injection hb' with e1 _
  subst e1
  rw [← hD] at hD'
  subst hD'
  funext s
  obtain ⟨v, ps, h3, h4⟩ := h2 s
  obtain ⟨v', ps', h3', h4'⟩ := h2' s
  rw [R2_one h3 h3'] at h4
  exact rowV_inj h4 h4'

/-! ### two maps held against each other -/
theorem len_sub {α : Type} [DecidableEq α] : ∀ (l m : List α), l.Nodup → (∀ x ∈ l, x ∈ m) → l.length ≤ m.length
  | [], _, _, _ => Nat.zero_le _
  | a :: l, m, hn, hs => by
    have ha := hs a List.mem_cons_self
    have h1 := len_sub l (m.erase a) (List.nodup_cons.1 hn).2 (fun x hx => (List.mem_erase_of_ne (fun e => (List.nodup_cons.1 hn).1 (by rw [← e]; exact hx))).2 (hs x (List.mem_cons_of_mem _ hx)))
    have h2 := List.length_erase_of_mem ha
    have h3 := List.length_pos_of_mem ha
    simp only [List.length_cons]
    omega
theorem sub_back {α : Type} [DecidableEq α] : ∀ (l m : List α), l.Nodup → (∀ x ∈ l, x ∈ m) → m.Nodup → m.length ≤ l.length → ∀ x ∈ m, x ∈ l
  | [], m, _, _, _, hl, x, hx => by
    have := List.length_pos_of_mem hx
    have h0 : m.length ≤ 0 := hl
    omega
  | a :: l, m, hn, hs, hm, hl, x, hx => by
    by_cases e : x = a
    · rw [e]; exact List.mem_cons_self
    · have ha := hs a List.mem_cons_self
      have h2 := List.length_erase_of_mem ha
      have h3 := List.length_pos_of_mem ha
      refine List.mem_cons_of_mem _ (sub_back l (m.erase a) (List.nodup_cons.1 hn).2 (fun y hy => (List.mem_erase_of_ne (fun e => (List.nodup_cons.1 hn).1 (by rw [← e]; exact hy))).2 (hs y (List.mem_cons_of_mem _ hy))) (hm.erase a) ?_ x ((List.mem_erase_of_ne e).2 hx))
      simp only [List.length_cons] at hl
      omega
/-- A map of texts, plainly. -/
def StrMap (D : DataW Unit) : Prop := ∃ es : List (List UInt8 × DataW Unit), D = .map (es.map fun p => (Lit.string p.1, p.2)) ∧ (es.map Prod.fst).Nodup
theorem strMap_of {w : World} {R : Value → Option (DataW Unit × List MemPlace)} {b n : Nat} {D : DataW Unit} (h : w.ownsMap Tryz.prog 9 R b n D) : StrMap D := by
  obtain ⟨es, hE, hap, _⟩ := h.entries KS
  have hst : ∀ p ∈ es, ∃ s, p.1 = Lit.string s := by
    obtain ⟨es0, clock, hb, F, hle, hD⟩ := h
    intro p hp
    rw [hD] at hE
    injection hE with hE
    rw [← hE] at hp
    obtain ⟨x, hx, rfl⟩ := List.mem_map.1 (mem_sorted.1 hp)
    obtain ⟨y, hy⟩ := F.reads x hx
    rw [WideElems.rg_of hy]
    exact key_isStr (WideElems.rd_key hy)
  clear h
  subst hE
  let g : Lit × DataW Unit → List UInt8 × DataW Unit := fun p => ((match p.1 with | .string s => s | _ => []), p.2)
  have hg : ∀ p ∈ es, (Lit.string (g p).1, (g p).2) = p := fun p hp => by
    obtain ⟨s, hs⟩ := hst p hp
    obtain ⟨a, b⟩ := p
    simp only at hs
    subst hs
    rfl
  refine ⟨es.map g, ?_, ?_⟩
  · congr 1
    rw [List.map_map]
    exact ((List.map_congr_left (g := id) fun p hp => hg p hp).trans (List.map_id _)).symm
  · rw [List.map_map]
    refine List.pairwise_map.2 ((List.Pairwise.and_mem.1 hap).imp fun {p q} h e => h.2.2 ?_)
    rw [← hg p h.1, ← hg q h.2.1]
    exact congrArg Lit.string e
theorem inner_row {w : World} {F : Nat → Prop} {b n : Nat} {f : List UInt8 → List Kp} (h : InnerM w F b n f) :
    ∃ D, w.ownsMap Tryz.prog 9 R2 b n D ∧ StrMap D ∧ ∀ s, ∃ v ps, R2 v = some (D.atKey (.string s) .nil, ps) ∧ RowV w F v (f s) := by
  obtain ⟨D, h1, h2⟩ := h
  exact ⟨D, h1, strMap_of h1, h2⟩
theorem sm_has {es : List (List UInt8 × DataW Unit)} (s : List UInt8) : Maps.has (DataW.map (es.map fun p => (Lit.string p.1, p.2))) (.string s) = decide (s ∈ es.map Prod.fst) := by
  show (es.map fun p => (Lit.string p.1, p.2)).any (fun p => p.1.sameKey (.string s)) = _
  rw [Bool.eq_iff_iff, List.any_eq_true, decide_eq_true_iff]
  constructor
  · rintro ⟨p, hp, h⟩
    obtain ⟨q, hq, rfl⟩ := List.mem_map.1 hp
    have := WideAt.sameKey_eq h
    simp only [Lit.string.injEq] at this
    rw [← this]
    exact List.mem_map.2 ⟨q, hq, rfl⟩
  · intro h
    obtain ⟨q, hq, rfl⟩ := List.mem_map.1 h
    exact ⟨(Lit.string q.1, q.2), List.mem_map.2 ⟨q, hq, rfl⟩, WideAt.sameKey_self (isKey_str q.1)⟩
theorem sm_at {es : List (List UInt8 × DataW Unit)} (hn : (es.map Prod.fst).Nodup) {q : List UInt8 × DataW Unit} (hq : q ∈ es) (zd : DataW Unit) : (DataW.map (es.map fun p => (Lit.string p.1, p.2))).atKey (.string q.1) zd = q.2 := by
  refine WideAt.atKey_mem zd (isKey_str q.1) ?_ (List.mem_map.2 ⟨q, hq, rfl⟩)
  refine List.pairwise_map.2 ((List.pairwise_map.1 hn).imp fun {a b} h e => h ?_)
  simpa using e
theorem equalFunc_iff {eqd : DataW Unit → DataW Unit → Bool} {D1 D2 : DataW Unit} (h1 : StrMap D1) (h2 : StrMap D2) :
    Lib.equalFuncD eqd D1 D2 = true ↔ (∀ s, Maps.has D1 (.string s) = Maps.has D2 (.string s)) ∧ ∀ s, Maps.has D1 (.string s) = true → eqd (D1.atKey (.string s) .nil) (D2.atKey (.string s) .nil) = true := by
  obtain ⟨es1, rfl, n1⟩ := h1
  obtain ⟨es2, rfl, n2⟩ := h2
  unfold Lib.equalFuncD
  rw [Bool.and_eq_true, decide_eq_true_iff, List.all_eq_true]
  have hz : ∀ es : List (List UInt8 × DataW Unit), Maps.size (DataW.map (es.map fun p => (Lit.string p.1, p.2))) = (es.map Prod.fst).length := fun es => by simp [Maps.size]
  rw [hz, hz]
  constructor
  · rintro ⟨hl, ha⟩
    have hsub : ∀ s ∈ es1.map Prod.fst, s ∈ es2.map Prod.fst := fun s hs => by
      obtain ⟨q, hq, rfl⟩ := List.mem_map.1 hs
      have := ha (Lit.string q.1, q.2) (List.mem_map.2 ⟨q, hq, rfl⟩)
      unfold Lib.goodD at this
      rw [Bool.and_eq_true, sm_has, decide_eq_true_iff] at this
      exact this.1
    have hb := sub_back _ _ n1 hsub n2 (by omega)
    refine ⟨fun s => ?_, fun s hs => ?_⟩
    · rw [sm_has, sm_has]
      exact decide_eq_decide.2 ⟨hsub s, hb s⟩
    · rw [sm_has, decide_eq_true_iff] at hs
      obtain ⟨q, hq, rfl⟩ := List.mem_map.1 hs
      have := ha (Lit.string q.1, q.2) (List.mem_map.2 ⟨q, hq, rfl⟩)
      unfold Lib.goodD at this
      rw [Bool.and_eq_true] at this
      rw [sm_at n1 hq]
      exact this.2
  · rintro ⟨hh, ha⟩
    have hm : ∀ s, s ∈ es1.map Prod.fst ↔ s ∈ es2.map Prod.fst := fun s => by
      have := hh s
      rw [sm_has, sm_has] at this
      exact decide_eq_decide.1 this
    refine ⟨Nat.le_antisymm (len_sub _ _ n1 fun x hx => (hm x).1 hx) (len_sub _ _ n2 fun x hx => (hm x).2 hx), fun p hp => ?_⟩
    obtain ⟨q, hq, rfl⟩ := List.mem_map.1 hp
    have hin : q.1 ∈ es1.map Prod.fst := List.mem_map.2 ⟨q, hq, rfl⟩
    unfold Lib.goodD
    have := ha q.1 (by rw [sm_has, decide_eq_true_iff]; exact hin)
    rw [sm_at n1 hq] at this
    rw [Bool.and_eq_true, sm_has, decide_eq_true_iff]
    exact ⟨(hm q.1).1 hin, this⟩
theorem sm_none {D : DataW Unit} (s : List UInt8) (h : Maps.has D (.string s) = false) (zd : DataW Unit) : D.atKey (.string s) zd = zd := Maps.atKey_of_not_has h zd
theorem sm_del {pd : Lit → DataW Unit → Bool} {D : DataW Unit} (h : StrMap D) (s : List UInt8) :
    Maps.has (Lib.deleteFuncD pd D) (.string s) = (Maps.has D (.string s) && !pd (.string s) (D.atKey (.string s) .nil)) ∧ (Maps.has (Lib.deleteFuncD pd D) (.string s) = true → ∀ zd, (Lib.deleteFuncD pd D).atKey (.string s) zd = D.atKey (.string s) .nil) := by
  obtain ⟨es, rfl, hn⟩ := h
  have he : Lib.deleteFuncD pd (DataW.map (es.map fun p => (Lit.string p.1, p.2))) = .map ((es.filter fun p => !pd (.string p.1) p.2).map fun p => (Lit.string p.1, p.2)) := by
    show DataW.map ((es.map _).filter _) = _
    rw [List.filter_map]
    rfl
  have hn2 : ((es.filter fun p => !pd (.string p.1) p.2).map Prod.fst).Nodup := List.Nodup.sublist (List.Sublist.map _ List.filter_sublist) hn
  rw [he]
  refine ⟨?_, fun hh zd => ?_⟩
  · rw [sm_has, sm_has, Bool.eq_iff_iff, decide_eq_true_iff, Bool.and_eq_true, decide_eq_true_iff]
    constructor
    · intro h
      obtain ⟨q, hq, rfl⟩ := List.mem_map.1 h
      obtain ⟨hq1, hq2⟩ := List.mem_filter.1 hq
      exact ⟨List.mem_map.2 ⟨q, hq1, rfl⟩, by rw [sm_at hn hq1]; exact hq2⟩
    · rintro ⟨h, hp⟩
      obtain ⟨q, hq, rfl⟩ := List.mem_map.1 h
      rw [sm_at hn hq] at hp
      exact List.mem_map.2 ⟨q, List.mem_filter.2 ⟨hq, hp⟩, rfl⟩
  · rw [sm_has, decide_eq_true_iff] at hh
    obtain ⟨q, hq, rfl⟩ := List.mem_map.1 hh
    rw [sm_at hn2 hq, sm_at hn (List.mem_filter.1 hq).1]
end Go.Proofs.YtjbjcfnbgcloiaaGreatDoor

/- A model copied: what each step of it does, plainly. -/
namespace Go.Proofs.YtjbjcfnbgcloiaaGreatDoor
open Go.RowKit Nam YtjbjcfnbgcloiaaGreatDoorW.PrintWords

theorem HasM.perm {w : World} {g : Nat} {S S' : St} {n : Nat} {Q F : Nat → Prop} (h : HasM w g S n Q F) (hn : S'.B.Nodup) (hB : ∀ s, s ∈ S'.B ↔ s ∈ S.B) (hV : ∀ s k, S'.V s k = S.V s k) : HasM w g S' n Q F := by
  obtain ⟨mb, D, h1, hf, h2, h3, h4, h5, h6, h7⟩ := h.ex
  have hV2 : S'.V = S.V := funext fun s => funext fun k => hV s k
  refine ⟨h.q, h.f, hn, fun s hs k => ?_, mb, D, h1, hf, h2, h3, ?_, fun s => ?_, fun s hs => ?_, fun s hs s' hs' => h7 s ((hB s).1 hs) s' ((hB s').1 hs')⟩
  · rw [hV]
    exact h.off s (fun e => hs ((hB s).2 e)) k
  · rw [h4]
    exact Nat.le_antisymm (len_sub _ _ h.nd fun x hx => (hB x).2 hx) (len_sub _ _ hn fun x hx => (hB x).1 hx)
  · rw [h5]
    exact decide_eq_decide.2 (hB s).symm
  · rw [hV2]
    exact h6 s ((hB s).1 hs)

/-- What lay below w, and what is no map, stays. -/
structure KeepIt (w V V' : World) : Prop where
  size : V.heap.size ≤ V'.heap.size
  block : ∀ k, k < V.heap.size → (k < w.heap.size ∨ ¬ IsM V k) → V'.heap[k]? = V.heap[k]?
theorem KeepIt.of_below {w V V' : World} (h : Below V.heap.size V V') : KeepIt w V V' := ⟨h.size, fun k hk _ => h.block k hk⟩
def NotMC (w : World) (r : Nat) : Prop := ∃ a b c d, w.heap[r]? = some (.mapIter a b c d)
theorem notMC_not {w : World} {r : Nat} (h : NotMC w r) : ¬ IsM w r ∧ ¬ IsC w r ∧ r < w.heap.size := by
  obtain ⟨a, b, c, d, h⟩ := h
  refine ⟨fun ⟨x, y, e⟩ => ?_, fun ⟨x, y, z, e⟩ => ?_, (Array.getElem?_eq_some_iff.1 h).1⟩
  · rw [h] at e; cases e
  · rw [h] at e; cases e
theorem ranges_iter {w : World} {R : Value → Option (DataW Unit × List MemPlace)} {b r n cnt : Nat} {D : DataW Unit} {left : Lit → Bool} (h : w.ranges Tryz.prog 9 R b r n D left cnt) : NotMC w r := by
  obtain ⟨es, clock, since, seen, c0, _, _, _, _, hr, _⟩ := h
  exact ⟨_, _, _, _, hr⟩
theorem ranges_keep {w V V' : World} {R : Value → Option (DataW Unit × List MemPlace)} {b r n cnt : Nat} {D : DataW Unit} {left : Lit → Bool} (h : V.ranges Tryz.prog 9 R b r n D left cnt) (hk : KeepIt w V V') (hb : b < w.heap.size) : V'.ranges Tryz.prog 9 R b r n D left cnt := by
  have h1 := notMC_not (ranges_iter h)
  have h2 := hk.block r h1.2.2 (.inr h1.1)
  have h3 := hk.block b h.owns.lt (.inl hb)
  obtain ⟨es, clock, since, seen, c0, hb', F, hs, hD, hr, rest⟩ := h
  exact ⟨es, clock, since, seen, c0, h3.trans hb', F, hs, hD, h2.trans hr, rest⟩

/-- The copy under way: its state, in a world that has left all of w. -/
structure CopySt (w : World) (F : Nat → Prop) (go : Nat) (So : St) (no : Nat) (V : World) : Prop where
  below : Below w.heap.size w V
  ex : ∃ Qo Fo, HasM V go So no Qo Fo ∧ (∀ k, Qo k → w.heap.size ≤ k) ∧ (∀ k, Fo k → F k ∨ w.heap.size ≤ k)
theorem CopySt.go_below {w : World} {F : Nat → Prop} {go no : Nat} {So : St} {V V' : World} (h : CopySt w F go So no V) (hb : Below V.heap.size V V') : CopySt w F go So no V' := by
  obtain ⟨h1, Qo, Fo, h2, h3, h4⟩ := h
  exact ⟨h1.trans (hb.mono h1.size), Qo, Fo, h2.below hb, h3, h4⟩
theorem CopySt.iter {w : World} {F : Nat → Prop} {go no : Nat} {So : St} {V V' : World} {r : Nat} (h : CopySt w F go So no V) (hg : V.grownBy V' (some r)) (hr : NotMC V r) (hw : w.heap.size ≤ r) : CopySt w F go So no V' := by
  obtain ⟨h1, Qo, Fo, h2, h3, h4⟩ := h
  obtain ⟨r1, r2, _⟩ := notMC_not hr
  have ne : ∀ k, k < V.heap.size → k ≠ r → V'.heap[k]? = V.heap[k]? := fun k hk hn => hg.block k hk (by simpa using hn)
  refine ⟨⟨hg.os.trans h1.os, hg.tape.trans h1.tape, hg.output.trans h1.output, Nat.le_trans h1.size hg.size, fun k hk => (ne k (Nat.lt_of_lt_of_le hk h1.size) (by omega)).trans (h1.block k hk)⟩, Qo, Fo, h2.kept (fun k hk => ne k (isC_lt (h2.f k hk)) ?_) (fun k hk => ne k (isM_lt (h2.q k hk)) ?_), h3, h4⟩
  · rintro rfl
    exact r2 (h2.f k hk)
  · rintro rfl
    exact r1 (h2.q k hk)
theorem CopySt.bound {w : World} {F : Nat → Prop} {go no no' : Nat} {So : St} {V : World} (h : CopySt w F go So no V) (hn : no ≤ no') : CopySt w F go So no' V := by
  obtain ⟨h1, Qo, Fo, h2, h3, h4⟩ := h
  exact ⟨h1, Qo, Fo, h2.mono hn, h3, h4⟩
/-- A bucket more. -/
theorem CopySt.make {w : World} {F : Nat → Prop} {go no : Nat} {So : St} {V : World} (h : CopySt w F go So no V) {s : List UInt8} (hs : s ∉ So.B) (hl : s.length ≤ maxLen) (hn : no < 1000000) :
    ∃ mbo w7, V.cell? ⟨go, 0, none⟩ = some (.map (some mbo)) ∧ (Instr.mapUpdate 57 (.map (some mbo)) (.string (mkS s)) (.map (some V.heap.size))).run Tryz.prog (V.alloc (.map #[] 0)) = .ok () w7 ∧ CopySt w F go { So with B := So.B ++ [s] } (no + 1) w7 ∧ KeepIt w V w7 := by
  obtain ⟨h1, Qo, Fo, h2, h3, h4⟩ := h
  obtain ⟨mb, D, hO⟩ := h2.ex
  obtain ⟨w7, e1, e2, e3⟩ := (hO.o.alloc (.map #[] 0)).update KS Tryz.underlying57 (by unfold maxLen; omega) (key_str s hl) (show R1 (.map (some V.heap.size)) = some (.lit (.int .i64 V.heap.size), []) from rfl)
  obtain ⟨m1, m2⟩ := made hO h2.q h2.f h2.nd h2.off hs e2 e3
  have hq := h3 mb hO.qm
  refine ⟨mb, w7, (blk_cell hO.c 0).trans rfl, e1, ⟨m2.below h1 h1.size h3, _, Fo, m1, fun k hk => ?_, h4⟩, m2.size, fun k hk hh => ?_⟩
  · rcases hk with hk | rfl
    · exact h3 k hk
    · exact h1.size
  · refine m2.block k hk (fun hQ => ?_)
    rcases hh with hh | hh
    · have := h3 k hQ
      omega
    · exact hh (h2.q k hQ)
/-- A key's versions. -/
theorem CopySt.put {w : World} {F : Nat → Prop} {go no : Nat} {So : St} {V : World} (hF : ∀ k, F k → IsC w k) (h : CopySt w F go So no V) {b : List UInt8} (hb : b ∈ So.B) (hl : b.length ≤ maxLen) (hn : no < 1000000) :
    ∃ mbo ib, (∀ W, Below V.heap.size V W → W.cell? ⟨go, 0, none⟩ = some (.map (some mbo)) ∧ (Instr.lookup 57 (.map (some mbo)) (.string (mkS b)) false).run Tryz.prog W = .ok (.map (some ib)) W) ∧
      ∀ (W : World) (v' : Value) (k : List UInt8) (l : List Kp) (news : List Value), Below V.heap.size V W → k.length ≤ maxLen → W.ownsRow V.heap.size 67 5 v' l.length news → Reps (KpF w F) 5 l news →
        ∃ w7, (Instr.mapUpdate 63 (.map (some ib)) (.string (mkS k)) v').run Tryz.prog W = .ok () w7 ∧ CopySt w F go (So.put b k l) (no + 1) w7 ∧ KeepIt w V w7 ∧ w7.cell? ⟨go, 0, none⟩ = some (.map (some mbo)) ∧ (Instr.lookup 57 (.map (some mbo)) (.string (mkS b)) false).run Tryz.prog w7 = .ok (.map (some ib)) w7 := by
  obtain ⟨h1, Qo, Fo, h2, h3, h4⟩ := h
  obtain ⟨mb, D, hO⟩ := h2.ex
  obtain ⟨ib, hat, hqi, hne, hin⟩ := hO.at_ b hb
  obtain ⟨D2, o2, hv2⟩ := hin
  refine ⟨mb, ib, fun W hW => ?_, fun W v' k l news hW hk ho hr => ?_⟩
  · have hO' := hO.below h2.q h2.f hW
    refine ⟨(blk_cell hO'.c 0).trans rfl, ?_⟩
    obtain ⟨v, ps, hrun, hv⟩ := hO'.o.lookup KS Tryz.underlying57 (zero63 W) (zd := .nil) (zp := []) rfl (key_str b hl)
    rw [hat] at hv
    rw [hrun, R1_one hv (show R1 (.map (some ib)) = some (.lit (.int .i64 ib), []) from rfl)]
  · have oW := ownsMap_kept o2 (hW.block ib (isM_lt (h2.q ib hqi)))
    have hrs := rowV_of_own (F := fun j => F j ∨ v'.ownBlock = some j) ho (reps_mono (reps_kept hr ((below_cells h1 hF).trans (fun j hj => hW.block j (Nat.lt_of_lt_of_le (isC_lt (hF j hj)) h1.size)))) fun j hj => .inl hj) rfl (fun j hj => .inr hj)
    obtain ⟨d, hd⟩ := hrs.r2
    obtain ⟨w7, e1, e2, e3⟩ := oW.update KS Tryz.underlying63 (by unfold maxLen; omega) (key_str k hk) hd
    have hib := h3 ib hqi
    have hmv : Moved (fun j => j = ib) V w7 := (Moved.of_below hW).trans (Moved.of_grown e3 (Q := fun j => j = ib) rfl) (fun i hi => .inl hi)
    have hfk : FKept F w w7 := fun j hj => by
      have hj2 := isC_lt (hF j hj)
      exact (hmv.block j (Nat.lt_of_lt_of_le hj2 h1.size) (by intro e; omega)).trans (h1.block j hj2)
    have ho7 := own_other ho e3 (by
      cases hob : v'.ownBlock with
      | none => exact .inl rfl
      | some j =>
        refine .inr fun e => ?_
        injection e with e
        have := own_base ho j hob
        have := isM_lt (h2.q ib hqi)
        omega)
    have hrow := rowV_of_own (F := fun j => Fo j ∨ F j ∨ v'.ownBlock = some j) ho7 (reps_mono (reps_kept hr hfk) fun j hj => .inr (.inl hj)) rfl (fun j hj => .inr (.inr hj))
    have hck : FKept Fo V w7 := hmv.cells (fun j hj => by subst hj; exact h2.q j hqi) h2.f
    obtain ⟨s1, s2⟩ := stored h2.q h2.f (F' := fun j => Fo j ∨ F j ∨ v'.ownBlock = some j) (fun j hj => .inl hj) (fun j hj => by
      rcases hj with hj | hj | hj
      · obtain ⟨a, b, c, e⟩ := h2.f j hj
        exact ⟨a, b, c, (hck j hj).trans e⟩
      · obtain ⟨a, b, c, e⟩ := hF j hj
        exact ⟨a, b, c, (hfk j hj).trans e⟩
      · obtain ⟨cells, hc⟩ := own_typed ho7 j hj
        exact ⟨_, _, _, hc⟩) h2.nd h2.off hO hb hat hqi hne o2 hv2 hd e2 hmv hrow
    have hm7 := hmv.block mb (isM_lt (h2.q mb hO.qm)) (fun e => hne e.symm)
    have hgo7 := hmv.block go (isC_lt (h2.f go hO.fg)) (fun e => isC_not (h2.f go hO.fg) (by rw [show go = ib from e]; exact h2.q ib hqi))
    refine ⟨w7, e1, ⟨s2.below h1 h1.size h3, _, _, s1, h3, fun j hj => ?_⟩, ⟨s2.size, fun j hj hh => ?_⟩, (blk_cell (hgo7.trans hO.c) 0).trans rfl, ?_⟩
    rotate_left 2
    · obtain ⟨v, ps, hrun, hv⟩ := (ownsMap_kept hO.o hm7).lookup KS Tryz.underlying57 (zero63 w7) (zd := .nil) (zp := []) rfl (key_str b hl)
      rw [hat] at hv
      rw [hrun, R1_one hv (show R1 (.map (some ib)) = some (.lit (.int .i64 ib), []) from rfl)]
    · rcases hj with hj | hj | hj
      · exact h4 j hj
      · exact .inl hj
      · exact .inr (Nat.le_trans h1.size (own_base ho j hj))
    · refine s2.block j hj (fun hQ => ?_)
      rcases hh with hh | hh
      · have := h3 j hQ
        omega
      · exact hh (h2.q j hQ)

/-! ### what the two loops hold -/
/-- The buckets that have come are there, whole. -/
def OutSt (S So : St) (left : Lit → Bool) : Prop := (∀ s, s ∈ So.B ↔ s ∈ S.B ∧ left (.string s) = false) ∧ ∀ s, s ∈ So.B → ∀ k, So.V s k = S.V s k
/-- .. and of bucket s the keys that have come. -/
def InnSt (S So S1 : St) (s : List UInt8) (left : Lit → Bool) : Prop := S1.B = So.B ++ [s] ∧ (∀ t, t ≠ s → ∀ k, S1.V t k = So.V t k) ∧ ∀ k, S1.V s k = if left (.string k) = true then [] else S.V s k
theorem outSt_start {S : St} {has : Lit → Bool} (h : ∀ s, has (.string s) = decide (s ∈ S.B)) : OutSt S St.new has := by
  refine ⟨fun s => ⟨fun e => absurd e List.not_mem_nil, fun ⟨h1, h2⟩ => ?_⟩, fun s e => absurd e List.not_mem_nil⟩
  rw [h, decide_eq_true h1] at h2
  cases h2
theorem innSt_start {S So : St} {s : List UInt8} {has : Lit → Bool} (hoff : ∀ k, So.V s k = []) (h : ∀ k, has (.string k) = false → S.V s k = []) : InnSt S So { So with B := So.B ++ [s] } s has := by
  refine ⟨rfl, fun t _ k => rfl, fun k => ?_⟩
  show So.V s k = _
  rw [hoff]
  cases hk : has (.string k) with
  | true => rw [if_pos rfl]
  | false => rw [if_neg (by simp), h k hk]
theorem innSt_step {S So S1 : St} {s k : List UInt8} {left : Lit → Bool} (h : InnSt S So S1 s left) : InnSt S So (S1.put s k (S.V s k)) s (fun x => left x && !x.sameKey (.string k)) := by
  obtain ⟨h1, h2, h3⟩ := h
  refine ⟨h1, fun t ht k' => ?_, fun k' => ?_⟩
  · show (if t = s ∧ k' = k then _ else S1.V t k') = _
    rw [if_neg (fun e => ht e.1)]
    exact h2 t ht k'
  · show (if s = s ∧ k' = k then _ else S1.V s k') = _
    by_cases e : k' = k
    · subst e
      rw [if_pos ⟨rfl, rfl⟩, if_neg (by simp [WideAt.sameKey_self (isKey_str k')])]
    · rw [if_neg (fun e' => e e'.2), h3]
      have : (Lit.string k').sameKey (.string k) = false := by
        cases hs : (Lit.string k').sameKey (.string k) with
        | false => rfl
        | true =>
          have := WideAt.sameKey_eq hs
          injection this with this
          exact absurd this e
      simp [this]
theorem outSt_step {S So S1 : St} {s : List UInt8} {left left2 : Lit → Bool} (h : OutSt S So left) (hs : s ∈ S.B) (h1 : InnSt S So S1 s left2) (hl : ∀ x, left2 x = false) : OutSt S S1 (fun x => left x && !x.sameKey (.string s)) := by
  obtain ⟨a1, a2⟩ := h
  obtain ⟨b1, b2, b3⟩ := h1
  have hne : ∀ t, t ≠ s → (Lit.string t).sameKey (.string s) = false := fun t ht => by
    cases hk : (Lit.string t).sameKey (.string s) with
    | false => rfl
    | true =>
      have := WideAt.sameKey_eq hk
      injection this with this
      exact absurd this ht
  refine ⟨fun t => ?_, fun t ht k => ?_⟩
  · rw [b1, List.mem_append, List.mem_singleton]
    by_cases e : t = s
    · subst e
      simp [WideAt.sameKey_self (isKey_str t), hs]
    · simp [hne t e, e, a1 t]
  · by_cases e : t = s
    · subst e
      rw [b3, hl]
      simp
    · rw [b2 t e]
      rw [b1, List.mem_append, List.mem_singleton] at ht
      exact a2 t (ht.resolve_right e) k
theorem outSt_end {S So : St} {left : Lit → Bool} (h : OutSt S So left) (hl : ∀ x, left x = false) (off : ∀ s, s ∉ S.B → ∀ k, S.V s k = []) (off' : ∀ s, s ∉ So.B → ∀ k, So.V s k = []) : (∀ s, s ∈ S.B ↔ s ∈ So.B) ∧ ∀ s k, S.V s k = So.V s k := by
  have hB : ∀ s, s ∈ S.B ↔ s ∈ So.B := fun s => by
    rw [h.1 s, hl]
    simp
  refine ⟨hB, fun s k => ?_⟩
  by_cases e : s ∈ So.B
  · exact (h.2 s e k).symm
  · rw [off' s e, off s (fun e' => e ((hB s).1 e'))]
end Go.Proofs.YtjbjcfnbgcloiaaGreatDoor

/- Copy of package model. -/
namespace Go.Proofs.YtjbjcfnbgcloiaaGreatDoor
open Go.RowKit Nam YtjbjcfnbgcloiaaGreatDoorW.PrintWords

theorem key_inv : ∀ key kl, keyOf Tryz.prog 9 key = some kl → ∃ x : List UInt8, key = .string (mkS x) := fun key kl h => by
  obtain ⟨s, rfl, _, _⟩ := WideMaps.string_of_keyOf Tryz.underlying9 h
  exact ⟨s.data.toList, by rw [mkS_of]⟩
theorem key_is_ {s : List UInt8} {kl : Lit} (h : keyOf Tryz.prog 9 (.string (mkS s)) = some kl) : s.length ≤ maxLen ∧ kl = .string s := by
  obtain ⟨s', e, rfl, hs⟩ := WideMaps.string_of_keyOf Tryz.underlying9 h
  injection e with e
  subst e
  exact ⟨by rw [mkS_size] at hs; exact hs, by rw [mkS_list]⟩
theorem r1_inv : ∀ v (y : DataW Unit × List MemPlace), R1 v = some y → ∃ p : Option Nat, v = .map p := fun v y h => by
  rcases R1_inv (show R1 v = some (y.1, y.2) from h) with ⟨e, _⟩ | ⟨b, e, _⟩
  · exact ⟨_, e⟩
  · exact ⟨_, e⟩
theorem r2_inv : ∀ v (y : DataW Unit × List MemPlace), R2 v = some y → ∃ q : Option Addr × Nat × Nat, v = .slice q.1 q.2.1 q.2.2 := fun v y h => by
  rcases R2_inv (show R2 v = some (y.1, y.2) from h) with ⟨e, _⟩ | ⟨g, n, c, e, _⟩
  · exact ⟨(none, 0, 0), e⟩
  · exact ⟨(some ⟨g, 0, none⟩, n, c), e⟩
theorem outer_came {w : World} {g n mb : Nat} {S : St} {Q F : Nat → Prop} {D : DataW Unit} (h : Outer w g S n Q F mb D) (hq : ∀ k, Q k → IsM w k) {s : List UInt8} {kl : Lit} {p : Option Nat} {y : DataW Unit × List MemPlace} (hkey : keyOf Tryz.prog 9 (.string (mkS s)) = some kl) (hv : R1 (.map p) = some y) (hat : ∀ zd, D.atKey kl zd = y.1) :
    s.length ≤ maxLen ∧ kl = .string s ∧ s ∈ S.B ∧ ∃ ib D2, p = some ib ∧ ib < w.heap.size ∧ w.ownsMap Tryz.prog 9 R2 ib n D2 ∧ ∀ k, ∃ v ps, R2 v = some (D2.atKey (.string k) .nil, ps) ∧ RowV w F v (S.V s k) := by
  obtain ⟨hl, rfl⟩ := key_is_ hkey
  have hh := Maps.has_true_of_atKey hat
  rw [h.hs, decide_eq_true_iff] at hh
  obtain ⟨b, e1, e2, _, D2, e4, e5⟩ := h.at_ s hh
  refine ⟨hl, rfl, hh, b, D2, ?_, isM_lt (hq b e2), e4, e5⟩
  rw [hat .nil] at e1
  have := R1_one (show R1 (.map p) = some (y.1, y.2) from hv) (show R1 (.map (some b)) = some (y.1, []) by rw [e1]; rfl)
  injection this
theorem inner_came {w : World} {F : Nat → Prop} {D2 : DataW Unit} {f : List UInt8 → List Kp} (h : ∀ k, ∃ v ps, R2 v = some (D2.atKey (.string k) .nil, ps) ∧ RowV w F v (f k)) {k : List UInt8} {kl : Lit} {v : Value} {y : DataW Unit × List MemPlace} (hkey : keyOf Tryz.prog 9 (.string (mkS k)) = some kl) (hv : R2 v = some y) (hat : ∀ zd, D2.atKey kl zd = y.1) :
    k.length ≤ maxLen ∧ kl = .string k ∧ RowV w F v (f k) := by
  obtain ⟨hl, rfl⟩ := key_is_ hkey
  obtain ⟨v', ps, e1, e2⟩ := h k
  rw [hat .nil] at e1
  rw [R2_one (show R2 v = some (y.1, y.2) from hv) e1]
  exact ⟨hl, rfl, e2⟩
theorem inner_off {w : World} {F : Nat → Prop} {D2 : DataW Unit} {f : List UInt8 → List Kp} (h : ∀ k, ∃ v ps, R2 v = some (D2.atKey (.string k) .nil, ps) ∧ RowV w F v (f k)) (k : List UInt8) (hk : Maps.has D2 (.string k) = false) : f k = [] := by
  obtain ⟨v', ps, e1, e2⟩ := h k
  rw [sm_none k hk] at e1
  have := R2_one e1 (show R2 (.slice none 0 0) = some (.nil, []) from rfl)
  subst this
  obtain ⟨A, c, e, _⟩ := e2.slice
  injection e with _ e _
  exact List.length_eq_zero_iff.1 e.symm
theorem kclone_cl (w V : World) (F : Nat → Prop) (v : Value) (l : List Kp) (hF : ∀ k, F k → IsC w k) (hl : l.length ≤ 1000) (h : RowV w F v l) (hw : Below w.heap.size w V) :
    ∃ news, Reps (KpF w F) 5 l news ∧ ∀ W, Below V.heap.size V W → Calls Tryz.prog 21 #[v] W fun e w' => (∃ v', e = .returned v' ∧ Hid (w'.ownsRow V.heap.size 67 5 v' l.length news)) ∧ Below V.heap.size V w' := by
  obtain ⟨news, h1, h2⟩ := h
  refine ⟨news, h2, fun W hW => ?_⟩
  have hw2 := hw.trans (hW.mono hw.size)
  refine (kclone_at W F v news l.length hl h2.1 (reps_ones h2) (h1.kept (below_cells hw2 hF))).mono fun e w' ⟨⟨v', he, ho⟩, hb⟩ => ⟨⟨v', he, own_weaken ho hW.size⟩, hW.trans (hb.mono hW.size)⟩

def CopyIs (S : St) (n : Nat) (F : Nat → Prop) (w : World) (e : Ending) (w' : World) : Prop :=
  (∃ g' Q' F', e = .returned (.pointer (some ⟨g', 0, none⟩)) ∧ HasM w' g' S (n * (n + 2)) Q' F' ∧ (∀ k, Q' k → w.heap.size ≤ k) ∧ ∀ k, F' k → F k ∨ w.heap.size ≤ k) ∧ Below w.heap.size w w'
theorem copy_fin {w V : World} {g go no n : Nat} {S So : St} {Q F : Nat → Prop} {left : Lit → Bool} (hm : HasM w g S n Q F) (h : CopySt w F go So no V) (ho : OutSt S So left) (hl : ∀ x, left x = false) (hn : no ≤ n * (n + 2)) : CopyIs S n F w (.returned (.pointer (some ⟨go, 0, none⟩))) V := by
  obtain ⟨h1, Qo, Fo, h2, h3, h4⟩ := h
  obtain ⟨e1, e2⟩ := outSt_end ho hl hm.off h2.off
  exact ⟨⟨go, Qo, Fo, rfl, (h2.perm hm.nd e1 e2).mono hn, h3, h4⟩, h1⟩
theorem cnt_step {no n1 cnt cnt3 n : Nat} (h : no + cnt * (n + 2) ≤ n * (n + 2)) (h3 : cnt3 < cnt) (h1 : n1 ≤ no + 1 + n) : n1 + cnt3 * (n + 2) ≤ n * (n + 2) := by
  have : (cnt3 + 1) * (n + 2) ≤ cnt * (n + 2) := Nat.mul_le_mul_right _ h3
  rw [Nat.succ_mul] at this
  omega
theorem cnt_le {no cnt n : Nat} (h : no + cnt * (n + 2) ≤ n * (n + 2)) (hn : n ≤ 300) : no < 100000 := by
  have : n * (n + 2) ≤ 300 * (300 + 2) := Nat.mul_le_mul hn (by omega)
  omega

set_option maxHeartbeats 4000000 in
set_option maxRecDepth 100000 in
theorem copy_is (w : World) (g : Nat) (S : St) (n : Nat) (Q F : Nat → Prop) (hn : n ≤ 300) (hl : ∀ b k, (S.V b k).length ≤ 1000) (hm : HasM w g S n Q F) :
    Calls Tryz.prog 9 #[.pointer (some ⟨g, 0, none⟩)] w (CopyIs S n F w) := by
  obtain ⟨mb, D, hO⟩ := hm.ex
  have hmb : mb < w.heap.size := isM_lt (hm.q mb hO.qm)
  have HCm : Hid (∀ V, Below w.heap.size w V → V.cell? ⟨g, 0, none⟩ = some (.map (some mb)) ∧ V.ownsMap Tryz.prog 9 R1 mb n D) := fun V hV => by
    have hO' := hO.below hm.q hm.f hV
    exact ⟨(blk_cell hO'.c 0).trans rfl, hO'.o⟩
  have HNew : Hid (Calls Tryz.prog 7 #[] w fun e w' => (∃ go, e = .returned (.pointer (some ⟨go, 0, none⟩)) ∧ Hid (CopySt w F go St.new 0 w')) ∧ Below w.heap.size w w') :=
    (new_is w).mono fun e w' ⟨⟨g', Q', F', he, h1, h2, h3⟩, hb⟩ => ⟨⟨g', he, hb, Q', F', h1, h2, fun k hk => .inr (h3 k hk)⟩, hb⟩
  have HM := Lib.hid hm
  have HOO := Lib.hid hO
  have HL := Lib.hid hl
  have hmm := @run_makeMap Tryz.prog
  have hsz0 : Maps.size D ≤ n := hO.o.size_le
  have HSZ := Lib.hid hsz0
  clear hO hm hl hsz0
  go_enter Tryz.func9, Tryz.ntmps9
  go_wp2_with (first | (go_at_call 7; refine HNew.out.mono ?_; rintro e w1 ⟨⟨go, rfl, HS1⟩, hb1⟩; obtain ⟨c1, o1⟩ := HCm.out w1 hb1) | (at_range; refine wpList_range_own _ rfl _ 57 rfl 9 63 KS Tryz.underlying57 R1 mb n D rfl o1 ?_; intro w2 hrg2 hg2 hs2))
  obtain ⟨r, hr⟩ : ∃ r, w1.heap.size = r := ⟨_, rfl⟩
  have hwr : w.heap.size ≤ r := by rw [← hr]; exact hb1.size
  rw [hr] at hrg2 ⊢
  have HS2 : Hid (CopySt w F go St.new 0 w2) := HS1.out.go_below (grown_below' hg2)
  clear HS1 hb1 c1 o1 hg2 hs2 hr
  go_frame
  go_loopw [16] (fun _ wr => ∃ (So : St) (no : Nat) (left : Lit → Bool) (cnt : Nat), Hid (CopySt w F go So no wr) ∧ wr.ranges Tryz.prog 9 R1 mb r n D left cnt ∧ Hid (OutSt S So left ∧ no + cnt * (n + 2) ≤ n * (n + 2))) (fun _ wr => wr.rangeLeft mb r)
  case atStart => exact ⟨St.new, 0, _, _, HS2, hrg2, outSt_start HOO.out.hs, by rw [Nat.zero_add]; exact Nat.mul_le_mul_right _ HSZ.out⟩
  case round =>
    clear HS2 hrg2
    obtain ⟨So, no, left, cnt, HS, hrg, HO⟩ := hrel
    obtain ⟨wo, rfl⟩ : ∃ wo : World, wo = wr := ⟨_, rfl⟩
    go_wp2_with (at_next; refine wpList_next_ranges _ rfl _ rfl 9 KS R1 (fun s : List UInt8 => .string (mkS s)) (fun p : Option Nat => .map p) key_inv r1_inv mb r n D left cnt rfl hrg ?_ ?_)
    · intro h0 hl0
      have HL0 := Lib.hid hl0
      clear hl0
      go_wp2
      go_ret
      exact copy_fin HM.out HS.out HO.out.1 HL0.out (by have := HO.out.2; omega)
    · intro s p kl yd yp w3 cnt3 hkey hlk hv hat hrg3 hlt hg3 hs3 hen
      obtain ⟨hsl, rfl, hsB, ib, D2, rfl, hib, o2, hv2⟩ := outer_came HOO.out HM.out.q hkey hv hat
      have hit := ranges_iter hrg
      have HS3 := HS.out.iter hg3 hit hwr
      have hsno : s ∉ So.B := fun e => by
        have := ((HO.out.1.1 s).1 e).2
        rw [hlk] at this
        cases this
      obtain ⟨mbo, w7, k1, k2, HS7, hk7⟩ := HS3.make hsno hsl (Nat.lt_of_lt_of_le (cnt_le HO.out.2 hn) (by omega))
      have hrg7 := ranges_keep hrg3 hk7 hmb
      have o7 := ownsMap_kept o2 ((HS7.below).block ib hib)
      have HS7h := Lib.hid HS7
      have HIB := Lib.hid hib
      have HV2 := Lib.hid hv2
      have HSB := Lib.hid hsB
      have HSL := Lib.hid hsl
      have HHAT := Lib.hid hsno
      have HLT := Lib.hid hlt
      have HOW := Lib.hid o2
      clear hkey hlk hv hat hrg3 hg3 hs3 hit HS3 hsno HS7 hk7 hsB hsl hib hv2 o2 hlt
      go_wp2_with (at_range; refine wpList_range_own _ rfl _ 63 rfl 9 64 KS Tryz.underlying63 R2 ib n D2 rfl o7 ?_; intro w8 hrg8 hg8 hs8)
      go_frame
      obtain ⟨r2, hr2⟩ : ∃ r2, w7.heap.size = r2 := ⟨_, rfl⟩
      rw [hr2] at hrg8 ⊢
      have hwr2 : w.heap.size ≤ r2 := by rw [← hr2]; exact HS7h.out.below.size
      have hne2 : r ≠ r2 := by
        have := (notMC_not (ranges_iter hrg7)).2.2
        omega
      have hsz2 : Maps.size D2 ≤ n := HOW.out.size_le
      have HSZ2 := Lib.hid hsz2
      have HS8 : Hid (CopySt w F go { So with B := So.B ++ [s] } (no + 1) w8) := HS7h.out.go_below (grown_below' hg8)
      have hrg8o := hrg7.kept hg8 (by simp) (by simp)
      have HNE2 := Lib.hid hne2
      clear hg8 hs8 hrg7 hr2 hne2 hsz2 o7 k1 k2 hen
      go_loopw [29] (fun _ wr => ∃ (S1 : St) (n1 : Nat) (left2 : Lit → Bool) (cnt2 : Nat), Hid (CopySt w F go S1 n1 wr) ∧ wr.ranges Tryz.prog 9 R1 mb r n D (fun z => left z && !z.sameKey (.string s)) cnt3 ∧ wr.ranges Tryz.prog 9 R2 ib r2 n D2 left2 cnt2 ∧ Hid (InnSt S So S1 s left2 ∧ n1 + cnt2 ≤ no + 1 + n)) (fun _ wr => wr.rangeLeft ib r2)
      case atStart =>
        refine ⟨_, _, _, _, HS8, hrg8o, hrg8, (show Hid _ from ⟨innSt_start (fun k => ?_) (fun k hk => inner_off HV2.out k hk), ?_⟩)⟩
        · obtain ⟨Qo, Fo, h2, _⟩ := HS.out.ex
          exact h2.off s HHAT.out k
        · have := HSZ2.out
          omega
      case round =>
        clear HS8 hrg8o hrg8
        obtain ⟨S1, n1, left2, cnt2, HS1, hro, hri, HI⟩ := hrel
        obtain ⟨wi, rfl⟩ : ∃ wi : World, wi = wr := ⟨_, rfl⟩
        go_wp2_with (at_next; refine wpList_next_ranges _ rfl _ rfl 9 KS R2 (fun k : List UInt8 => .string (mkS k)) (fun q : Option Addr × Nat × Nat => .slice q.1 q.2.1 q.2.2) key_inv r2_inv ib r2 n D2 left2 cnt2 rfl hri ?_ ?_)
        · intro h0 hl0
          have HL0 := Lib.hid hl0
          clear hl0
          go_wp2
          go_roundw
          case rel => exact ⟨S1, n1, _, cnt3, HS1, hro, outSt_step HO.out.1 HSB.out HI.out.1 HL0.out, cnt_step HO.out.2 HLT.out (by have := HI.out.2; omega)⟩
          case measure => rw [hro.left_eq, hrg.left_eq]; exact HLT.out
        · intro k A m c kl yd yp w9 cnt4 hkey hlk hv hat hri9 hlt2 hg9 hs9 hen2
          obtain ⟨hkl, rfl, hrow⟩ := inner_came HV2.out hkey hv hat
          have HS9 := HS1.out.iter hg9 (ranges_iter hri) hwr2
          have hro9 := hro.kept hg9 (by intro e; injection e with e; omega) (by intro e; injection e with e; exact HNE2.out e)
          have hno := cnt_le HO.out.2 hn
          obtain ⟨mbo2, ib2, p1, p2⟩ := HS9.put HM.out.f (b := s) (by rw [HI.out.1.1]; simp) HSL.out (by have := HI.out.2; omega)
          obtain ⟨news, hr1, hcl⟩ := kclone_cl w w9 F _ (S.V s k) HM.out.f (HL.out s k) hrow HS9.below
          have HQ := Lib.hid p1
          have HC := Lib.hid hcl
          have HU : Hid (∀ W v', Below w9.heap.size w9 W → W.ownsRow w9.heap.size 67 5 v' (S.V s k).length news → ∃ w7, (Instr.mapUpdate 63 (.map (some ib2)) (.string (mkS k)) v').run Tryz.prog W = .ok () w7 ∧ Hid (CopySt w F go (S1.put s k (S.V s k)) (n1 + 1) w7) ∧ Hid (KeepIt w w9 w7) ∧ w7.cell? ⟨go, 0, none⟩ = some (.map (some mbo2)) ∧ (Instr.lookup 57 (.map (some mbo2)) (.string (mkS s)) false).run Tryz.prog w7 = .ok (.map (some ib2)) w7) := fun W v' hW ho => p2 W v' k _ news hW hkl ho hr1
          have HLT2 := Lib.hid hlt2
          have hb9 : Below w9.heap.size w9 w9 := Below.refl _ _
          have hb9d : Below w9.heap.size w9 w9.drew := (Below.refl _ _).drew
          clear hkey hlk hv hat hg9 hs9 hkl hrow hro hno p1 p2 hr1 hcl hlt2 HS9
          go_wp2_with fail
          go_region_held3 (fun V => V.cell? ⟨go, 0, none⟩ = some (.map (some mbo2)) ∧ (Instr.lookup 57 (.map (some mbo2)) (.string (mkS s)) false).run Tryz.prog V = .ok (.map (some ib2)) V) (first | exact HQ.out _ (by assumption) | exact ⟨HC11, HL11⟩) ((go_at_call 21; refine (HC.out _ (by assumption)).mono ?_; rintro e w10 ⟨⟨v', rfl, HOW'⟩, hb10⟩; obtain ⟨w11, run11, HS11, HK11, HC11, HL11⟩ := HU.out _ v' hb10 HOW'.out))
          all_goals
            have HRo := Lib.hid (ranges_keep hro9 HK11.out hmb)
            have HRi := Lib.hid (ranges_keep hri9 HK11.out HIB.out)
            go_roundw
            case rel => exact ⟨_, _, _, _, _, _, _, _, _, _, _, _, _, _, _, _, ⟨_, _, _, cnt4, HS11, HRo.out, HRi.out, (show Hid _ from ⟨innSt_step HI.out.1, by have := HI.out.2; have := HLT2.out; omega⟩)⟩, rfl⟩
            case measure => rw [HRi.out.left_eq, hri.left_eq]; exact HLT2.out
end Go.Proofs.YtjbjcfnbgcloiaaGreatDoor
