/- Rows and maps of versions read in one way; two maps held against each other, plainly. -/
import Derived.Test.YtjbjcfnbgcloiaaGreatDoorCq6
import Derived.Laws.EntriesVeiled
import Derived.Lib.SlBytesConst
import Derived.Sort.LotA
import Derived.Sort.Lot0
import Derived.Test.YtjbjcfnbgcloiaaGreatDoorRows
import Derived.Shelf.SlSortCmp.KitK
import Derived.WalkKit
import Derived.ProofKit
import Derived.OpenShut
import Derived.Lib.Hide
import Derived.Handy
set_option linter.unusedSimpArgs false
set_option linter.unusedVariables false

namespace Go.Proofs.YtjbjcfnbgcloiaaGreatDoor
open Go.RowKit Nam YtjbjcfnbgcloiaaGreatDoorW.PrintWords

theorem below_grown {w w' : World} (h : Below w.heap.size w w') : w.grownBy w' none := ⟨h.os, h.tape, h.output, h.size, fun k hk _ => h.block k hk⟩
theorem grown_below' {w w' : World} (h : w.grownBy w' none) : Below w.heap.size w w' := ⟨h.os, h.tape, h.output, h.size, fun k hk => h.block k hk (by simp)⟩
theorem ints_inj {w : World} {A : Option Addr} {n : Nat} {a b : List Int} (ha : (Kd.int .u8).C w A n a) (hb : (Kd.int .u8).C w A n b) (h1 : a.length = n) (h2 : b.length = n) : a = b := by
  apply List.ext_getElem (by omega)
  intro i hi hi2
  obtain ⟨ad, e, hc⟩ := Kd.at_int ha (i : Int) (by omega) (by omega)
  obtain ⟨ad', e', hc'⟩ := Kd.at_int hb (i : Int) (by omega) (by omega)
  rw [e] at e'
  injection e' with e'
  subst e'
  rw [hc] at hc'
  injection hc' with hc'
  injection hc' with _ hc'
  unfold rd at hc'
  simpa [List.getD_eq_getElem?_getD, hi, hi2] using hc'
theorem datF_inj {w : World} {F F' : Nat → Prop} {A : Option Addr} {l m : List UInt8} (h : DatF w F A l) (h2 : DatF w F' A m) (hn : l.length = m.length) : l = m :=
  byN_inj (ints_inj h.now (by rw [hn]; exact h2.now) (byN_length l) (by rw [byN_length, hn]))
theorem rowV_inj {w : World} {F F' : Nat → Prop} {v : Value} {l m : List Kp} (h : RowV w F v l) (h2 : RowV w F' v m) : l = m := by
  obtain ⟨A, c, hv, _⟩ := h.slice
  obtain ⟨A2, c2, hv2, _⟩ := h2.slice
  have hlen : l.length = m.length := by
    rw [hv] at hv2
    injection hv2 with _ hv2 _
  by_cases h0 : l = []
  · subst h0
    exact (List.length_eq_zero_iff.1 (by rw [← hlen]; rfl)).symm
  · obtain ⟨news, h1, _⟩ := id h
    rcases h1 with ⟨_, e0, _⟩ | ⟨g, c, rfl, _⟩
    · exact absurd (List.length_eq_zero_iff.1 e0) h0
    apply List.ext_getElem hlen
    intro j hj hj2
    obtain ⟨A, c1, _, d1, f1⟩ := h.at_ j (List.getElem?_eq_getElem hj)
    obtain ⟨B, c2, _, d2, f2⟩ := h2.at_ j (List.getElem?_eq_getElem hj2)
    generalize l[j] = x at d1 f1
    generalize m[j] = y at d2 f2
    have e0 := (f1 0 _ rfl).symm.trans (f2 0 _ rfl)
    have e1 := (f1 1 _ rfl).symm.trans (f2 1 _ rfl)
    have e2 := (f1 2 _ rfl).symm.trans (f2 2 _ rfl)
    have e3 := (f1 3 _ rfl).symm.trans (f2 3 _ rfl)
    have e4 := (f1 4 _ rfl).symm.trans (f2 4 _ rfl)
    simp only [Option.some.injEq, Value.int.injEq, Value.bool.injEq, Value.slice.injEq, true_and] at e0 e1 e2 e3 e4
    obtain ⟨rfl, e5, _⟩ := e4
    have e6 := datF_inj d1 d2 e5
    cases x; cases y
    simp only at e0 e1 e2 e3 e6
    subst e0; subst e1; subst e2; subst e3; subst e6
    rfl

theorem key_isStr {v : Value} {kl : Lit} (h : keyOf Tryz.prog 9 v = some kl) : ∃ s, kl = .string s := by
  exact (WideMaps.string_law Tryz.underlying9).str h
theorem ownsMap_re {w : World} {R R' : Value → Option (DataW Unit × List MemPlace)} {b n : Nat} {D : DataW Unit} (h : w.ownsMap Tryz.prog 9 R b n D)
    (hs : ∀ s v yd yp, R v = some (yd, yp) → (∀ zd, D.atKey (.string s) zd = yd) → R' v = some (yd, yp)) : w.ownsMap Tryz.prog 9 R' b n D := by
  obtain ⟨es, hE, hap, hkeys⟩ := h.entries KS
  obtain ⟨es0, clock, hb, F, hle, hD⟩ := h
  have hst : ∀ x ∈ es0.toList, ∀ z, R x.val = some z → R' x.val = some z := by
    intro x hx z hz
    obtain ⟨y, hy⟩ := F.reads x hx
    obtain ⟨z', hz', e2⟩ := WideElems.rd_val hy
    obtain rfl : z = z' := Option.some.inj (hz.symm.trans hz')
    obtain ⟨s, hs'⟩ := key_isStr (WideElems.rd_key hy)
    have hmem : y ∈ es := by
      rw [hD] at hE
      injection hE with hE
      rw [← hE]
      exact mem_sorted.2 (List.mem_map.2 ⟨x, hx, WideElems.rg_of hy⟩)
    refine hs s x.val z.1 z.2 hz (fun zd => ?_)
    rw [hE, ← hs']
    exact (WideAt.atKey_mem zd (hkeys y hmem) hap hmem).trans e2
  obtain ⟨F', hmap, _⟩ := F.stay hst
  exact ⟨es0, clock, hb, F', hle, by rw [hmap]; exact hD⟩
open Classical in
noncomputable def Rrow (w : World) (F : Nat → Prop) (v : Value) : Option (DataW Unit × List MemPlace) := if (∃ l, RowV w F v l ∧ l.length ≤ 1000) then R2 v else none
theorem Rrow_of {w : World} {F : Nat → Prop} {v : Value} {l : List Kp} (h : RowV w F v l) (hl : l.length ≤ 1000) : Rrow w F v = R2 v := if_pos ⟨l, h, hl⟩
theorem Rrow_inv {w : World} {F : Nat → Prop} {v : Value} {z : DataW Unit × List MemPlace} (h : Rrow w F v = some z) : R2 v = some z ∧ ∃ l, RowV w F v l ∧ l.length ≤ 1000 := by
  unfold Rrow at h
  split at h
  · rename_i hl
    exact ⟨h, hl⟩
  · cases h
open Classical in
noncomputable def rowOf (w : World) (F : Nat → Prop) (d : DataW Unit) : List Kp := if h : ∃ l v ps, R2 v = some (d, ps) ∧ RowV w F v l then h.choose else []
theorem rowOf_eq {w : World} {F : Nat → Prop} {d : DataW Unit} {v : Value} {ps : List MemPlace} {l : List Kp} (hv : R2 v = some (d, ps)) (hr : RowV w F v l) : rowOf w F d = l := by
  have h : ∃ l v ps, R2 v = some (d, ps) ∧ RowV w F v l := ⟨l, v, ps, hv, hr⟩
  unfold rowOf
  rw [dif_pos h]
  obtain ⟨v', ps', h1, h2⟩ := h.choose_spec
  rw [R2_one h1 hv] at h2
  exact rowV_inj h2 hr
theorem inner_inj {w : World} {F F' : Nat → Prop} {b n n' : Nat} {f f' : List UInt8 → List Kp} (h : InnerM w F b n f) (h' : InnerM w F' b n' f') : f = f' := by
  obtain ⟨D, ⟨es, clock, hb, F1, _, hD⟩, h2⟩ := h
  obtain ⟨D', ⟨es', clock', hb', F1', _, hD'⟩, h2'⟩ := h'
  rw [hb] at hb'
  injection hb' with hb'
  injection hb' with e1 _
  subst e1
  rw [← hD] at hD'
  subst hD'
  funext s
  obtain ⟨v, ps, h3, h4⟩ := h2 s
  obtain ⟨v', ps', h3', h4'⟩ := h2' s
  rw [R2_one h3 h3'] at h4
  exact rowV_inj h4 h4'

theorem len_sub {α : Type} [DecidableEq α] : ∀ (l m : List α), l.Nodup → (∀ x ∈ l, x ∈ m) → l.length ≤ m.length
  | [], _, _, _ => Nat.zero_le _
  | a :: l, m, hn, hs => by
    have ha := hs a List.mem_cons_self
    have h1 := len_sub l (m.erase a) (List.nodup_cons.1 hn).2 (fun x hx => (List.mem_erase_of_ne (fun e => (List.nodup_cons.1 hn).1 (by rw [← e]; exact hx))).2 (hs x (List.mem_cons_of_mem _ hx)))
    have h2 := List.length_erase_of_mem ha
    have h3 := List.length_pos_of_mem ha
    simp only [List.length_cons]
    omega
theorem sub_back {α : Type} [DecidableEq α] : ∀ (l m : List α), l.Nodup → (∀ x ∈ l, x ∈ m) → m.Nodup → m.length ≤ l.length → ∀ x ∈ m, x ∈ l
  | [], m, _, _, _, hl, x, hx => by
    have := List.length_pos_of_mem hx
    have h0 : m.length ≤ 0 := hl
    omega
  | a :: l, m, hn, hs, hm, hl, x, hx => by
    by_cases e : x = a
    · rw [e]; exact List.mem_cons_self
    · have ha := hs a List.mem_cons_self
      have h2 := List.length_erase_of_mem ha
      have h3 := List.length_pos_of_mem ha
      refine List.mem_cons_of_mem _ (sub_back l (m.erase a) (List.nodup_cons.1 hn).2 (fun y hy => (List.mem_erase_of_ne (fun e => (List.nodup_cons.1 hn).1 (by rw [← e]; exact hy))).2 (hs y (List.mem_cons_of_mem _ hy))) (hm.erase a) ?_ x ((List.mem_erase_of_ne e).2 hx))
      simp only [List.length_cons] at hl
      omega
def StrMap (D : DataW Unit) : Prop := ∃ es : List (List UInt8 × DataW Unit), D = .map (es.map fun p => (Lit.string p.1, p.2)) ∧ (es.map Prod.fst).Nodup
theorem strMap_of {w : World} {R : Value → Option (DataW Unit × List MemPlace)} {b n : Nat} {D : DataW Unit} (h : w.ownsMap Tryz.prog 9 R b n D) : StrMap D := by
  obtain ⟨es, hE, hap, _⟩ := h.entries KS
  have hst : ∀ p ∈ es, ∃ s, p.1 = Lit.string s := by
    obtain ⟨es0, clock, hb, F, hle, hD⟩ := h
    intro p hp
    rw [hD] at hE
    injection hE with hE
    rw [← hE] at hp
    obtain ⟨x, hx, rfl⟩ := List.mem_map.1 (mem_sorted.1 hp)
    obtain ⟨y, hy⟩ := F.reads x hx
    rw [WideElems.rg_of hy]
    exact key_isStr (WideElems.rd_key hy)
  clear h
  subst hE
  let g : Lit × DataW Unit → List UInt8 × DataW Unit := fun p => ((match p.1 with | .string s => s | _ => []), p.2)
  have hg : ∀ p ∈ es, (Lit.string (g p).1, (g p).2) = p := fun p hp => by
    obtain ⟨s, hs⟩ := hst p hp
    obtain ⟨a, b⟩ := p
    simp only at hs
    subst hs
    rfl
  refine ⟨es.map g, ?_, ?_⟩
  · congr 1
    rw [List.map_map]
    exact ((List.map_congr_left (g := id) fun p hp => hg p hp).trans (List.map_id _)).symm
  · rw [List.map_map]
    refine List.pairwise_map.2 ((List.Pairwise.and_mem.1 hap).imp fun {p q} h e => h.2.2 ?_)
    rw [← hg p h.1, ← hg q h.2.1]
    exact congrArg Lit.string e
theorem inner_row {w : World} {F : Nat → Prop} {b n : Nat} {f : List UInt8 → List Kp} (h : InnerM w F b n f) :
    ∃ D, w.ownsMap Tryz.prog 9 R2 b n D ∧ StrMap D ∧ ∀ s, ∃ v ps, R2 v = some (D.atKey (.string s) .nil, ps) ∧ RowV w F v (f s) := by
  obtain ⟨D, h1, h2⟩ := h
  exact ⟨D, h1, strMap_of h1, h2⟩
theorem sm_has {es : List (List UInt8 × DataW Unit)} (s : List UInt8) : Maps.has (DataW.map (es.map fun p => (Lit.string p.1, p.2))) (.string s) = decide (s ∈ es.map Prod.fst) := by
  show (es.map fun p => (Lit.string p.1, p.2)).any (fun p => p.1.sameKey (.string s)) = _
  rw [Bool.eq_iff_iff, List.any_eq_true, decide_eq_true_iff]
  constructor
  · rintro ⟨p, hp, h⟩
    obtain ⟨q, hq, rfl⟩ := List.mem_map.1 hp
    have := WideAt.sameKey_eq h
    simp only [Lit.string.injEq] at this
    rw [← this]
    exact List.mem_map.2 ⟨q, hq, rfl⟩
  · intro h
    obtain ⟨q, hq, rfl⟩ := List.mem_map.1 h
    exact ⟨(Lit.string q.1, q.2), List.mem_map.2 ⟨q, hq, rfl⟩, WideAt.sameKey_self (isKey_str q.1)⟩
theorem sm_at {es : List (List UInt8 × DataW Unit)} (hn : (es.map Prod.fst).Nodup) {q : List UInt8 × DataW Unit} (hq : q ∈ es) (zd : DataW Unit) : (DataW.map (es.map fun p => (Lit.string p.1, p.2))).atKey (.string q.1) zd = q.2 := by
  refine WideAt.atKey_mem zd (isKey_str q.1) ?_ (List.mem_map.2 ⟨q, hq, rfl⟩)
  refine List.pairwise_map.2 ((List.pairwise_map.1 hn).imp fun {a b} h e => h ?_)
  simpa using e
theorem equalFunc_iff {eqd : DataW Unit → DataW Unit → Bool} {D1 D2 : DataW Unit} (h1 : StrMap D1) (h2 : StrMap D2) :
    Lib.equalFuncD eqd D1 D2 = true ↔ (∀ s, Maps.has D1 (.string s) = Maps.has D2 (.string s)) ∧ ∀ s, Maps.has D1 (.string s) = true → eqd (D1.atKey (.string s) .nil) (D2.atKey (.string s) .nil) = true := by
  obtain ⟨es1, rfl, n1⟩ := h1
  obtain ⟨es2, rfl, n2⟩ := h2
  unfold Lib.equalFuncD
  rw [Bool.and_eq_true, decide_eq_true_iff, List.all_eq_true]
  have hz : ∀ es : List (List UInt8 × DataW Unit), Maps.size (DataW.map (es.map fun p => (Lit.string p.1, p.2))) = (es.map Prod.fst).length := fun es => by simp [Maps.size]
  rw [hz, hz]
  constructor
  · rintro ⟨hl, ha⟩
    have hsub : ∀ s ∈ es1.map Prod.fst, s ∈ es2.map Prod.fst := fun s hs => by
      obtain ⟨q, hq, rfl⟩ := List.mem_map.1 hs
      have := ha (Lit.string q.1, q.2) (List.mem_map.2 ⟨q, hq, rfl⟩)
      unfold Lib.goodD at this
      rw [Bool.and_eq_true, sm_has, decide_eq_true_iff] at this
      exact this.1
    have hb := sub_back _ _ n1 hsub n2 (by omega)
    refine ⟨fun s => ?_, fun s hs => ?_⟩
    · rw [sm_has, sm_has]
      exact decide_eq_decide.2 ⟨hsub s, hb s⟩
    · rw [sm_has, decide_eq_true_iff] at hs
      obtain ⟨q, hq, rfl⟩ := List.mem_map.1 hs
      have := ha (Lit.string q.1, q.2) (List.mem_map.2 ⟨q, hq, rfl⟩)
      unfold Lib.goodD at this
      rw [Bool.and_eq_true] at this
      rw [sm_at n1 hq]
      exact this.2
  · rintro ⟨hh, ha⟩
    have hm : ∀ s, s ∈ es1.map Prod.fst ↔ s ∈ es2.map Prod.fst := fun s => by
      have := hh s
      rw [sm_has, sm_has] at this
      exact decide_eq_decide.1 this
    refine ⟨Nat.le_antisymm (len_sub _ _ n1 fun x hx => (hm x).1 hx) (len_sub _ _ n2 fun x hx => (hm x).2 hx), fun p hp => ?_⟩
    obtain ⟨q, hq, rfl⟩ := List.mem_map.1 hp
    have hin : q.1 ∈ es1.map Prod.fst := List.mem_map.2 ⟨q, hq, rfl⟩
    unfold Lib.goodD
    have := ha q.1 (by rw [sm_has, decide_eq_true_iff]; exact hin)
    rw [sm_at n1 hq] at this
    rw [Bool.and_eq_true, sm_has, decide_eq_true_iff]
    exact ⟨(hm q.1).1 hin, this⟩
theorem sm_none {D : DataW Unit} (s : List UInt8) (h : Maps.has D (.string s) = false) (zd : DataW Unit) : D.atKey (.string s) zd = zd := Maps.atKey_of_not_has h zd
theorem sm_del {pd : Lit → DataW Unit → Bool} {D : DataW Unit} (h : StrMap D) (s : List UInt8) :
    Maps.has (Lib.deleteFuncD pd D) (.string s) = (Maps.has D (.string s) && !pd (.string s) (D.atKey (.string s) .nil)) ∧ (Maps.has (Lib.deleteFuncD pd D) (.string s) = true → ∀ zd, (Lib.deleteFuncD pd D).atKey (.string s) zd = D.atKey (.string s) .nil) := by
  obtain ⟨es, rfl, hn⟩ := h
  have he : Lib.deleteFuncD pd (DataW.map (es.map fun p => (Lit.string p.1, p.2))) = .map ((es.filter fun p => !pd (.string p.1) p.2).map fun p => (Lit.string p.1, p.2)) := by
    show DataW.map ((es.map _).filter _) = _
    rw [List.filter_map]
    rfl
  have hn2 : ((es.filter fun p => !pd (.string p.1) p.2).map Prod.fst).Nodup := List.Nodup.sublist (List.Sublist.map _ List.filter_sublist) hn
  rw [he]
  refine ⟨?_, fun hh zd => ?_⟩
  · rw [sm_has, sm_has, Bool.eq_iff_iff, decide_eq_true_iff, Bool.and_eq_true, decide_eq_true_iff]
    constructor
    · intro h
      obtain ⟨q, hq, rfl⟩ := List.mem_map.1 h
      obtain ⟨hq1, hq2⟩ := List.mem_filter.1 hq
      exact ⟨List.mem_map.2 ⟨q, hq1, rfl⟩, by rw [sm_at hn hq1]; exact hq2⟩
    · rintro ⟨h, hp⟩
      obtain ⟨q, hq, rfl⟩ := List.mem_map.1 h
      rw [sm_at hn hq] at hp
      exact List.mem_map.2 ⟨q, List.mem_filter.2 ⟨hq, hp⟩, rfl⟩
  · rw [sm_has, decide_eq_true_iff] at hh
    obtain ⟨q, hq, rfl⟩ := List.mem_map.1 hh
    rw [sm_at hn2 hq, sm_at hn (List.mem_filter.1 hq).1]
end Go.Proofs.YtjbjcfnbgcloiaaGreatDoor

/- A model copied: what each step of it does, plainly. -/
namespace Go.Proofs.YtjbjcfnbgcloiaaGreatDoor
open Go.RowKit Nam YtjbjcfnbgcloiaaGreatDoorW.PrintWords

theorem HasM.perm {w : World} {g : Nat} {S S' : St} {n : Nat} {Q F : Nat → Prop} (h : HasM w g S n Q F) (hn : S'.B.Nodup) (hB : ∀ s, s ∈ S'.B ↔ s ∈ S.B) (hV : ∀ s k, S'.V s k = S.V s k) : HasM w g S' n Q F := by
  obtain ⟨mb, D, h1, hf, h2, h3, h4, h5, h6, h7⟩ := h.ex
  have hV2 : S'.V = S.V := funext fun s => funext fun k => hV s k
  refine ⟨h.q, h.f, hn, fun s hs k => ?_, mb, D, h1, hf, h2, h3, ?_, fun s => ?_, fun s hs => ?_, fun s hs s' hs' => h7 s ((hB s).1 hs) s' ((hB s').1 hs')⟩
  · rw [hV]
    exact h.off s (fun e => hs ((hB s).2 e)) k
  · rw [h4]
    exact Nat.le_antisymm (len_sub _ _ h.nd fun x hx => (hB x).2 hx) (len_sub _ _ hn fun x hx => (hB x).1 hx)
  · rw [h5]
    exact decide_eq_decide.2 (hB s).symm
  · rw [hV2]
    exact h6 s ((hB s).1 hs)

structure KeepIt (w V V' : World) : Prop where
  size : V.heap.size ≤ V'.heap.size
  block : ∀ k, k < V.heap.size → (k < w.heap.size ∨ ¬ IsM V k) → V'.heap[k]? = V.heap[k]?
def NotMC (w : World) (r : Nat) : Prop := ∃ a b c d, w.heap[r]? = some (.mapIter a b c d)
theorem notMC_not {w : World} {r : Nat} (h : NotMC w r) : ¬ IsM w r ∧ ¬ IsC w r ∧ r < w.heap.size := by
  obtain ⟨a, b, c, d, h⟩ := h
  refine ⟨fun ⟨x, y, e⟩ => ?_, fun ⟨x, y, z, e⟩ => ?_, (Array.getElem?_eq_some_iff.1 h).1⟩
  · rw [h] at e; cases e
  · rw [h] at e; cases e
theorem ranges_iter {w : World} {R : Value → Option (DataW Unit × List MemPlace)} {b r n cnt : Nat} {D : DataW Unit} {left : Lit → Bool} (h : w.ranges Tryz.prog 9 R b r n D left cnt) : NotMC w r := by
  obtain ⟨es, clock, since, seen, c0, _, _, _, _, hr, _⟩ := h
  exact ⟨_, _, _, _, hr⟩
theorem ranges_keep {w V V' : World} {R : Value → Option (DataW Unit × List MemPlace)} {b r n cnt : Nat} {D : DataW Unit} {left : Lit → Bool} (h : V.ranges Tryz.prog 9 R b r n D left cnt) (hk : KeepIt w V V') (hb : b < w.heap.size) : V'.ranges Tryz.prog 9 R b r n D left cnt := by
  have h1 := notMC_not (ranges_iter h)
  have h2 := hk.block r h1.2.2 (.inr h1.1)
  have h3 := hk.block b h.owns.lt (.inl hb)
  obtain ⟨es, clock, since, seen, c0, hb', F, hs, hD, hr, rest⟩ := h
  exact ⟨es, clock, since, seen, c0, h3.trans hb', F, hs, hD, h2.trans hr, rest⟩

structure CopySt (w : World) (F : Nat → Prop) (go : Nat) (So : St) (no : Nat) (V : World) : Prop where
  below : Below w.heap.size w V
  ex : ∃ Qo Fo, HasM V go So no Qo Fo ∧ (∀ k, Qo k → w.heap.size ≤ k) ∧ (∀ k, Fo k → F k ∨ w.heap.size ≤ k)
theorem CopySt.go_below {w : World} {F : Nat → Prop} {go no : Nat} {So : St} {V V' : World} (h : CopySt w F go So no V) (hb : Below V.heap.size V V') : CopySt w F go So no V' := by
  obtain ⟨h1, Qo, Fo, h2, h3, h4⟩ := h
  exact ⟨h1.trans (hb.mono h1.size), Qo, Fo, h2.below hb, h3, h4⟩
theorem CopySt.iter {w : World} {F : Nat → Prop} {go no : Nat} {So : St} {V V' : World} {r : Nat} (h : CopySt w F go So no V) (hg : V.grownBy V' (some r)) (hr : NotMC V r) (hw : w.heap.size ≤ r) : CopySt w F go So no V' := by
  obtain ⟨h1, Qo, Fo, h2, h3, h4⟩ := h
  obtain ⟨r1, r2, _⟩ := notMC_not hr
  have ne : ∀ k, k < V.heap.size → k ≠ r → V'.heap[k]? = V.heap[k]? := fun k hk hn => hg.block k hk (by simpa using hn)
  refine ⟨⟨hg.os.trans h1.os, hg.tape.trans h1.tape, hg.output.trans h1.output, Nat.le_trans h1.size hg.size, fun k hk => (ne k (Nat.lt_of_lt_of_le hk h1.size) (by omega)).trans (h1.block k hk)⟩, Qo, Fo, h2.kept (fun k hk => ne k (isC_lt (h2.f k hk)) ?_) (fun k hk => ne k (isM_lt (h2.q k hk)) ?_), h3, h4⟩
  · rintro rfl
    exact r2 (h2.f k hk)
  · rintro rfl
    exact r1 (h2.q k hk)
theorem CopySt.make {w : World} {F : Nat → Prop} {go no : Nat} {So : St} {V : World} (h : CopySt w F go So no V) {s : List UInt8} (hs : s ∉ So.B) (hl : s.length ≤ maxLen) (hn : no < 1000000) :
    ∃ mbo w7, V.cell? ⟨go, 0, none⟩ = some (.map (some mbo)) ∧ (Instr.mapUpdate 57 (.map (some mbo)) (.string (mkS s)) (.map (some V.heap.size))).run Tryz.prog (V.alloc (.map #[] 0)) = .ok () w7 ∧ CopySt w F go { So with B := So.B ++ [s] } (no + 1) w7 ∧ KeepIt w V w7 := by
  obtain ⟨h1, Qo, Fo, h2, h3, h4⟩ := h
  obtain ⟨mb, D, hO⟩ := h2.ex
  obtain ⟨w7, e1, e2, e3⟩ := (hO.o.alloc (.map #[] 0)).update KS Tryz.underlying57 (by unfold maxLen; omega) (key_str s hl) (show R1 (.map (some V.heap.size)) = some (.lit (.int .i64 V.heap.size), []) from rfl)
  obtain ⟨m1, m2⟩ := made hO h2.q h2.f h2.nd h2.off hs e2 e3
  have hq := h3 mb hO.qm
  refine ⟨mb, w7, (blk_cell hO.c 0).trans rfl, e1, ⟨m2.below h1 h1.size h3, _, Fo, m1, fun k hk => ?_, h4⟩, m2.size, fun k hk hh => ?_⟩
  · rcases hk with hk | rfl
    · exact h3 k hk
    · exact h1.size
  · refine m2.block k hk (fun hQ => ?_)
    rcases hh with hh | hh
    · have := h3 k hQ
      omega
    · exact hh (h2.q k hQ)
theorem CopySt.put {w : World} {F : Nat → Prop} {go no : Nat} {So : St} {V : World} (hF : ∀ k, F k → IsC w k) (h : CopySt w F go So no V) {b : List UInt8} (hb : b ∈ So.B) (hl : b.length ≤ maxLen) (hn : no < 1000000) :
    ∃ mbo ib, (∀ W, Below V.heap.size V W → W.cell? ⟨go, 0, none⟩ = some (.map (some mbo)) ∧ (Instr.lookup 57 (.map (some mbo)) (.string (mkS b)) false).run Tryz.prog W = .ok (.map (some ib)) W) ∧
      ∀ (W : World) (v' : Value) (k : List UInt8) (l : List Kp) (news : List Value), Below V.heap.size V W → k.length ≤ maxLen → W.ownsRow V.heap.size 67 5 v' l.length news → Reps (KpF w F) 5 l news →
        ∃ w7, (Instr.mapUpdate 63 (.map (some ib)) (.string (mkS k)) v').run Tryz.prog W = .ok () w7 ∧ CopySt w F go (So.put b k l) (no + 1) w7 ∧ KeepIt w V w7 ∧ w7.cell? ⟨go, 0, none⟩ = some (.map (some mbo)) ∧ (Instr.lookup 57 (.map (some mbo)) (.string (mkS b)) false).run Tryz.prog w7 = .ok (.map (some ib)) w7 := by
  obtain ⟨h1, Qo, Fo, h2, h3, h4⟩ := h
  obtain ⟨mb, D, hO⟩ := h2.ex
  obtain ⟨ib, hat, hqi, hne, hin⟩ := hO.at_ b hb
  obtain ⟨D2, o2, hv2⟩ := hin
  refine ⟨mb, ib, fun W hW => ?_, fun W v' k l news hW hk ho hr => ?_⟩
  · have hO' := hO.below h2.q h2.f hW
    refine ⟨(blk_cell hO'.c 0).trans rfl, ?_⟩
    obtain ⟨v, ps, hrun, hv⟩ := hO'.o.lookup KS Tryz.underlying57 (zero63 W) (zd := .nil) (zp := []) rfl (key_str b hl)
    rw [hat] at hv
    rw [hrun, R1_one hv (show R1 (.map (some ib)) = some (.lit (.int .i64 ib), []) from rfl)]
  · have oW := ownsMap_kept o2 (hW.block ib (isM_lt (h2.q ib hqi)))
    have hrs := rowV_of_own (F := fun j => F j ∨ v'.ownBlock = some j) ho (reps_mono (reps_kept hr ((below_cells h1 hF).trans (fun j hj => hW.block j (Nat.lt_of_lt_of_le (isC_lt (hF j hj)) h1.size)))) fun j hj => .inl hj) rfl (fun j hj => .inr hj)
    obtain ⟨d, hd⟩ := hrs.r2
    obtain ⟨w7, e1, e2, e3⟩ := oW.update KS Tryz.underlying63 (by unfold maxLen; omega) (key_str k hk) hd
    have hib := h3 ib hqi
    have hmv : Moved (fun j => j = ib) V w7 := (Moved.of_below hW).trans (Moved.of_grown e3 (Q := fun j => j = ib) rfl) (fun i hi => .inl hi)
    have hfk : FKept F w w7 := fun j hj => by
      have hj2 := isC_lt (hF j hj)
      exact (hmv.block j (Nat.lt_of_lt_of_le hj2 h1.size) (by intro e; omega)).trans (h1.block j hj2)
    have ho7 := own_other ho e3 (by
      cases hob : v'.ownBlock with
      | none => exact .inl rfl
      | some j =>
        refine .inr fun e => ?_
        injection e with e
        have := own_base ho j hob
        have := isM_lt (h2.q ib hqi)
        omega)
    have hrow := rowV_of_own (F := fun j => Fo j ∨ F j ∨ v'.ownBlock = some j) ho7 (reps_mono (reps_kept hr hfk) fun j hj => .inr (.inl hj)) rfl (fun j hj => .inr (.inr hj))
    have hck : FKept Fo V w7 := hmv.cells (fun j hj => by subst hj; exact h2.q j hqi) h2.f
    obtain ⟨s1, s2⟩ := stored h2.q h2.f (F' := fun j => Fo j ∨ F j ∨ v'.ownBlock = some j) (fun j hj => .inl hj) (fun j hj => by
      rcases hj with hj | hj | hj
      · obtain ⟨a, b, c, e⟩ := h2.f j hj
        exact ⟨a, b, c, (hck j hj).trans e⟩
      · obtain ⟨a, b, c, e⟩ := hF j hj
        exact ⟨a, b, c, (hfk j hj).trans e⟩
      · obtain ⟨cells, hc⟩ := own_typed ho7 j hj
        exact ⟨_, _, _, hc⟩) h2.nd h2.off hO hb hat hqi hne o2 hv2 hd e2 hmv hrow
    have hm7 := hmv.block mb (isM_lt (h2.q mb hO.qm)) (fun e => hne e.symm)
    have hgo7 := hmv.block go (isC_lt (h2.f go hO.fg)) (fun e => isC_not (h2.f go hO.fg) (by rw [show go = ib from e]; exact h2.q ib hqi))
    refine ⟨w7, e1, ⟨s2.below h1 h1.size h3, _, _, s1, h3, fun j hj => ?_⟩, ⟨s2.size, fun j hj hh => ?_⟩, (blk_cell (hgo7.trans hO.c) 0).trans rfl, ?_⟩
    rotate_left 2
    · obtain ⟨v, ps, hrun, hv⟩ := (ownsMap_kept hO.o hm7).lookup KS Tryz.underlying57 (zero63 w7) (zd := .nil) (zp := []) rfl (key_str b hl)
      rw [hat] at hv
      rw [hrun, R1_one hv (show R1 (.map (some ib)) = some (.lit (.int .i64 ib), []) from rfl)]
    · rcases hj with hj | hj | hj
      · exact h4 j hj
      · exact .inl hj
      · exact .inr (Nat.le_trans h1.size (own_base ho j hj))
    · refine s2.block j hj (fun hQ => ?_)
      rcases hh with hh | hh
      · have := h3 j hQ
        omega
      · exact hh (h2.q j hQ)

def OutSt (S So : St) (left : Lit → Bool) : Prop := (∀ s, s ∈ So.B ↔ s ∈ S.B ∧ left (.string s) = false) ∧ ∀ s, s ∈ So.B → ∀ k, So.V s k = S.V s k
def InnSt (S So S1 : St) (s : List UInt8) (left : Lit → Bool) : Prop := S1.B = So.B ++ [s] ∧ (∀ t, t ≠ s → ∀ k, S1.V t k = So.V t k) ∧ ∀ k, S1.V s k = if left (.string k) = true then [] else S.V s k
theorem outSt_start {S : St} {has : Lit → Bool} (h : ∀ s, has (.string s) = decide (s ∈ S.B)) : OutSt S St.new has := by
  refine ⟨fun s => ⟨fun e => absurd e List.not_mem_nil, fun ⟨h1, h2⟩ => ?_⟩, fun s e => absurd e List.not_mem_nil⟩
  rw [h, decide_eq_true h1] at h2
  cases h2
theorem innSt_start {S So : St} {s : List UInt8} {has : Lit → Bool} (hoff : ∀ k, So.V s k = []) (h : ∀ k, has (.string k) = false → S.V s k = []) : InnSt S So { So with B := So.B ++ [s] } s has := by
  refine ⟨rfl, fun t _ k => rfl, fun k => ?_⟩
  show So.V s k = _
  rw [hoff]
  cases hk : has (.string k) with
  | true => rw [if_pos rfl]
  | false => rw [if_neg (by simp), h k hk]
theorem innSt_step {S So S1 : St} {s k : List UInt8} {left : Lit → Bool} (h : InnSt S So S1 s left) : InnSt S So (S1.put s k (S.V s k)) s (fun x => left x && !x.sameKey (.string k)) := by
  obtain ⟨h1, h2, h3⟩ := h
  refine ⟨h1, fun t ht k' => ?_, fun k' => ?_⟩
  · show (if t = s ∧ k' = k then _ else S1.V t k') = _
    rw [if_neg (fun e => ht e.1)]
    exact h2 t ht k'
  · show (if s = s ∧ k' = k then _ else S1.V s k') = _
    by_cases e : k' = k
    · subst e
      rw [if_pos ⟨rfl, rfl⟩, if_neg (by simp [WideAt.sameKey_self (isKey_str k')])]
    · rw [if_neg (fun e' => e e'.2), h3]
      have : (Lit.string k').sameKey (.string k) = false := by
        cases hs : (Lit.string k').sameKey (.string k) with
        | false => rfl
        | true =>
          have := WideAt.sameKey_eq hs
          injection this with this
          exact absurd this e
      simp [this]
theorem outSt_step {S So S1 : St} {s : List UInt8} {left left2 : Lit → Bool} (h : OutSt S So left) (hs : s ∈ S.B) (h1 : InnSt S So S1 s left2) (hl : ∀ x, left2 x = false) : OutSt S S1 (fun x => left x && !x.sameKey (.string s)) := by
  obtain ⟨a1, a2⟩ := h
  obtain ⟨b1, b2, b3⟩ := h1
  have hne : ∀ t, t ≠ s → (Lit.string t).sameKey (.string s) = false := fun t ht => by
    cases hk : (Lit.string t).sameKey (.string s) with
    | false => rfl
    | true =>
      have := WideAt.sameKey_eq hk
      injection this with this
      exact absurd this ht
  refine ⟨fun t => ?_, fun t ht k => ?_⟩
  · rw [b1, List.mem_append, List.mem_singleton]
    by_cases e : t = s
    · subst e
      simp [WideAt.sameKey_self (isKey_str t), hs]
    · simp [hne t e, e, a1 t]
  · by_cases e : t = s
    · subst e
      rw [b3, hl]
      simp
    · rw [b2 t e]
      rw [b1, List.mem_append, List.mem_singleton] at ht
      exact a2 t (ht.resolve_right e) k
theorem outSt_end {S So : St} {left : Lit → Bool} (h : OutSt S So left) (hl : ∀ x, left x = false) (off : ∀ s, s ∉ S.B → ∀ k, S.V s k = []) (off' : ∀ s, s ∉ So.B → ∀ k, So.V s k = []) : (∀ s, s ∈ S.B ↔ s ∈ So.B) ∧ ∀ s k, S.V s k = So.V s k := by
  have hB : ∀ s, s ∈ S.B ↔ s ∈ So.B := fun s => by
    rw [h.1 s, hl]
    simp
  refine ⟨hB, fun s k => ?_⟩
  by_cases e : s ∈ So.B
  · exact (h.2 s e k).symm
  · rw [off' s e, off s (fun e' => e ((hB s).1 e'))]
end Go.Proofs.YtjbjcfnbgcloiaaGreatDoor

/- Copy of package model. -/
namespace Go.Proofs.YtjbjcfnbgcloiaaGreatDoor
open Go.RowKit Nam YtjbjcfnbgcloiaaGreatDoorW.PrintWords

theorem key_inv : ∀ key kl, keyOf Tryz.prog 9 key = some kl → ∃ x : List UInt8, key = .string (mkS x) := fun key kl h => by
  obtain ⟨s, rfl, _, _⟩ := WideMaps.string_of_keyOf Tryz.underlying9 h
  exact ⟨s.data.toList, by rw [mkS_of]⟩
theorem key_is_ {s : List UInt8} {kl : Lit} (h : keyOf Tryz.prog 9 (.string (mkS s)) = some kl) : s.length ≤ maxLen ∧ kl = .string s := by
  obtain ⟨s', e, rfl, hs⟩ := WideMaps.string_of_keyOf Tryz.underlying9 h
  injection e with e
  subst e
  exact ⟨by rw [mkS_size] at hs; exact hs, by rw [mkS_list]⟩
theorem r1_inv : ∀ v (y : DataW Unit × List MemPlace), R1 v = some y → ∃ p : Option Nat, v = .map p := fun v y h => by
  rcases R1_inv (show R1 v = some (y.1, y.2) from h) with ⟨e, _⟩ | ⟨b, e, _⟩
  · exact ⟨_, e⟩
  · exact ⟨_, e⟩
theorem r2_inv : ∀ v (y : DataW Unit × List MemPlace), R2 v = some y → ∃ q : Option Addr × Nat × Nat, v = .slice q.1 q.2.1 q.2.2 := fun v y h => by
  rcases R2_inv (show R2 v = some (y.1, y.2) from h) with ⟨e, _⟩ | ⟨g, n, c, e, _⟩
  · exact ⟨(none, 0, 0), e⟩
  · exact ⟨(some ⟨g, 0, none⟩, n, c), e⟩
theorem outer_came {w : World} {g n mb : Nat} {S : St} {Q F : Nat → Prop} {D : DataW Unit} (h : Outer w g S n Q F mb D) (hq : ∀ k, Q k → IsM w k) {s : List UInt8} {kl : Lit} {p : Option Nat} {y : DataW Unit × List MemPlace} (hkey : keyOf Tryz.prog 9 (.string (mkS s)) = some kl) (hv : R1 (.map p) = some y) (hat : ∀ zd, D.atKey kl zd = y.1) :
    s.length ≤ maxLen ∧ kl = .string s ∧ s ∈ S.B ∧ ∃ ib D2, p = some ib ∧ ib < w.heap.size ∧ w.ownsMap Tryz.prog 9 R2 ib n D2 ∧ ∀ k, ∃ v ps, R2 v = some (D2.atKey (.string k) .nil, ps) ∧ RowV w F v (S.V s k) := by
  obtain ⟨hl, rfl⟩ := key_is_ hkey
  have hh := Maps.has_true_of_atKey hat
  rw [h.hs, decide_eq_true_iff] at hh
  obtain ⟨b, e1, e2, _, D2, e4, e5⟩ := h.at_ s hh
  refine ⟨hl, rfl, hh, b, D2, ?_, isM_lt (hq b e2), e4, e5⟩
  rw [hat .nil] at e1
  have := R1_one (show R1 (.map p) = some (y.1, y.2) from hv) (show R1 (.map (some b)) = some (y.1, []) by rw [e1]; rfl)
  injection this
theorem inner_came {w : World} {F : Nat → Prop} {D2 : DataW Unit} {f : List UInt8 → List Kp} (h : ∀ k, ∃ v ps, R2 v = some (D2.atKey (.string k) .nil, ps) ∧ RowV w F v (f k)) {k : List UInt8} {kl : Lit} {v : Value} {y : DataW Unit × List MemPlace} (hkey : keyOf Tryz.prog 9 (.string (mkS k)) = some kl) (hv : R2 v = some y) (hat : ∀ zd, D2.atKey kl zd = y.1) :
    k.length ≤ maxLen ∧ kl = .string k ∧ RowV w F v (f k) := by
  obtain ⟨hl, rfl⟩ := key_is_ hkey
  obtain ⟨v', ps, e1, e2⟩ := h k
  rw [hat .nil] at e1
  rw [R2_one (show R2 v = some (y.1, y.2) from hv) e1]
  exact ⟨hl, rfl, e2⟩
theorem inner_off {w : World} {F : Nat → Prop} {D2 : DataW Unit} {f : List UInt8 → List Kp} (h : ∀ k, ∃ v ps, R2 v = some (D2.atKey (.string k) .nil, ps) ∧ RowV w F v (f k)) (k : List UInt8) (hk : Maps.has D2 (.string k) = false) : f k = [] := by
  obtain ⟨v', ps, e1, e2⟩ := h k
  rw [sm_none k hk] at e1
  have := R2_one e1 (show R2 (.slice none 0 0) = some (.nil, []) from rfl)
  subst this
  obtain ⟨A, c, e, _⟩ := e2.slice
  injection e with _ e _
  exact List.length_eq_zero_iff.1 e.symm
theorem kclone_cl (w V : World) (F : Nat → Prop) (v : Value) (l : List Kp) (hF : ∀ k, F k → IsC w k) (hl : l.length ≤ 1000) (h : RowV w F v l) (hw : Below w.heap.size w V) :
    ∃ news, Reps (KpF w F) 5 l news ∧ ∀ W, Below V.heap.size V W → Calls Tryz.prog 21 #[v] W fun e w' => (∃ v', e = .returned v' ∧ Hid (w'.ownsRow V.heap.size 67 5 v' l.length news)) ∧ Below V.heap.size V w' := by
  obtain ⟨news, h1, h2⟩ := h
  refine ⟨news, h2, fun W hW => ?_⟩
  have hw2 := hw.trans (hW.mono hw.size)
  refine (kclone_at W F v news l.length hl h2.1 (reps_ones h2) (h1.kept (below_cells hw2 hF))).mono fun e w' ⟨⟨v', he, ho⟩, hb⟩ => ⟨⟨v', he, own_weaken ho hW.size⟩, hW.trans (hb.mono hW.size)⟩

def CopyIs (S : St) (n : Nat) (F : Nat → Prop) (w : World) (e : Ending) (w' : World) : Prop :=
  (∃ g' Q' F', e = .returned (.pointer (some ⟨g', 0, none⟩)) ∧ HasM w' g' S (n * (n + 2)) Q' F' ∧ (∀ k, Q' k → w.heap.size ≤ k) ∧ ∀ k, F' k → F k ∨ w.heap.size ≤ k) ∧ Below w.heap.size w w'
theorem copy_fin {w V : World} {g go no n : Nat} {S So : St} {Q F : Nat → Prop} {left : Lit → Bool} (hm : HasM w g S n Q F) (h : CopySt w F go So no V) (ho : OutSt S So left) (hl : ∀ x, left x = false) (hn : no ≤ n * (n + 2)) : CopyIs S n F w (.returned (.pointer (some ⟨go, 0, none⟩))) V := by
  obtain ⟨h1, Qo, Fo, h2, h3, h4⟩ := h
  obtain ⟨e1, e2⟩ := outSt_end ho hl hm.off h2.off
  exact ⟨⟨go, Qo, Fo, rfl, (h2.perm hm.nd e1 e2).mono hn, h3, h4⟩, h1⟩
theorem cnt_step {no n1 cnt cnt3 n : Nat} (h : no + cnt * (n + 2) ≤ n * (n + 2)) (h3 : cnt3 < cnt) (h1 : n1 ≤ no + 1 + n) : n1 + cnt3 * (n + 2) ≤ n * (n + 2) := by
  have : (cnt3 + 1) * (n + 2) ≤ cnt * (n + 2) := Nat.mul_le_mul_right _ h3
  rw [Nat.succ_mul] at this
  omega
theorem cnt_le {no cnt n : Nat} (h : no + cnt * (n + 2) ≤ n * (n + 2)) (hn : n ≤ 300) : no < 100000 := by
  have : n * (n + 2) ≤ 300 * (300 + 2) := Nat.mul_le_mul hn (by omega)
  omega

set_option maxHeartbeats 4000000 in
set_option maxRecDepth 100000 in
theorem copy_is (w : World) (g : Nat) (S : St) (n : Nat) (Q F : Nat → Prop) (hn : n ≤ 300) (hl : ∀ b k, (S.V b k).length ≤ 1000) (hm : HasM w g S n Q F) :
    Calls Tryz.prog 9 #[.pointer (some ⟨g, 0, none⟩)] w (CopyIs S n F w) := by
  obtain ⟨mb, D, hO⟩ := hm.ex
  have hmb : mb < w.heap.size := isM_lt (hm.q mb hO.qm)
  have HCm : Hid (∀ V, Below w.heap.size w V → V.cell? ⟨g, 0, none⟩ = some (.map (some mb)) ∧ V.ownsMap Tryz.prog 9 R1 mb n D) := fun V hV => by
    have hO' := hO.below hm.q hm.f hV
    exact ⟨(blk_cell hO'.c 0).trans rfl, hO'.o⟩
  have HNew : Hid (Calls Tryz.prog 7 #[] w fun e w' => (∃ go, e = .returned (.pointer (some ⟨go, 0, none⟩)) ∧ Hid (CopySt w F go St.new 0 w')) ∧ Below w.heap.size w w') :=
    (new_is w).mono fun e w' ⟨⟨g', Q', F', he, h1, h2, h3⟩, hb⟩ => ⟨⟨g', he, hb, Q', F', h1, h2, fun k hk => .inr (h3 k hk)⟩, hb⟩
  have HM := Lib.hid hm
  have HOO := Lib.hid hO
  have HL := Lib.hid hl
  have hmm := @run_makeMap Tryz.prog
  have hsz0 : Maps.size D ≤ n := hO.o.size_le
  have HSZ := Lib.hid hsz0
  clear hO hm hl hsz0
  go_enter Tryz.func9, Tryz.ntmps9
  go_wp2_with (first | (go_at_call 7; refine HNew.out.mono ?_; rintro e w1 ⟨⟨go, rfl, HS1⟩, hb1⟩; obtain ⟨c1, o1⟩ := HCm.out w1 hb1) | (at_range; refine wpList_range_own _ rfl _ 57 rfl 9 63 KS Tryz.underlying57 R1 mb n D rfl o1 ?_; intro w2 hrg2 hg2 hs2))
  obtain ⟨r, hr⟩ : ∃ r, w1.heap.size = r := ⟨_, rfl⟩
  have hwr : w.heap.size ≤ r := by rw [← hr]; exact hb1.size
  rw [hr] at hrg2 ⊢
  have HS2 : Hid (CopySt w F go St.new 0 w2) := HS1.out.go_below (grown_below' hg2)
  clear HS1 hb1 c1 o1 hg2 hs2 hr
  go_frame
  go_loopw [16] (fun _ wr => ∃ (So : St) (no : Nat) (left : Lit → Bool) (cnt : Nat), Hid (CopySt w F go So no wr) ∧ wr.ranges Tryz.prog 9 R1 mb r n D left cnt ∧ Hid (OutSt S So left ∧ no + cnt * (n + 2) ≤ n * (n + 2))) (fun _ wr => wr.rangeLeft mb r)
  case atStart => exact ⟨St.new, 0, _, _, HS2, hrg2, outSt_start HOO.out.hs, by rw [Nat.zero_add]; exact Nat.mul_le_mul_right _ HSZ.out⟩
  case round =>
    clear HS2 hrg2
    obtain ⟨So, no, left, cnt, HS, hrg, HO⟩ := hrel
    obtain ⟨wo, rfl⟩ : ∃ wo : World, wo = wr := ⟨_, rfl⟩
    go_wp2_with (at_next; refine wpList_next_ranges _ rfl _ rfl 9 KS R1 (fun s : List UInt8 => .string (mkS s)) (fun p : Option Nat => .map p) key_inv r1_inv mb r n D left cnt rfl hrg ?_ ?_)
    · intro h0 hl0
      have HL0 := Lib.hid hl0
      clear hl0
      go_wp2
      go_ret
      exact copy_fin HM.out HS.out HO.out.1 HL0.out (by have := HO.out.2; omega)
    · intro s p kl yd yp w3 cnt3 hkey hlk hv hat hrg3 hlt hg3 hs3 hen
      obtain ⟨hsl, rfl, hsB, ib, D2, rfl, hib, o2, hv2⟩ := outer_came HOO.out HM.out.q hkey hv hat
      have hit := ranges_iter hrg
      have HS3 := HS.out.iter hg3 hit hwr
      have hsno : s ∉ So.B := fun e => by
        have := ((HO.out.1.1 s).1 e).2
        rw [hlk] at this
        cases this
      obtain ⟨mbo, w7, k1, k2, HS7, hk7⟩ := HS3.make hsno hsl (Nat.lt_of_lt_of_le (cnt_le HO.out.2 hn) (by omega))
      have hrg7 := ranges_keep hrg3 hk7 hmb
      have o7 := ownsMap_kept o2 ((HS7.below).block ib hib)
      have HS7h := Lib.hid HS7
      have HIB := Lib.hid hib
      have HV2 := Lib.hid hv2
      have HSB := Lib.hid hsB
      have HSL := Lib.hid hsl
      have HHAT := Lib.hid hsno
      have HLT := Lib.hid hlt
      have HOW := Lib.hid o2
      clear hkey hlk hv hat hrg3 hg3 hs3 hit HS3 hsno HS7 hk7 hsB hsl hib hv2 o2 hlt
      go_wp2_with (at_range; refine wpList_range_own _ rfl _ 63 rfl 9 64 KS Tryz.underlying63 R2 ib n D2 rfl o7 ?_; intro w8 hrg8 hg8 hs8)
      go_frame
      obtain ⟨r2, hr2⟩ : ∃ r2, w7.heap.size = r2 := ⟨_, rfl⟩
      rw [hr2] at hrg8 ⊢
      have hwr2 : w.heap.size ≤ r2 := by rw [← hr2]; exact HS7h.out.below.size
      have hne2 : r ≠ r2 := by
        have := (notMC_not (ranges_iter hrg7)).2.2
        omega
      have hsz2 : Maps.size D2 ≤ n := HOW.out.size_le
      have HSZ2 := Lib.hid hsz2
      have HS8 : Hid (CopySt w F go { So with B := So.B ++ [s] } (no + 1) w8) := HS7h.out.go_below (grown_below' hg8)
      have hrg8o := hrg7.kept hg8 (by simp) (by simp)
      have HNE2 := Lib.hid hne2
      clear hg8 hs8 hrg7 hr2 hne2 hsz2 o7 k1 k2 hen
      go_loopw [29] (fun _ wr => ∃ (S1 : St) (n1 : Nat) (left2 : Lit → Bool) (cnt2 : Nat), Hid (CopySt w F go S1 n1 wr) ∧ wr.ranges Tryz.prog 9 R1 mb r n D (fun z => left z && !z.sameKey (.string s)) cnt3 ∧ wr.ranges Tryz.prog 9 R2 ib r2 n D2 left2 cnt2 ∧ Hid (InnSt S So S1 s left2 ∧ n1 + cnt2 ≤ no + 1 + n)) (fun _ wr => wr.rangeLeft ib r2)
      case atStart =>
        refine ⟨_, _, _, _, HS8, hrg8o, hrg8, (show Hid _ from ⟨innSt_start (fun k => ?_) (fun k hk => inner_off HV2.out k hk), ?_⟩)⟩
        · obtain ⟨Qo, Fo, h2, _⟩ := HS.out.ex
          exact h2.off s HHAT.out k
        · have := HSZ2.out
          omega
      case round =>
        clear HS8 hrg8o hrg8
        obtain ⟨S1, n1, left2, cnt2, HS1, hro, hri, HI⟩ := hrel
        obtain ⟨wi, rfl⟩ : ∃ wi : World, wi = wr := ⟨_, rfl⟩
        go_wp2_with (at_next; refine wpList_next_ranges _ rfl _ rfl 9 KS R2 (fun k : List UInt8 => .string (mkS k)) (fun q : Option Addr × Nat × Nat => .slice q.1 q.2.1 q.2.2) key_inv r2_inv ib r2 n D2 left2 cnt2 rfl hri ?_ ?_)
        · intro h0 hl0
          have HL0 := Lib.hid hl0
          clear hl0
          go_wp2
          go_roundw
          case rel => exact ⟨S1, n1, _, cnt3, HS1, hro, outSt_step HO.out.1 HSB.out HI.out.1 HL0.out, cnt_step HO.out.2 HLT.out (by have := HI.out.2; omega)⟩
          case measure => rw [hro.left_eq, hrg.left_eq]; exact HLT.out
        · intro k A m c kl yd yp w9 cnt4 hkey hlk hv hat hri9 hlt2 hg9 hs9 hen2
          obtain ⟨hkl, rfl, hrow⟩ := inner_came HV2.out hkey hv hat
          have HS9 := HS1.out.iter hg9 (ranges_iter hri) hwr2
          have hro9 := hro.kept hg9 (by intro e; injection e with e; omega) (by intro e; injection e with e; exact HNE2.out e)
          have hno := cnt_le HO.out.2 hn
          obtain ⟨mbo2, ib2, p1, p2⟩ := HS9.put HM.out.f (b := s) (by rw [HI.out.1.1]; simp) HSL.out (by have := HI.out.2; omega)
          obtain ⟨news, hr1, hcl⟩ := kclone_cl w w9 F _ (S.V s k) HM.out.f (HL.out s k) hrow HS9.below
          have HQ := Lib.hid p1
          have HC := Lib.hid hcl
          have HU : Hid (∀ W v', Below w9.heap.size w9 W → W.ownsRow w9.heap.size 67 5 v' (S.V s k).length news → ∃ w7, (Instr.mapUpdate 63 (.map (some ib2)) (.string (mkS k)) v').run Tryz.prog W = .ok () w7 ∧ Hid (CopySt w F go (S1.put s k (S.V s k)) (n1 + 1) w7) ∧ Hid (KeepIt w w9 w7) ∧ w7.cell? ⟨go, 0, none⟩ = some (.map (some mbo2)) ∧ (Instr.lookup 57 (.map (some mbo2)) (.string (mkS s)) false).run Tryz.prog w7 = .ok (.map (some ib2)) w7) := fun W v' hW ho => p2 W v' k _ news hW hkl ho hr1
          have HLT2 := Lib.hid hlt2
          have hb9 : Below w9.heap.size w9 w9 := Below.refl _ _
          have hb9d : Below w9.heap.size w9 w9.drew := (Below.refl _ _).drew
          clear hkey hlk hv hat hg9 hs9 hkl hrow hro hno p1 p2 hr1 hcl hlt2 HS9
          go_wp2_with fail
          go_region_held3 (fun V => V.cell? ⟨go, 0, none⟩ = some (.map (some mbo2)) ∧ (Instr.lookup 57 (.map (some mbo2)) (.string (mkS s)) false).run Tryz.prog V = .ok (.map (some ib2)) V) (first | exact HQ.out _ (by assumption) | exact ⟨HC11, HL11⟩) ((go_at_call 21; refine (HC.out _ (by assumption)).mono ?_; rintro e w10 ⟨⟨v', rfl, HOW'⟩, hb10⟩; obtain ⟨w11, run11, HS11, HK11, HC11, HL11⟩ := HU.out _ v' hb10 HOW'.out))
          all_goals
            have HRo := Lib.hid (ranges_keep hro9 HK11.out hmb)
            have HRi := Lib.hid (ranges_keep hri9 HK11.out HIB.out)
            go_roundw
            case rel => exact ⟨_, _, _, _, _, _, _, _, _, _, _, _, _, _, _, _, ⟨_, _, _, cnt4, HS11, HRo.out, HRi.out, (show Hid _ from ⟨innSt_step HI.out.1, by have := HI.out.2; have := HLT2.out; omega⟩)⟩, rfl⟩
            case measure => rw [HRi.out.left_eq, hri.left_eq]; exact HLT2.out
end Go.Proofs.YtjbjcfnbgcloiaaGreatDoor

/- full$1 of package model: is a row empty? -/

namespace Go.Proofs.YtjbjcfnbgcloiaaGreatDoor
open Go.RowKit Nam YtjbjcfnbgcloiaaGreatDoorW.PrintWords

set_option maxRecDepth 100000 in
theorem fullp_is (w : World) (s : Value) (A : Option Addr) (n c : Nat) :
    Calls Tryz.prog 58 #[s, .slice A n c] w fun e w' => e = .returned (.bool (decide (n = 0))) ∧ w = w' := by
  by_cases h : n = 0
  · subst h
    have hz : decide ((0 : Int) = 0) = true := by decide
    go_enter Tryz.func58, Tryz.ntmps58
    go_wp2_with fail
    go_ret
    exact ⟨rfl, rfl⟩
  · have hd : decide ((n : Int) = 0) = false := decide_eq_false (by omega)
    have hd2 : ((n : Int) == 0) = false := by simp; omega
    have HH : Hid (decide (n = 0) = false) := decide_eq_false h
    rw [HH.out]
    go_enter Tryz.func58, Tryz.ntmps58
    go_wp2_with fail
    go_ret
    simp [hd2]
end Go.Proofs.YtjbjcfnbgcloiaaGreatDoor

/- full of package model: a bucket's keys that have versions. -/
namespace Go.Proofs.YtjbjcfnbgcloiaaGreatDoor
open Go.RowKit Nam YtjbjcfnbgcloiaaGreatDoorW.PrintWords

def tokNone : DataW Unit → Bool
  | .agg [_, .lit (.int _ n), _] => decide (n = 0)
  | _ => true
theorem fullp_tok (w : World) (s val : Value) (yd : DataW Unit) (yp : List MemPlace) (h : R2 val = some (yd, yp)) :
    Calls Tryz.prog 58 #[s, val] w fun e w' => e = .returned (.bool (tokNone yd)) ∧ w = w' := by
  rcases R2_inv h with ⟨rfl, rfl⟩ | ⟨g, n, c, rfl, rfl⟩
  · exact (fullp_is w s none 0 0).mono fun e w' ⟨h1, h2⟩ => ⟨by rw [h1]; rfl, h2⟩
  · refine (fullp_is w s (some ⟨g, 0, none⟩) n c).mono fun e w' ⟨h1, h2⟩ => ⟨?_, h2⟩
    rw [h1]
    show _ = Ending.returned (.bool (decide ((n : Int) = 0)))
    congr 2
    simp

set_option maxHeartbeats 1000000 in
set_option maxRecDepth 100000 in
theorem full_is (w : World) (b n : Nat) (D : DataW Unit) (ho : w.ownsMap Tryz.prog 9 R2 b n D) :
    Calls Tryz.prog 29 #[.map (some b)] w fun e w' => (∃ b', e = .returned (.map (some b')) ∧ w.heap.size ≤ b' ∧ w'.ownsMap Tryz.prog 9 R2 b' n (Lib.deleteFuncD (fun _ yd => tokNone yd) D)) ∧ Below w.heap.size w w' := by
  obtain ⟨es, clock, hb, hrest⟩ := ho
  obtain ⟨W1, hW1⟩ : ∃ W1, w.alloc (.map es clock) = W1 := ⟨_, rfl⟩
  have hnew : W1.heap[w.heap.size]? = some (.map es clock) := by rw [← hW1]; exact heap_alloc_new w _
  have hb1 : Below w.heap.size w W1 := by rw [← hW1]; exact (Below.refl _ _).alloc (Nat.le_refl _) _
  have hcl := AnyW.maps_Clone Tryz.mcloneK b es clock w hb
  rw [hW1] at hcl
  have HCl := Lib.hid hcl
  have eg : ∀ args w, (callFunc 58 args).run Tryz.prog w = .ok (.enter 58 args) w := enters_of Tryz.func58 (by kernel_rfl) rfl
  have hde := AnyDf.maps_DeleteFunc Tryz.mdelK KS R2 (fun _ yd => tokNone yd) 58 #[] w.heap.size n D W1 eg ⟨es, clock, hnew, hrest⟩ (fun W key val kl yd yp _ _ hv => (fullp_tok W key val yd yp hv).mono fun e w' ⟨h1, h2⟩ => ⟨h1, h2 ▸ World.grownBy.refl _ _⟩)
  have HDe := Lib.hid hde
  have HB1 := Lib.hid hb1
  clear hcl hde hb hrest hnew hb1 hW1 eg
  go_enter Tryz.func29, Tryz.ntmps29
  go_wp2_with (first | (go_at_call 56; refine HCl.out.mono ?_; rintro e w' ⟨rfl, rfl⟩) | (go_at_call 57; refine HDe.out.mono ?_; rintro e w2 ⟨rfl, ho2, hg2⟩))
  go_ret
  exact ⟨⟨_, rfl, Nat.le_refl _, ho2⟩, HB1.out.grown hg2 HB1.out.size (fun j hj => by injection hj with hj; omega)⟩
end Go.Proofs.YtjbjcfnbgcloiaaGreatDoor

/- bytes.Equal of two versions' bytes. -/
namespace Go.Proofs.YtjbjcfnbgcloiaaGreatDoor
open Go.RowKit Nam YtjbjcfnbgcloiaaGreatDoorW.PrintWords

theorem bytesOf_byN (l : List UInt8) : Lib.bytesOf (byN l) = l := by
  have h := Lib.strOfNums_toList (byN l)
  rw [byN_str] at h
  rw [← h]
  show (mkS l).toList = l
  rw [Lib.toList_data]
  rfl
theorem bequal_is (w : World) (A B : Option Addr) (c d : Nat) (l m : List UInt8) (hA : (Kd.int .u8).C w A l.length (byN l)) (hB : (Kd.int .u8).C w B m.length (byN m)) :
    Calls Tryz.prog 23 #[.slice A l.length c, .slice B m.length d] w fun e w' => e = .returned (.bool (decide (l = m))) ∧ w = w' := by
  refine (Any.bytes_Equal { Tryz.bequalL with } _ _ (byN l) (byN m) w (Kd.C_string Tryz.bequalL.t37 Tryz.bequalL.t5 Tryz.bequalL.t9 hA) (Kd.C_string Tryz.bequalL.t37 Tryz.bequalL.t5 Tryz.bequalL.t9 hB)).mono fun e w' ⟨h1, h2⟩ => ⟨?_, h2.symm⟩
  rw [h1, bytesOf_byN, bytesOf_byN]
  congr 2
  by_cases e : l = m
  · subst e; simp
  · rw [decide_eq_false e]
    exact beq_eq_false_iff_ne.2 e
end Go.Proofs.YtjbjcfnbgcloiaaGreatDoor

/- Same$1 of package model: are two versions alike? -/
namespace Go.Proofs.YtjbjcfnbgcloiaaGreatDoor
open Go.RowKit Nam YtjbjcfnbgcloiaaGreatDoorW.PrintWords

def alikeB (x y : Kp) : Bool := decide (x.id = y.id) && decide (x.mark = y.mark) && decide (x.sz = y.sz) && decide (x.sum = y.sum) && decide (x.dt = y.dt)
theorem alikeB_iff (x y : Kp) : alikeB x y = true ↔ x = y := by
  cases x; cases y
  simp [alikeB, and_assoc]
set_option maxHeartbeats 1000000 in
set_option maxRecDepth 100000 in
theorem alike_is (w : World) (F : Nat → Prop) (x y : Kp) (A B : Option Addr) (c d : Nat) (hF : ∀ k, F k → IsC w k) (hx : DatF w F A x.dt) (hy : DatF w F B y.dt) :
    Calls Tryz.prog 22 #[.agg #[.int .i64 x.id, .bool x.mark, .int .i64 x.sz, .int .u32 x.sum, .slice A x.dt.length c], .agg #[.int .i64 y.id, .bool y.mark, .int .i64 y.sz, .int .u32 y.sum, .slice B y.dt.length d]] w fun e w' => e = .returned (.bool (alikeB x y)) ∧ Below w.heap.size w w' := by
  have HBe : Hid (∀ V, Below w.heap.size w V → Calls Tryz.prog 23 #[.slice A x.dt.length c, .slice B y.dt.length d] V fun e w' => e = .returned (.bool (decide (x.dt = y.dt))) ∧ V = w') := fun V hV =>
    bequal_is V A B c d x.dt y.dt (hx.kept (below_cells hV hF)).now (hy.kept (below_cells hV hF)).now
  obtain ⟨r5, hr5⟩ : ∃ r, decide (x.dt = y.dt) = r := ⟨_, rfl⟩
  rw [hr5] at HBe
  have HR5 := Lib.hid hr5
  have hB2 : ∀ o1 o2, Below w.heap.size w ((w.alloc o1).alloc o2) := fun o1 o2 => ((Below.refl _ _).alloc (Nat.le_refl _) _).alloc (by simp) _
  have HB2 := Lib.hid hB2
  clear hx hy hF hr5 hB2
  go_enter Tryz.func22, Tryz.ntmps22
  go_wp2_with (go_at_call 23; refine (HBe.out _ (HB2.out _ _)).mono ?_; rintro e w' ⟨rfl, rfl⟩)
  all_goals
    go_ret
    refine ⟨?_, HB2.out _ _⟩
    have h5 := HR5.out
    show Ending.returned (Value.bool _) = _
    refine congrArg (fun z => Ending.returned (Value.bool z)) ?_
    simp [alikeB, *]
end Go.Proofs.YtjbjcfnbgcloiaaGreatDoor

/- slices.EqualFunc of rows of versions. -/

namespace Go.Proofs.YtjbjcfnbgcloiaaGreatDoor
open Go.RowKit Nam YtjbjcfnbgcloiaaGreatDoorW.PrintWords

structure KAt (w : World) (g o : Nat) (x : Kp) (A : Option Addr) (c : Nat) : Prop where
  c0 : w.cell? ⟨g, o, none⟩ = some (.int .i64 x.id)
  c1 : w.cell? ⟨g, o + 1, none⟩ = some (.bool x.mark)
  c2 : w.cell? ⟨g, o + 2, none⟩ = some (.int .i64 x.sz)
  c3 : w.cell? ⟨g, o + 3, none⟩ = some (.int .u32 x.sum)
  c4 : w.cell? ⟨g, o + 4, none⟩ = some (.slice A x.dt.length c)
theorem RowV.kat {w : World} {F : Nat → Prop} {g c : Nat} {l : List Kp} {n : Nat} (h : RowV w F (.slice (some ⟨g, 0, none⟩) n c) l) (j : Nat) (hj : j < l.length) : ∃ (x : Kp) (A : Option Addr) (c : Nat), l[j]? = some x ∧ DatF w F A x.dt ∧ KAt w g (j * 5) x A c := by
  obtain ⟨A, c', h1, h2, h3⟩ := h.at_ j (List.getElem?_eq_getElem hj)
  exact ⟨l[j], A, c', List.getElem?_eq_getElem hj, h2, ⟨h3 0 _ rfl, h3 1 _ rfl, h3 2 _ rfl, h3 3 _ rfl, h3 4 _ rfl⟩⟩
theorem KAt.below {w w' : World} {g o : Nat} {x : Kp} {A : Option Addr} {c : Nat} (h : KAt w g o x A c) (hb : Below w.heap.size w w') (hg : g < w.heap.size) : KAt w' g o x A c :=
  ⟨(hb.cell (p := ⟨g, o, none⟩) hg).trans h.c0, (hb.cell (p := ⟨g, o + 1, none⟩) hg).trans h.c1, (hb.cell (p := ⟨g, o + 2, none⟩) hg).trans h.c2, (hb.cell (p := ⟨g, o + 3, none⟩) hg).trans h.c3, (hb.cell (p := ⟨g, o + 4, none⟩) hg).trans h.c4⟩

theorem take_eq_succ {l m : List Kp} {k : Nat} {x y : Kp} (hx : l[k]? = some x) (hy : m[k]? = some y) (h : l.take k = m.take k) (e : x = y) : l.take (k + 1) = m.take (k + 1) := by
  rw [List.take_add_one, List.take_add_one, h, hx, hy, e]

set_option maxHeartbeats 2000000 in
set_option maxRecDepth 100000 in
theorem eqrows_is (w : World) (F F' : Nat → Prop) (v1 v2 : Value) (l m : List Kp) (hF : ∀ k, F k → IsC w k) (hF' : ∀ k, F' k → IsC w k) (h1 : RowV w F v1 l) (h2 : RowV w F' v2 m) (hl : l.length ≤ 100000) (hm : m.length ≤ 100000) :
    Calls Tryz.prog 25 #[v1, v2, .func (.func 22) #[] #[]] w fun e w' => e = .returned (.bool (decide (l = m))) ∧ Below w.heap.size w w' := by
  obtain ⟨A1, k1, hv1, hk1⟩ := h1.slice
  obtain ⟨A2, k2, hv2, hk2⟩ := h2.slice
  obtain ⟨n, hn⟩ : ∃ n, l.length = n := ⟨_, rfl⟩
  obtain ⟨n', hn'⟩ : ∃ n, m.length = n := ⟨_, rfl⟩
  by_cases hlen : n = n'
  · subst hlen
    by_cases h0 : n = 0
    · subst h0
      have e1 := List.length_eq_zero_iff.1 hn
      have e2 := List.length_eq_zero_iff.1 hn'
      subst e1; subst e2
      simp only [List.length_nil] at hv1 hv2
      subst hv1; subst hv2
      clear h1 h2 hF hF' hn hn' hk1 hk2 hl hm
      go_enter Tryz.func25, Tryz.ntmps25
      go_wp2
      go_loopw [17] (fun s17 wr => s17 = .int .i64 0 ∧ Below w.heap.size w wr) (fun s17 _ => 0)
      case atStart => exact ⟨rfl, Below.refl _ _⟩
      case round =>
        obtain ⟨rfl, hbw⟩ := hrel
        go_wp2
        go_ret
        exact ⟨by simp, hbw⟩
    · obtain ⟨g1, c1, e1, f1, _⟩ := h1.full (by intro e; subst e; simp at hn; omega)
      obtain ⟨g2, c2, e2, f2, _⟩ := h2.full (by intro e; subst e; simp at hn'; omega)
      subst e1; subst e2
      have hg1 : g1 < w.heap.size := isC_lt (hF g1 f1)
      have hg2 : g2 < w.heap.size := isC_lt (hF' g2 f2)
      rw [hn] at h1 hl ⊢
      rw [hn'] at h2 hm ⊢
      have eg : ∀ args w, (callFunc 22 args).run Tryz.prog w = .ok (.enter 22 args) w := enters_of Tryz.func22 (by kernel_rfl) rfl
      have HE : Hid (∀ k, k < n → ∃ x A c y B d, l[k]? = some x ∧ m[k]? = some y ∧ (∀ W, Below w.heap.size w W → KAt W g1 (k * 5) x A c ∧ KAt W g2 (k * 5) y B d) ∧
          ∀ W, Below w.heap.size w W → Calls Tryz.prog 22 #[.agg #[.int .i64 x.id, .bool x.mark, .int .i64 x.sz, .int .u32 x.sum, .slice A x.dt.length c], .agg #[.int .i64 y.id, .bool y.mark, .int .i64 y.sz, .int .u32 y.sum, .slice B y.dt.length d]] W fun e w' => e = .returned (.bool (alikeB x y)) ∧ Below w.heap.size w w') := fun k hk => by
        obtain ⟨x, A, c, hx, dx, kx⟩ := h1.kat k (by rw [hn]; exact hk)
        obtain ⟨y, B, d, hy, dy, ky⟩ := h2.kat k (by rw [hn']; exact hk)
        refine ⟨x, A, c, y, B, d, hx, hy, fun W hW => ⟨kx.below hW hg1, ky.below hW hg2⟩, fun W hW => ?_⟩
        refine (alike_is W (fun j => F j ∨ F' j) x y A B c d (fun j hj => ?_) ((dx.kept (below_cells hW hF)).mono fun _ h => .inl h) ((dy.kept (below_cells hW hF')).mono fun _ h => .inr h)).mono fun e w' ⟨he, hb⟩ => ⟨he, hW.trans (hb.mono hW.size)⟩
        rcases hj with hj | hj
        · obtain ⟨a, b, c, hh⟩ := hF j hj
          exact ⟨a, b, c, (hW.block j (isC_lt (hF j hj))).trans hh⟩
        · obtain ⟨a, b, c, hh⟩ := hF' j hj
          exact ⟨a, b, c, (hW.block j (isC_lt (hF' j hj))).trans hh⟩
      have HN := Lib.hid (And.intro hn hn')
      have HG1 : Hid (∀ W, Below w.heap.size w W → g1 < W.heap.size ∧ g2 < W.heap.size) := fun W hW => ⟨Nat.lt_of_lt_of_le hg1 hW.size, Nat.lt_of_lt_of_le hg2 hW.size⟩
      clear h1 h2 hF hF' hn hn' hk1 hk2 hg1 hg2 f1 f2 hv1 hv2
      go_enter Tryz.func25, Tryz.ntmps25
      go_wp2
      go_loopw [17] (fun s17 wr => ∃ k : Nat, k ≤ n ∧ s17 = .int .i64 k ∧ Hid (l.take k = m.take k) ∧ Hid (Below w.heap.size w wr)) (fun s17 _ => n - (intOf s17).toNat)
      case atStart => exact ⟨0, Nat.zero_le _, rfl, (by show _ = _; simp), Below.refl _ _⟩
      case round =>
        obtain ⟨k, hk, rfl, HT, HB⟩ := hrel
        by_cases hlt : k < n
        · have hltz : (k : Int) < (n : Int) := by omega
          obtain ⟨x, A, c, y, B, d, hx, hy, hka, hcl⟩ := HE.out k hlt
          obtain ⟨⟨a0, a1, a2, a3, a4⟩, ⟨b0, b1, b2, b3, b4⟩⟩ := hka wr HB.out
          have HX := Lib.hid hx
          have HY := Lib.hid hy
          have HC := Lib.hid hcl
          obtain ⟨q1, q2⟩ := HG1.out wr HB.out
          have r1 : g1 ≠ wr.heap.size := by omega
          have r2 : g2 ≠ wr.heap.size := by omega
          clear hx hy hcl hka
          cases hq : alikeB x y with
          | true =>
            rw [hq] at HC
            have HQ := Lib.hid hq
            clear hq
            go_wp2_with (go_at_fn 22; refine (HC.out _ (((HB.out.alloc HB.out.size _).alloc (by have := HB.out.size; simp; omega) _))).mono ?_; rintro e w' ⟨rfl, hb'⟩)
            go_roundw
            case rel => exact ⟨k + 1, by omega, by go_num, take_eq_succ HX.out HY.out HT.out ((alikeB_iff _ _).1 HQ.out), hb'⟩
            case measure => simp [intOf]; omega
          | false =>
            rw [hq] at HC
            have HQ := Lib.hid hq
            clear hq
            go_wp2_with (go_at_fn 22; refine (HC.out _ (((HB.out.alloc HB.out.size _).alloc (by have := HB.out.size; simp; omega) _))).mono ?_; rintro e w' ⟨rfl, hb'⟩)
            go_ret
            refine ⟨?_, hb'⟩
            have hne : ¬ l = m := fun e => by
              have hxy := HX.out
              rw [e, HY.out] at hxy
              injection hxy with hxy
              have := HQ.out
              rw [(alikeB_iff _ _).2 hxy.symm] at this
              cases this
            rw [decide_eq_false hne]
            rfl
        · have hltz : ¬ (k : Int) < (n : Int) := by omega
          obtain rfl : k = n := by omega
          go_wp2
          go_ret
          refine ⟨?_, HB.out⟩
          have h3 := HT.out
          rw [List.take_of_length_le (by have := HN.out.1; omega), List.take_of_length_le (by have := HN.out.2; omega)] at h3
          rw [decide_eq_true h3]
          rfl
  · have HR : Hid (decide (l = m) = false) := decide_eq_false (fun e => hlen (by rw [← hn, ← hn', e]))
    have hne : ((n : Int) == n') = false := by simp; omega
    have hne2 : ((n : Int) != n') = true := by simp; omega
    rw [hn] at hv1
    rw [hn'] at hv2
    subst hv1; subst hv2
    clear h1 h2 hF hF' hn hn' hk1 hk2
    go_enter Tryz.func25, Tryz.ntmps25
    go_wp2
    go_ret
    exact ⟨by rw [HR.out]; rfl, Below.refl _ _⟩
end Go.Proofs.YtjbjcfnbgcloiaaGreatDoor

/- Same$2, Same$3, Same of package model: do two models have the same? -/
namespace Go.Proofs.YtjbjcfnbgcloiaaGreatDoor
open Go.RowKit Nam YtjbjcfnbgcloiaaGreatDoorW.PrintWords

abbrev fnAlike : Value := .func (.func 22) #[] #[]
abbrev fnRows (a : Addr) : Value := .func (.func 24) #[] #[.pointer (some a)]
abbrev fnMaps (a : Addr) : Value := .func (.func 27) #[] #[.pointer (some a)]
set_option maxHeartbeats 1000000 in
theorem same2_is (w : World) (F F' : Nat → Prop) (b : Nat) (v1 v2 : Value) (l m : List Kp) (hF : ∀ k, F k → IsC w k) (hF' : ∀ k, F' k → IsC w k) (hb : w.heap[b]? = some (.cells #[fnAlike] 73 (0, 0))) (h1 : RowV w F v1 l) (h2 : RowV w F' v2 m) (hl : l.length ≤ 100000) (hm : m.length ≤ 100000) :
    Calls Tryz.prog 24 #[v1, v2, .pointer (some ⟨b, 0, none⟩)] w fun e w' => e = .returned (.bool (decide (l = m))) ∧ Below w.heap.size w w' := by
  have HE := Lib.hid (eqrows_is w F F' v1 v2 l m hF hF' h1 h2 hl hm)
  have c0 := (blk_cell hb 0).trans (rfl : _ = some fnAlike)
  clear h1 h2 hF hF' hb hl hm
  go_enter Tryz.func24, Tryz.ntmps24
  go_wp2_with (go_at_call 25; refine HE.out.mono ?_; rintro e w' ⟨rfl, hb'⟩)
  go_ret
  exact ⟨rfl, hb'⟩

def Mp (w : World) (F : Nat → Prop) (p : Option Nat) (f : List UInt8 → List Kp) : Prop := ((p = none ∧ f = fun _ => []) ∨ ∃ b n, p = some b ∧ InnerM w F b n f) ∧ ∀ s, (f s).length ≤ 1000
theorem mp_inj {w : World} {F F' : Nat → Prop} {p : Option Nat} {f f' : List UInt8 → List Kp} (h : Mp w F p f) (h' : Mp w F' p f') : f = f' := by
  rcases h.1 with ⟨rfl, rfl⟩ | ⟨b, n, rfl, h1⟩
  · rcases h'.1 with ⟨_, rfl⟩ | ⟨b, n, e, _⟩
    · rfl
    · cases e
  · rcases h'.1 with ⟨e, _⟩ | ⟨b', n', e, h2⟩
    · cases e
    · injection e with e
      subst e
      exact inner_inj h1 h2
theorem Mp.below {w w' : World} {F : Nat → Prop} {p : Option Nat} {f : List UInt8 → List Kp} (h : Mp w F p f) (hb : Below w.heap.size w w') (hF : ∀ k, F k → IsC w k) : Mp w' F p f := by
  refine ⟨?_, h.2⟩
  rcases h.1 with h | ⟨b, n, e, h1⟩
  · exact .inl h
  · obtain ⟨D, h2, _⟩ := id h1
    exact .inr ⟨b, n, e, h1.kept (hb.block b (isM_lt (ownsMap_isM h2))) (below_cells hb hF)⟩
def FullIs (w : World) (F : Nat → Prop) (V : World) (p : Option Nat) (f : List UInt8 → List Kp) : Prop :=
  ∃ D, Go.Proofs.SrcOf Tryz.prog 9 (Rrow w F) V p D ∧ ∀ s, Maps.has D (.string s) = decide (f s ≠ []) ∧ (f s ≠ [] → rowOf w F (D.atKey (.string s) .nil) = f s)
theorem FullIs.below {w : World} {F : Nat → Prop} {V V' : World} {p : Option Nat} {f : List UInt8 → List Kp} (h : FullIs w F V p f) (hb : Below V.heap.size V V') : FullIs w F V' p f := by
  obtain ⟨D, h1, h2⟩ := h
  refine ⟨D, h1.kept (below_grown hb) ?_, h2⟩
  cases p with
  | none => exact .inr rfl
  | some b => exact .inl (by simp)
theorem tok_none {w : World} {F : Nat → Prop} {v : Value} {l : List Kp} {d : DataW Unit} {ps : List MemPlace} (hv : R2 v = some (d, ps)) (h : RowV w F v l) : tokNone d = decide (l = []) := by
  obtain ⟨A, c, he, _⟩ := h.slice
  rcases R2_inv hv with ⟨rfl, rfl⟩ | ⟨g, n, c', rfl, rfl⟩
  · injection he with _ h0 _
    rw [List.length_eq_zero_iff.1 h0.symm]
    rfl
  · injection he with _ h0 _
    show decide ((n : Int) = 0) = _
    rw [h0, decide_eq_decide]
    rw [← List.length_eq_zero_iff]
    omega
set_option maxHeartbeats 1000000 in
set_option maxRecDepth 100000 in
theorem full_nil (w : World) : Calls Tryz.prog 29 #[.map none] w fun e w' => e = .returned (.map none) ∧ Below w.heap.size w w' := by
  have HCl := Lib.hid (AnyW.maps_Clone_nil Tryz.mcloneK w)
  have HDe := Lib.hid (fun fv => AnyDf.maps_DeleteFunc_nil Tryz.mdelK fv w)
  have HB : Hid (Below w.heap.size w (w.alloc (.mapIter none 0 #[] 0))) := (Below.refl _ _).alloc (Nat.le_refl _) _
  go_enter Tryz.func29, Tryz.ntmps29
  go_wp2_with (first | (go_at_call 56; refine HCl.out.mono ?_; rintro e w' ⟨rfl, rfl⟩) | (go_at_call 57; refine (HDe.out _).mono ?_; rintro e w2 ⟨rfl, rfl⟩))
  go_ret
  exact ⟨rfl, HB.out⟩
theorem full_any (w V : World) (F : Nat → Prop) (p : Option Nat) (f : List UInt8 → List Kp) (h : Mp w F p f) (hb : Below w.heap.size w V) :
    Calls Tryz.prog 29 #[.map p] V fun e w' => (∃ p', e = .returned (.map p') ∧ Hid (FullIs w F w' p' f)) ∧ Below V.heap.size V w' := by
  obtain ⟨h, hlen⟩ := h
  rcases h with ⟨rfl, rfl⟩ | ⟨b, n, rfl, hin⟩
  · refine (full_nil V).mono fun e w' ⟨he, hb'⟩ => ⟨⟨none, he, ?_⟩, hb'⟩
    exact ⟨.nil, .inl ⟨rfl, rfl⟩, fun s => ⟨rfl, fun h => absurd rfl h⟩⟩
  · obtain ⟨D, h1, _, h2⟩ := inner_row hin
    have hV := ownsMap_kept h1 (hb.block b (isM_lt (ownsMap_isM h1)))
    refine (full_is V b n D hV).mono fun e w' ⟨⟨b', he, _, ho⟩, hb'⟩ => ⟨⟨some b', he, ?_⟩, hb'⟩
    have hsm := strMap_of h1
    refine ⟨_, .inr ⟨b', n, rfl, ownsMap_re ho fun s v yd yp hv ha => ?_⟩, fun s => ?_⟩
    · have hh := Maps.has_true_of_atKey ha
      obtain ⟨v', ps', h3, h4⟩ := h2 s
      rw [← (sm_del hsm s).2 hh .nil, ha .nil] at h3
      rw [R2_one hv h3, Rrow_of h4 (hlen s), ← R2_one hv h3]
      exact hv
    · obtain ⟨v', ps', h3, h4⟩ := h2 s
      have ht := tok_none h3 h4
      obtain ⟨d1, d2⟩ := sm_del (pd := fun _ yd => tokNone yd) hsm s
      have hhas : Maps.has (Lib.deleteFuncD (fun _ yd => tokNone yd) D) (.string s) = decide (f s ≠ []) := by
        rw [d1, ht]
        by_cases e : f s = []
        · simp [e]
        · have : Maps.has D (.string s) = true := by
            cases hd : Maps.has D (.string s) with
            | true => rfl
            | false =>
              rw [sm_none s hd] at ht
              exact absurd (of_decide_eq_true ht.symm) e
          simp [e, this]
      refine ⟨hhas, fun hne => ?_⟩
      rw [d2 (by rw [hhas, decide_eq_true hne])]
      exact rowOf_eq h3 h4

open Classical in
noncomputable def funEqB (f f' : List UInt8 → List Kp) : Bool := decide (f = f')
open Classical in
theorem funEqB_iff (f f' : List UInt8 → List Kp) : funEqB f f' = true ↔ f = f' := decide_eq_true_iff
theorem eqmap2 (w V : World) (F F' : Nat → Prop) (b : Nat) (p p' : Option Nat) (f f' : List UInt8 → List Kp) (hF : ∀ k, F k → IsC w k) (hF' : ∀ k, F' k → IsC w k) (hb : w.heap[b]? = some (.cells #[fnAlike] 73 (0, 0))) (hV : Below w.heap.size w V) (h : FullIs w F V p f) (h' : FullIs w F' V p' f') :
    Calls Tryz.prog 28 #[.map p, .map p', fnRows ⟨b, 0, none⟩] V fun e w' => e = .returned (.bool (funEqB f f')) ∧ Below V.heap.size V w' := by
  obtain ⟨D, h1, h2⟩ := h
  obtain ⟨D', h1', h2'⟩ := h'
  have eg : ∀ args w, (callFunc 24 args).run Tryz.prog w = .ok (.enter 24 args) w := enters_of Tryz.func24 (by kernel_rfl) rfl
  have hz : Rrow w F' (.slice none 0 0) = some (.nil, []) := Rrow_of (rowV_nil w F') (by simp)
  refine (AnyEq.maps_EqualFunc_opt Tryz.meq2 KS (Rrow w F) (Rrow w F') (fun x y => decide (rowOf w F x = rowOf w F' y)) 24 #[.pointer (some ⟨b, 0, none⟩)] p p' D D' V eg h1 h1' (.slice none 0 0) (fun w => zero77 w) .nil [] hz ?_).mono fun e w' ⟨he, hg⟩ => ⟨?_, grown_below' hg⟩
  · intro W x y xd yd xp yp hg hx hy
    obtain ⟨hx1, l, hx2, hx3⟩ := Rrow_inv hx
    obtain ⟨hy1, m, hy2, hy3⟩ := Rrow_inv hy
    have hW := hV.trans ((grown_below' hg).mono hV.size)
    have hk : ∀ G : Nat → Prop, (∀ k, G k → IsC w k) → ∀ k, G k → IsC W k := fun G hG k hk => by
      obtain ⟨a, b, c, hh⟩ := hG k hk
      exact ⟨a, b, c, (hW.block k (isC_lt (hG k hk))).trans hh⟩
    refine (same2_is W F F' b x y l m (hk F hF) (hk F' hF') (blk_below hb hW) (hx2.kept (below_cells hW hF)) (hy2.kept (below_cells hW hF')) (by omega) (by omega)).mono fun e w' ⟨he, hb'⟩ => ⟨?_, below_grown hb'⟩
    rw [he, rowOf_eq hx1 hx2, rowOf_eq hy1 hy2]
  · have hs : ∀ {G : Nat → Prop} {q : Option Nat} {E : DataW Unit}, Go.Proofs.SrcOf Tryz.prog 9 (Rrow w G) V q E → E = .nil ∨ StrMap E := fun hq => by
      rcases hq with ⟨_, e⟩ | ⟨b, n, _, ho⟩
      · exact .inl e
      · exact .inr (strMap_of ho)
    have hnil : ∀ E : DataW Unit, StrMap E → (Lib.equalFuncD (fun x y => decide (rowOf w F x = rowOf w F' y)) .nil E = Lib.equalFuncD (fun x y => decide (rowOf w F x = rowOf w F' y)) (.map []) E) := fun E _ => rfl
    have key : Lib.equalFuncD (fun x y => decide (rowOf w F x = rowOf w F' y)) D D' = true ↔ (∀ s, Maps.has D (.string s) = Maps.has D' (.string s)) ∧ ∀ s, Maps.has D (.string s) = true → decide (rowOf w F (D.atKey (.string s) .nil) = rowOf w F' (D'.atKey (.string s) .nil)) = true := by
      have e0 : StrMap (.map [] : DataW Unit) := ⟨[], rfl, List.nodup_nil⟩
      rcases hs h1 with rfl | s1 <;> rcases hs h1' with rfl | s2
      · exact equalFunc_iff (eqd := fun x y => decide (rowOf w F x = rowOf w F' y)) (D1 := .map []) (D2 := .map []) e0 e0
      · exact equalFunc_iff (eqd := fun x y => decide (rowOf w F x = rowOf w F' y)) (D1 := .map []) e0 s2
      · exact equalFunc_iff (eqd := fun x y => decide (rowOf w F x = rowOf w F' y)) (D2 := .map []) s1 e0
      · exact equalFunc_iff s1 s2
    rw [he]
    congr 2
    rw [Bool.eq_iff_iff]
    refine Iff.trans key ?_
    rw [funEqB_iff]
    constructor
    · rintro ⟨hh, ha⟩
      funext s
      have e1 := hh s
      rw [(h2 s).1, (h2' s).1] at e1
      by_cases e : f s = []
      · have : f' s = [] := by
          by_cases e' : f' s = []
          · exact e'
          · rw [decide_eq_false (by simp [e]), decide_eq_true e'] at e1
            cases e1
        rw [e, this]
      · have e' : f' s ≠ [] := by
          intro e'
          rw [decide_eq_true e, decide_eq_false (by simp [e'])] at e1
          cases e1
        have := ha s (by rw [(h2 s).1, decide_eq_true e])
        rw [decide_eq_true_iff, (h2 s).2 e, (h2' s).2 e'] at this
        exact this
    · rintro rfl
      refine ⟨fun s => by rw [(h2 s).1, (h2' s).1], fun s hs => ?_⟩
      rw [(h2 s).1, decide_eq_true_iff] at hs
      rw [decide_eq_true_iff, (h2 s).2 hs, (h2' s).2 hs]

set_option maxHeartbeats 2000000 in
set_option maxRecDepth 100000 in
theorem same3_is (w : World) (F F' : Nat → Prop) (b c : Nat) (p p' : Option Nat) (f f' : List UInt8 → List Kp) (hF : ∀ k, F k → IsC w k) (hF' : ∀ k, F' k → IsC w k) (hb : w.heap[b]? = some (.cells #[fnAlike] 73 (0, 0))) (hc : w.heap[c]? = some (.cells #[fnRows ⟨b, 0, none⟩] 75 (0, 0))) (h : Mp w F p f) (h' : Mp w F' p' f') :
    Calls Tryz.prog 27 #[.map p, .map p', .pointer (some ⟨c, 0, none⟩)] w fun e w' => e = .returned (.bool (funEqB f f')) ∧ Below w.heap.size w w' := by
  have HFu : Hid (∀ V p f F, Below w.heap.size w V → Mp w F p f → Calls Tryz.prog 29 #[.map p] V fun e w' => (∃ p', e = .returned (.map p') ∧ Hid (FullIs w F w' p' f)) ∧ Hid (Below V.heap.size V w') ∧ Hid (Below w'.heap.size w' w') ∧ Below w.heap.size w w') := fun V p f F hV hm =>
    (full_any w V F p f hm hV).mono fun e w' ⟨h1, h2⟩ => ⟨h1, h2, Below.refl _ _, hV.trans (h2.mono hV.size)⟩
  have HEq : Hid (∀ V V1 V2 p1 p2, Below w.heap.size w V → Hid (FullIs w F V1 p1 f) → Hid (FullIs w F' V2 p2 f') → Hid (Below V1.heap.size V1 V) → Hid (Below V2.heap.size V2 V) → Calls Tryz.prog 28 #[.map p1, .map p2, fnRows ⟨b, 0, none⟩] V fun e w' => e = .returned (.bool (funEqB f f')) ∧ Below w.heap.size w w') := fun V V1 V2 p1 p2 hV h1 h2 b1 b2 =>
    (eqmap2 w V F F' b p1 p2 f f' hF hF' hb hV (h1.out.below b1.out) (h2.out.below b2.out)).mono fun e w' ⟨he, hb'⟩ => ⟨he, hV.trans (hb'.mono hV.size)⟩
  have HC : Hid (∀ V, Below w.heap.size w V → V.cell? ⟨c, 0, none⟩ = some (fnRows ⟨b, 0, none⟩)) := fun V hV => (blk_cell (blk_below hc hV) 0).trans rfl
  have hb0 : Below w.heap.size w w := Below.refl _ _
  have hb0d : Below w.heap.size w w.drew := (Below.refl _ _).drew
  clear hb hc hF hF'
  go_enter Tryz.func27, Tryz.ntmps27
  go_wp2_with fail
  go_region_held3 (fun V => V.cell? ⟨c, 0, none⟩ = some (fnRows ⟨b, 0, none⟩)) (exact HC.out _ (by assumption)) (first | (go_at_call 29; refine (HFu.out _ _ _ _ (by assumption) (by assumption)).mono ?_; rintro e w' ⟨⟨pp, rfl, HP⟩, HQ1, HQ2, hbq⟩) | (go_at_call 28; refine (HEq.out _ _ _ _ _ (by assumption) (by assumption) (by assumption) (by assumption) (by assumption)).mono ?_; rintro e w' ⟨rfl, hbq⟩))
  all_goals
    go_wp2_with fail
    go_ret
    exact ⟨rfl, by assumption⟩

def SameS (S S' : St) : Prop := (∀ s, s ∈ S.B ↔ s ∈ S'.B) ∧ ∀ s, s ∈ S.B → S.V s = S'.V s
open Classical in
noncomputable def sameB (S S' : St) : Bool := decide (SameS S S')
open Classical in
theorem sameB_iff (S S' : St) : sameB S S' = true ↔ SameS S S' := decide_eq_true_iff
open Classical in
noncomputable def Rmap (w : World) (F : Nat → Prop) (v : Value) : Option (DataW Unit × List MemPlace) := if (∃ p f, v = .map p ∧ Mp w F p f) then R1 v else none
theorem Rmap_of {w : World} {F : Nat → Prop} {p : Option Nat} {f : List UInt8 → List Kp} (h : Mp w F p f) : Rmap w F (.map p) = R1 (.map p) := if_pos ⟨p, f, rfl, h⟩
theorem Rmap_inv {w : World} {F : Nat → Prop} {v : Value} {z : DataW Unit × List MemPlace} (h : Rmap w F v = some z) : R1 v = some z ∧ ∃ p f, v = .map p ∧ Mp w F p f := by
  unfold Rmap at h
  split at h
  · rename_i hl
    exact ⟨h, hl⟩
  · cases h
open Classical in
noncomputable def mapOf (w : World) (F : Nat → Prop) (d : DataW Unit) : List UInt8 → List Kp := if h : ∃ f p ps, R1 (.map p) = some (d, ps) ∧ Mp w F p f then h.choose else fun _ => []
theorem mapOf_eq {w : World} {F : Nat → Prop} {d : DataW Unit} {p : Option Nat} {ps : List MemPlace} {f : List UInt8 → List Kp} (hv : R1 (.map p) = some (d, ps)) (hr : Mp w F p f) : mapOf w F d = f := by
  have h : ∃ f p ps, R1 (.map p) = some (d, ps) ∧ Mp w F p f := ⟨f, p, ps, hv, hr⟩
  unfold mapOf
  rw [dif_pos h]
  obtain ⟨p', ps', h1, h2⟩ := h.choose_spec
  have := R1_one h1 hv
  injection this with this
  rw [this] at h2
  exact mp_inj h2 hr
theorem outer_map {w : World} {g n mb : Nat} {S : St} {Q F : Nat → Prop} {D : DataW Unit} (h : Outer w g S n Q F mb D) (hl : ∀ b k, (S.V b k).length ≤ 1000) : w.ownsMap Tryz.prog 9 (Rmap w F) mb n D ∧ ∀ s, s ∈ S.B → mapOf w F (D.atKey (.string s) .nil) = S.V s := by
  refine ⟨ownsMap_re h.o fun s v yd yp hv ha => ?_, fun s hs => ?_⟩
  · have hh := Maps.has_true_of_atKey ha
    rw [h.hs, decide_eq_true_iff] at hh
    obtain ⟨b, e1, _, _, e4⟩ := h.at_ s hh
    rw [ha .nil] at e1
    subst e1
    have e5 : v = .map (some b) := R1_one hv (show R1 (.map (some b)) = some (.lit (.int .i64 b), []) from rfl)
    subst e5
    rw [Rmap_of ⟨.inr ⟨b, n, rfl, e4⟩, hl s⟩]
    exact hv
  · obtain ⟨b, e1, _, _, e4⟩ := h.at_ s hs
    exact mapOf_eq (p := some b) (ps := []) (by rw [e1]; rfl) ⟨.inr ⟨b, n, rfl, e4⟩, hl s⟩
theorem eqmap1 (w V : World) (F F' : Nat → Prop) (b c : Nat) (g n mb g' n' mb' : Nat) (S S' : St) (Q Q' : Nat → Prop) (D D' : DataW Unit) (hF : ∀ k, F k → IsC w k) (hF' : ∀ k, F' k → IsC w k) (hb : w.heap[b]? = some (.cells #[fnAlike] 73 (0, 0))) (hc : w.heap[c]? = some (.cells #[fnRows ⟨b, 0, none⟩] 75 (0, 0)))
    (h : Outer w g S n Q F mb D) (h' : Outer w g' S' n' Q' F' mb' D') (hl : ∀ b k, (S.V b k).length ≤ 1000) (hl' : ∀ b k, (S'.V b k).length ≤ 1000) (hV : Below w.heap.size w V) :
    Calls Tryz.prog 26 #[.map (some mb), .map (some mb'), fnMaps ⟨c, 0, none⟩] V fun e w' => e = .returned (.bool (sameB S S')) ∧ Below w.heap.size w w' := by
  obtain ⟨o1, t1⟩ := outer_map h hl
  obtain ⟨o1', t1'⟩ := outer_map h' hl'
  have p1 := ownsMap_kept o1 (hV.block mb (isM_lt (ownsMap_isM o1)))
  have p1' := ownsMap_kept o1' (hV.block mb' (isM_lt (ownsMap_isM o1')))
  have eg : ∀ args w, (callFunc 27 args).run Tryz.prog w = .ok (.enter 27 args) w := enters_of Tryz.func27 (by kernel_rfl) rfl
  have hz : Rmap w F' (.map none) = some (.nil, []) := Rmap_of (f := fun _ => []) ⟨.inl ⟨rfl, rfl⟩, fun s => by simp⟩
  refine (AnyEq.maps_EqualFunc_opt Tryz.meq1 KS (Rmap w F) (Rmap w F') (fun x y => funEqB (mapOf w F x) (mapOf w F' y)) 27 #[.pointer (some ⟨c, 0, none⟩)] (some mb) (some mb') D D' V eg (.inr ⟨mb, n, rfl, p1⟩) (.inr ⟨mb', n', rfl, p1'⟩) (.map none) (fun w => zero63 w) .nil [] hz ?_).mono fun e w' ⟨he, hg⟩ => ⟨?_, hV.trans ((grown_below' hg).mono hV.size)⟩
  · intro W x y xd yd xp yp hg hx hy
    obtain ⟨hx1, p, f, rfl, hx2⟩ := Rmap_inv hx
    obtain ⟨hy1, p', f', rfl, hy2⟩ := Rmap_inv hy
    have hW := hV.trans ((grown_below' hg).mono hV.size)
    have hk : ∀ G : Nat → Prop, (∀ k, G k → IsC w k) → ∀ k, G k → IsC W k := fun G hG k hk => by
      obtain ⟨a, b, c, hh⟩ := hG k hk
      exact ⟨a, b, c, (hW.block k (isC_lt (hG k hk))).trans hh⟩
    refine (same3_is W F F' b c p p' f f' (hk F hF) (hk F' hF') (blk_below hb hW) (blk_below hc hW) (hx2.below hW hF) (hy2.below hW hF')).mono fun e w' ⟨he, hb'⟩ => ⟨?_, below_grown hb'⟩
    rw [he, mapOf_eq hx1 hx2, mapOf_eq hy1 hy2]
  · rw [he]
    congr 2
    rw [Bool.eq_iff_iff]
    refine Iff.trans (equalFunc_iff (strMap_of h.o) (strMap_of h'.o)) ?_
    rw [sameB_iff]
    constructor
    · rintro ⟨hh, ha⟩
      have hm : ∀ s, s ∈ S.B ↔ s ∈ S'.B := fun s => by
        have := hh s
        rw [h.hs, h'.hs] at this
        exact decide_eq_decide.1 this
      refine ⟨hm, fun s hs => ?_⟩
      have := ha s (by rw [h.hs, decide_eq_true hs])
      rw [t1 s hs, t1' s ((hm s).1 hs)] at this
      exact (funEqB_iff _ _).1 this
    · rintro ⟨hm, ha⟩
      refine ⟨fun s => by rw [h.hs, h'.hs]; exact decide_eq_decide.2 (hm s), fun s hs => ?_⟩
      rw [h.hs, decide_eq_true_iff] at hs
      rw [t1 s hs, t1' s ((hm s).1 hs)]
      exact (funEqB_iff _ _).2 (ha s hs)

set_option maxHeartbeats 2000000 in
set_option maxRecDepth 100000 in
theorem same_is (w : World) (g g' n n' : Nat) (S S' : St) (Q Q' F F' : Nat → Prop) (h : HasM w g S n Q F) (h' : HasM w g' S' n' Q' F') (hl : ∀ b k, (S.V b k).length ≤ 1000) (hl' : ∀ b k, (S'.V b k).length ≤ 1000) :
    Calls Tryz.prog 11 #[.pointer (some ⟨g, 0, none⟩), .pointer (some ⟨g', 0, none⟩)] w fun e w' => e = .returned (.bool (sameB S S')) ∧ Below w.heap.size w w' := by
  obtain ⟨W1, hW1⟩ : ∃ W1, w.alloc (.cells #[fnAlike] 73) = W1 := ⟨_, rfl⟩
  obtain ⟨W2, hW2⟩ : ∃ W2, W1.alloc (.cells #[fnRows ⟨w.heap.size, 0, none⟩] 75) = W2 := ⟨_, rfl⟩
  have hb1 : Below w.heap.size w W1 := by rw [← hW1]; exact (Below.refl _ _).alloc (Nat.le_refl _) _
  have hb2 : Below W1.heap.size W1 W2 := by rw [← hW2]; exact (Below.refl _ _).alloc (Nat.le_refl _) _
  have hs1 : W1.heap.size = w.heap.size + 1 := by rw [← hW1]; simp
  have hb02 := hb1.trans (hb2.mono hb1.size)
  have k1 : W2.heap[w.heap.size]? = some (.cells #[fnAlike] 73 (0, 0)) := by
    rw [hb2.block _ (by omega), ← hW1]
    exact heap_alloc_new w _
  have k2 : W2.heap[w.heap.size + 1]? = some (.cells #[fnRows ⟨w.heap.size, 0, none⟩] 75 (0, 0)) := by
    rw [← hs1, ← hW2]
    exact heap_alloc_new W1 _
  have m1 := h.below hb02
  have m1' := h'.below hb02
  obtain ⟨mb, D, hO⟩ := m1.ex
  obtain ⟨mb', D', hO'⟩ := m1'.ex
  have HEq : Hid (∀ V, Below W2.heap.size W2 V → Calls Tryz.prog 26 #[.map (some mb), .map (some mb'), fnMaps ⟨w.heap.size + 1, 0, none⟩] V fun e w' => e = .returned (.bool (sameB S S')) ∧ Below W2.heap.size W2 w') := fun V hV =>
    eqmap1 W2 V F F' _ _ g n mb g' n' mb' S S' Q Q' D D' m1.f m1'.f k1 k2 hO hO' hl hl' hV
  have HC : Hid (∀ V, Below W2.heap.size W2 V → V.cell? ⟨g, 0, none⟩ = some (.map (some mb)) ∧ V.cell? ⟨g', 0, none⟩ = some (.map (some mb'))) := fun V hV =>
    ⟨(blk_cell (blk_below hO.c hV) 0).trans rfl, (blk_cell (blk_below hO'.c hV) 0).trans rfl⟩
  have HB := Lib.hid hb02
  have hbb : Below W2.heap.size W2 W2 := Below.refl _ _
  have hbbd : Below W2.heap.size W2 W2.drew := (Below.refl _ _).drew
  clear h h' hl hl' m1 m1' hO hO' k1 k2 hb1 hb2 hs1 hb02
  subst hW1
  go_enter Tryz.func11, Tryz.ntmps11
  go_upto_region 5 with (fail)
  clear hW2
  go_wp2_with fail
  go_region_held3 (fun V => V.cell? ⟨g, 0, none⟩ = some (.map (some mb)) ∧ V.cell? ⟨g', 0, none⟩ = some (.map (some mb'))) (exact HC.out _ (by assumption)) ((go_at_call 26; refine (HEq.out _ (by assumption)).mono ?_; rintro e w' ⟨rfl, hbq⟩))
  all_goals
    go_wp2_with fail
    go_ret
    exact ⟨rfl, HB.out.trans (hbq.mono HB.out.size)⟩
end Go.Proofs.YtjbjcfnbgcloiaaGreatDoor

/- One choice on a model, its names' verbs together; models beside each other. -/

namespace Go.Proofs.YtjbjcfnbgcloiaaGreatDoor
open Go.RowKit Nam YtjbjcfnbgcloiaaGreatDoorW.PrintWords

structure St.Fine (S : St) : Prop where
  len : ∀ b k, (S.V b k).length ≤ 64
  dt : ∀ b k, ∀ y ∈ S.V b k, y.dt.length ≤ 65536
theorem fine_new : St.Fine St.new := ⟨fun _ _ => Nat.zero_le _, fun _ _ y h => by cases h⟩
theorem fine_put {S : St} (h : S.Fine) (b k : List UInt8) (l : List Kp) (hl : l.length ≤ 64) (hd : ∀ y ∈ l, y.dt.length ≤ 65536) : (S.put b k l).Fine := by
  refine ⟨fun b' k' => ?_, fun b' k' y hy => ?_⟩
  · show (if b' = b ∧ k' = k then l else S.V b' k').length ≤ 64
    split
    · exact hl
    · exact h.len _ _
  · have hy' : y ∈ (if b' = b ∧ k' = k then l else S.V b' k') := hy
    split at hy'
    · exact hd y hy'
    · exact h.dt _ _ y hy'
theorem moreE_len {l : List Kp} {x : Kp} (h : moreE l x = 0) : l.length < 64 := by
  unfold moreE at h
  split at h
  · cases h
  · omega
theorem fine_snoc {S : St} (h : S.Fine) (b k : List UInt8) (x : Kp) (hm : moreE (S.V b k) x = 0) (hd : x.dt.length ≤ 65536) : (S.put b k (S.V b k ++ [x])).Fine := by
  have := moreE_len hm
  refine fine_put h b k _ (by simp; omega) fun y hy => ?_
  rcases List.mem_append.1 hy with hy | hy
  · exact h.dt _ _ y hy
  · rw [List.mem_singleton] at hy
    subst hy
    exact hd
theorem putE_more {S : St} {id : Int} {b k d : List UInt8} (h : S.putE id b k d = 0) : moreE (S.V b k) (kpOf id d) = 0 ∧ d.length ≤ 65536 ∧ b ∈ S.B ∧ namedB b k = true := by
  unfold St.putE at h
  split at h
  · cases h
  · rename_i h1
    split at h
    · cases h
    · split at h
      · cases h
      · rename_i h2 h3
        exact ⟨h, by omega, Classical.not_not.1 h3, by simpa using h1⟩
theorem fine_doPut {S : St} (h : S.Fine) (id : Int) (b k d : List UInt8) : (S.doPut id b k d).Fine := by
  unfold St.doPut
  split
  · rename_i hp
    obtain ⟨h1, h2, _⟩ := putE_more hp
    exact fine_snoc h b k _ h1 h2
  · exact h
theorem delE_more {S : St} {id : Int} {b k : List UInt8} (h : S.delE id b k = 0) : S.findE b k 0 0 = 0 ∧ moreE (S.V b k) (kpDel id) = 0 := by
  unfold St.delE at h
  by_cases hf : S.findE b k 0 0 = 0
  · rw [if_neg (by simp [hf])] at h
    exact ⟨hf, h⟩
  · rw [if_pos hf] at h
    exact absurd h hf
theorem fine_doDel {S : St} (h : S.Fine) (id : Int) (b k : List UInt8) : (S.doDel id b k).Fine := by
  unfold St.doDel
  split
  · rename_i hp
    exact fine_snoc h b k _ (delE_more hp).2 (by simp [kpDel])
  · exact h
theorem fine_doEra {S : St} (h : S.Fine) (b k : List UInt8) (id : Int) : (S.doEra b k id).Fine := by
  unfold St.doEra
  split
  · refine fine_put h b k _ ?_ fun y hy => ?_
    · unfold St.eraL
      have := h.len b k
      simp
      omega
    · unfold St.eraL at hy
      rcases List.mem_append.1 hy with hy | hy
      · exact h.dt _ _ y (List.mem_of_mem_take hy)
      · exact h.dt _ _ y (List.mem_of_mem_drop hy)
  · exact h

def St.callS (S : St) (x : Ch) (id : Int) : St :=
  if x.d = 4 then S.doPut id x.bk x.ky x.dt else if x.d = 7 then S.doDel id x.bk x.ky else if x.d = 8 then S.doEra x.bk x.ky x.n else S
theorem fine_callS {S : St} (h : S.Fine) (x : Ch) (id : Int) : (S.callS x id).Fine := by
  unfold St.callS
  split
  · exact fine_doPut h _ _ _ _
  · split
    · exact fine_doDel h _ _ _
    · split
      · exact fine_doEra h _ _ _
      · exact h
def One (w0 W : World) (g : Nat) (S : St) (n : Nat) : Prop := Below w0.heap.size w0 W ∧ ∃ Q F, HasM W g S n Q F ∧ ∀ k, Q k → w0.heap.size ≤ k
theorem One.below {w0 W V : World} {g n : Nat} {S : St} (h : One w0 W g S n) (hb : Below W.heap.size W V) : One w0 V g S n := by
  obtain ⟨h1, Q, F, h2, h3⟩ := h
  exact ⟨h1.trans (hb.mono h1.size), Q, F, h2.below hb, h3⟩
theorem one_new (w0 W : World) (hb : Below w0.heap.size w0 W) : Calls Tryz.prog 7 #[] W fun e w' => ∃ g, e = .returned (.pointer (some ⟨g, 0, none⟩)) ∧ One w0 w' g St.new 0 :=
  (new_is W).mono fun e w' ⟨⟨g, Q, F, he, h1, h2, _⟩, hb2⟩ => ⟨g, he, hb.trans (hb2.mono hb.size), Q, F, h1, fun k hk => Nat.le_trans hb.size (h2 k hk)⟩
theorem one_make {w0 W : World} {g n : Nat} {S : St} (h : One w0 W g S n) (s : List UInt8) (hs : s.length ≤ 100000) (hn : n ≤ 100000) :
    Calls Tryz.prog 16 #[.pointer (some ⟨g, 0, none⟩), .string (mkS s)] W fun e w' => e = .returned (.int .i64 (S.make s).2) ∧ One w0 w' g (S.make s).1 (n + 1) := by
  obtain ⟨h1, Q, F, h2, h3⟩ := h
  refine (make_is W g S n Q F s hs hn h2).mono fun e w' ⟨Q', he, k1, k2, k3⟩ => ⟨he, k2.below h1 h1.size h3, Q', F, k1, fun k hk => ?_⟩
  rcases k3 k hk with h | h
  · exact h3 k h
  · exact Nat.le_trans h1.size h
theorem sameB_self (S : St) : sameB S S = true := (sameB_iff S S).2 ⟨fun _ => Iff.rfl, fun _ _ => rfl⟩
end Go.Proofs.YtjbjcfnbgcloiaaGreatDoor

/- The first sentence of each law of layer 22: a bucket, a key, its version. -/
namespace Go.Proofs.YtjbjcfnbgcloiaaGreatDoor
open Go.RowKit Nam YtjbjcfnbgcloiaaGreatDoorW.PrintWords

def abc : List UInt8 := [97, 98, 99]
def kx : List UInt8 := [107]
def S1 : St := ⟨[abc], fun _ _ => []⟩
theorem abc_bucket : bucketB abc = true := by decide
theorem abc_named : namedB abc kx = true := by decide
theorem make_abc : St.new.make abc = (S1, 0) := by
  unfold St.make
  rw [if_neg (by rw [abc_bucket]; simp), if_neg (by simp [St.new]), if_neg (by simp [St.new])]
  rfl
theorem fine_S1 : S1.Fine := ⟨fun _ _ => Nat.zero_le _, fun _ _ y h => by cases h⟩
theorem put_ok {S : St} {id : Int} {b k d : List UInt8} (h1 : namedB b k = true) (h2 : d.length ≤ 65536) (h3 : b ∈ S.B) (h4 : (S.V b k).length < 64) (h5 : 1 ≤ id) (h6 : id ≤ 2147483647) (h7 : ∀ y ∈ S.V b k, y.id < id) : S.putE id b k d = 0 := by
  unfold St.putE
  rw [if_neg (by rw [h1]; simp), if_neg (by omega), if_neg (fun e => e h3)]
  unfold moreE
  rw [if_neg (by omega), if_neg (by show ¬ (id < 1 ∨ 2147483647 < id); omega)]
  cases hl : (S.V b k).getLast? with
  | none => rfl
  | some y =>
    show (if id ≤ y.id then (1 : Int) else 0) = 0
    have := h7 y (List.mem_of_getLast? hl)
    rw [if_neg (by omega)]
theorem put_at (S : St) (b k : List UInt8) (l : List Kp) : (S.put b k l).V b k = l := if_pos ⟨rfl, rfl⟩
theorem doPut_ok {S : St} {id : Int} {b k d : List UInt8} (h : S.putE id b k d = 0) : S.doPut id b k d = S.put b k (S.V b k ++ [kpOf id d]) := if_pos h
theorem one_put {w0 W : World} {g n : Nat} {S : St} (h : One w0 W g S n) (id : Int) (b k d : List UInt8) (A : Option Addr) (c : Nat) (hb : b.length ≤ 100000) (hk : k.length ≤ 100000) (hd : d.length ≤ 1000000) (hn : n ≤ 100000) (hC : (Kd.int .u8).C W A d.length (byN d)) (hT : Tabs W) (hE : S.putE id b k d = 0) :
    Calls Tryz.prog 17 #[.pointer (some ⟨g, 0, none⟩), .int .i64 id, .string (mkS b), .string (mkS k), .slice A d.length c] W fun e w' =>
      e = .returned (.tuple #[.agg #[.int .i64 id, .bool false, .int .i64 (d.length : Int), .int .u32 (sumC d)], .int .i64 0]) ∧ One w0 w' g (S.put b k (S.V b k ++ [kpOf id d])) (n + 1) := by
  obtain ⟨h1, Q, F, h2, h3⟩ := h
  refine (put_is W g S n Q F id b k d A c hb hk hd hn h2 hC hT).mono fun e w' ⟨he, ⟨F', k1, _⟩, k2⟩ => ⟨?_, k2.below h1 h1.size h3, Q, F', ?_, h3⟩
  · rw [he, hE, if_pos rfl]
    rfl
  · rw [doPut_ok hE] at k1
    exact k1
theorem one_get {w0 W : World} {g n : Nat} {S : St} (h : One w0 W g S n) (b k : List UInt8) (y : Kp) (hb : b.length ≤ 100000) (hk : k.length ≤ 100000) (hS : S.Fine) (hT : Tabs W) (h1 : namedB b k = true) (h2 : b ∈ S.B) (h3 : (S.V b k).getLast? = some y) (h4 : y.mark = false) :
    Calls Tryz.prog 20 #[.pointer (some ⟨g, 0, none⟩), .string (mkS b), .string (mkS k), .int .i64 0] W fun e w' =>
      (∃ A c, e = .returned (.tuple #[.agg #[.int .i64 y.id, .bool y.mark, .int .i64 y.sz, .int .u32 y.sum], .slice A y.dt.length c, .int .i64 0]) ∧ ∀ V, Below w'.heap.size w' V → (Kd.int .u8).C V A y.dt.length (byN y.dt)) ∧ Below W.heap.size W w' := by
  obtain ⟨_, Q, F, hm, _⟩ := h
  have hne : S.V b k ≠ [] := fun e => by rw [e] at h3; cases h3
  have hpos := List.length_pos_iff.2 hne
  have hi : idxK 0 (S.V b k) = (((S.V b k).length - 1 : Nat) : Int) := by
    unfold idxK
    rw [if_pos rfl]
    omega
  have hf : S.findE b k 0 0 = 0 := by
    unfold St.findE
    rw [if_neg (by rw [h1]; simp), if_neg (by decide), if_neg (fun e => e h2), if_neg hne, if_neg (by rw [hi]; omega)]
  have hK : S.getK b k 0 = some y := by
    unfold St.getK
    rw [hi, Int.toNat_natCast, ← List.getLast?_eq_getElem?]
    exact h3
  have hE : S.getE b k 0 = 0 := by
    unfold St.getE
    rw [if_neg (by simp [hf]), hK]
    simp [h4]
  refine (get_is W g S n Q F b k 0 hb hk (by have := hS.len b k; omega) (fun y hy => by have := hS.dt _ _ y hy; omega) hm hT).mono fun e w' ⟨⟨y', v, he, hc⟩, hb'⟩ => ⟨?_, hb'⟩
  rw [hE] at he
  rcases hc with ⟨q, _⟩ | ⟨_, _, q, _⟩ | ⟨_, q2, _, _, A, c, rfl, _, Fb, q7, q8⟩
  · exact absurd hf q
  · rw [hE] at q; cases q
  · rw [hK] at q2
    injection q2 with q2
    subst q2
    exact ⟨A, c, he, fun V hV => (q7.kept fun j hj => hV.block j (isC_lt (q8 j hj).1)).now⟩
theorem lit_bytes {w : World} {b : Nat} {t : TypeId} {fr : Nat × Nat} (l : List UInt8) (hl : l.length ≤ 1000) (h : w.heap[b]? = some (.cells ((byN l).map (Value.int .u8)).toArray t fr)) : (Kd.int .u8).C w (some ⟨b, 0, none⟩) l.length (byN l) := by
  refine Kd.C_of_reads (enc := Value.int .u8) (d := (0 : Int)) (h1 := fun _ => rfl) ⟨byN_length l, by omega, fun _ => ⟨_, rfl, fun j hj => ?_⟩⟩
  have hj2 : j < (byN l).length := by rw [byN_length]; exact hj
  have : w.cell? ⟨b, j, none⟩ = ((byN l).map (Value.int .u8)).toArray[j]? := by simp [World.cell?, h]
  simp only [List.getElem?_toArray, List.getElem?_map, List.getElem?_eq_getElem hj2, Option.map_some] at this
  rw [show (⟨b, 0, none⟩ : Addr).add j = ⟨b, j, none⟩ by rw [Addr.add_mid, Nat.zero_add]]
  rw [this, List.getD_eq_getElem?_getD, List.getElem?_eq_getElem hj2, Option.getD_some]

def S2 : St := S1.put abc kx (S1.V abc kx ++ [kpOf 2 [120]])
def S3 : St := S2.put abc kx (S2.V abc kx ++ [kpOf 3 [121, 122]])
theorem s1_V : S1.V abc kx = [] := rfl
theorem s2_V : S2.V abc kx = [kpOf 2 [120]] := put_at _ _ _ _
theorem s3_V : S3.V abc kx = [kpOf 2 [120], kpOf 3 [121, 122]] := (put_at _ _ _ _).trans (by rw [s2_V]; rfl)
theorem p1_ok : S1.putE 2 abc kx [120] = 0 := put_ok abc_named (by decide) (by simp [S1]) (by rw [s1_V]; decide) (by decide) (by decide) (by rw [s1_V]; intro y h; cases h)
theorem p2_ok : S2.putE 3 abc kx [121, 122] = 0 := put_ok abc_named (by decide) (by simp [S2, S1, St.put]) (by rw [s2_V]; decide) (by decide) (by decide) (by
  rw [s2_V]
  intro y h
  rw [List.mem_singleton] at h
  subst h
  decide)
theorem fine_S2 : S2.Fine := by
  have := fine_doPut fine_S1 2 abc kx [120]
  rw [doPut_ok p1_ok] at this
  exact this
theorem fine_S3 : S3.Fine := by
  have := fine_doPut fine_S2 3 abc kx [121, 122]
  rw [doPut_ok p2_ok] at this
  exact this
theorem p3_last : (S3.V abc kx).getLast? = some (kpOf 3 [121, 122]) := by rw [s3_V]; rfl
set_option maxHeartbeats 2000000 in
set_option maxRecDepth 100000 in
theorem awake_is (w : World) (hT : Tabs w) : Calls Tryz.prog 5 #[] w fun e w' => e = .returned (.bool true) ∧ Below w.heap.size w w' := by
  have HNew : Hid (Calls Tryz.prog 7 #[] w fun e w' => ∃ g, e = .returned (.pointer (some ⟨g, 0, none⟩)) ∧ Hid (One w w' g St.new 0)) := one_new w w (Below.refl _ _)
  have HMk : Hid (∀ W g, One w W g St.new 0 → Calls Tryz.prog 16 #[.pointer (some ⟨g, 0, none⟩), .string ⟨#[97, 98, 99]⟩] W fun e w' => e = .returned (.int .i64 0) ∧ Hid (One w w' g S1 1)) := fun W g h =>
    (one_make h abc (by decide) (by decide)).mono fun e w' ⟨he, ho⟩ => by
      rw [make_abc] at he ho
      exact ⟨he, ho⟩
  have HP1 : Hid (∀ W g, One w W g S1 1 → Calls Tryz.prog 17 #[.pointer (some ⟨g, 0, none⟩), .int .i64 2, .string ⟨#[97, 98, 99]⟩, .string ⟨#[107]⟩, .slice (some ⟨W.heap.size, 0, none⟩) 1 1] (W.alloc (.cells #[.int .u8 120] 5 (1, 2))) fun e w' => e = .returned (.tuple #[.agg #[.int .i64 2, .bool false, .int .i64 1, .int .u32 (sumC [120])], .int .i64 0]) ∧ Hid (One w w' g S2 2)) := fun W g h => by
    have hb := (Below.refl W.heap.size W).alloc (Nat.le_refl _) (.cells #[.int .u8 120] 5 (1, 2))
    exact one_put (h.below hb) 2 abc kx [120] (some ⟨W.heap.size, 0, none⟩) 1 (by decide) (by decide) (by decide) (by decide) (lit_bytes [120] (by decide) (blk_new W _)) (hT.below (h.1.trans (hb.mono h.1.size))) p1_ok
  have HP2 : Hid (∀ W g, One w W g S2 2 → Calls Tryz.prog 17 #[.pointer (some ⟨g, 0, none⟩), .int .i64 3, .string ⟨#[97, 98, 99]⟩, .string ⟨#[107]⟩, .slice (some ⟨W.heap.size, 0, none⟩) 2 2] (W.alloc (.cells #[.int .u8 121, .int .u8 122] 5 (2, 3))) fun e w' => e = .returned (.tuple #[.agg #[.int .i64 3, .bool false, .int .i64 2, .int .u32 (sumC [121, 122])], .int .i64 0]) ∧ Hid (One w w' g S3 3)) := fun W g h => by
    have hb := (Below.refl W.heap.size W).alloc (Nat.le_refl _) (.cells #[.int .u8 121, .int .u8 122] 5 (2, 3))
    exact one_put (h.below hb) 3 abc kx [121, 122] (some ⟨W.heap.size, 0, none⟩) 2 (by decide) (by decide) (by decide) (by decide) (lit_bytes [121, 122] (by decide) (blk_new W _)) (hT.below (h.1.trans (hb.mono h.1.size))) p2_ok
  obtain ⟨sm, hsm⟩ : ∃ sm, sumC [121, 122] = sm := ⟨_, rfl⟩
  obtain ⟨sn, hsn⟩ : ∃ sn, sumC [120] = sn := ⟨_, rfl⟩
  have HGe : Hid (∀ W g, One w W g S3 3 → Calls Tryz.prog 20 #[.pointer (some ⟨g, 0, none⟩), .string ⟨#[97, 98, 99]⟩, .string ⟨#[107]⟩, .int .i64 0] W fun e w' => (∃ A c, e = .returned (.tuple #[.agg #[.int .i64 3, .bool false, .int .i64 2, .int .u32 sm], .slice A 2 c, .int .i64 0]) ∧ Hid (∀ V, Below w'.heap.size w' V → (convert 30 9 (.slice A 2 c)).run Tryz.prog V = .ok (.string ⟨#[121, 122]⟩) V)) ∧ Hid (Below W.heap.size W w') ∧ Hid (Below w.heap.size w w')) := fun W g h =>
    (one_get h abc kx (kpOf 3 [121, 122]) (by decide) (by decide) fine_S3 (hT.below h.1) abc_named (by simp [S3, S2, S1, St.put]) p3_last rfl).mono fun e w' ⟨⟨A, c, he, hC⟩, hb⟩ => by
      subst hsm
      refine ⟨⟨A, c, he, fun V hV => ?_⟩, hb, h.1.trans (hb.mono h.1.size)⟩
      have := Kd.C_string (P := Tryz.prog) Tryz.underlying30 Tryz.underlying5 Tryz.underlying9 (c := c) (hC V hV)
      rw [byN_str] at this
      exact this
  rw [hsm] at HP2
  rw [hsn] at HP1
  have kc := fun (w : World) (C : Array Value) (n c : Nat) => Lib.run_convert_bytes_const (P := Tryz.prog) w 30 5 C n c Tryz.underlying30 Tryz.underlying5
  clear hT hsm hsn
  go_enter Tryz.func5, Tryz.ntmps5
  go_wp2_with fail
  refine HNew.out.mono ?_
  rintro e w1 ⟨g, rfl, H1⟩
  go_wp2_with fail
  refine (HMk.out _ _ H1.out).mono ?_
  rintro e w2 ⟨rfl, H2⟩
  go_wp2_with fail
  refine (HP1.out _ _ H2.out).mono ?_
  rintro e w3 ⟨rfl, H3⟩
  have kc2 := kc (w3.alloc (.cells #[.int .i64 2, .bool false, .int .i64 1, .int .u32 sn] 38)) #[.int .u8 121, .int .u8 122] 2 2
  rw [show (w3.alloc (.cells #[.int .i64 2, .bool false, .int .i64 1, .int .u32 sn] 38)).heap.size = w3.heap.size + 1 by simp] at kc2
  have H3b : Hid (∀ o, One w (w3.alloc o) g S2 2) := fun o => H3.out.below ((Below.refl _ _).alloc (Nat.le_refl _) _)
  go_wp2_with fail
  have hp3 := HP2.out _ _ (H3b.out (.cells #[.int .i64 2, .bool false, .int .i64 1, .int .u32 sn] 38))
  rw [show (w3.alloc (.cells #[.int .i64 2, .bool false, .int .i64 1, .int .u32 sn] 38)).heap.size = w3.heap.size + 1 by simp] at hp3
  have HP3 := Lib.hid hp3
  clear hp3
  refine HP3.out.mono ?_
  rintro e w4 ⟨rfl, H4⟩
  have H4b : Hid (∀ o, One w (w4.alloc o) g S3 3) := fun o => H4.out.below ((Below.refl _ _).alloc (Nat.le_refl _) _)
  go_wp2_with fail
  refine (HGe.out _ _ (H4b.out _)).mono ?_
  rintro e w5 ⟨⟨A, c, rfl, HCv⟩, HB5, HW5⟩
  have q5 := blk_below (blk_new w4 (.cells #[.int .i64 3, .bool false, .int .i64 2, .int .u32 sm] 38)) HB5.out
  have v0 := (blk_cell q5 0).trans (rfl : _ = some (Value.int .i64 3))
  have v1 := (blk_cell q5 1).trans (rfl : _ = some (Value.bool false))
  have v2 := (blk_cell q5 2).trans (rfl : _ = some (Value.int .i64 2))
  have v3 := (blk_cell q5 3).trans (rfl : _ = some (Value.int .u32 sm))
  have lt5 := blk_lt q5
  have ne5 : w4.heap.size ≠ w5.heap.size := by omega
  have cv := HCv.out (w5.alloc (.cells #[.int .i64 3, .bool false, .int .i64 2, .int .u32 sm] 38)) ((Below.refl _ _).alloc (Nat.le_refl _) _)
  clear q5
  go_wp2_with fail
  go_ret
  exact ⟨rfl, HW5.out.alloc HW5.out.size _⟩
end Go.Proofs.YtjbjcfnbgcloiaaGreatDoor

/- Remove of package model. -/
namespace Go.Proofs.YtjbjcfnbgcloiaaGreatDoor
open Go.RowKit Nam YtjbjcfnbgcloiaaGreatDoorW.PrintWords

open Classical in
noncomputable def St.remove (S : St) (s : List UInt8) : St × Int :=
  if bucketB s = false then (S, 12) else if s ∉ S.B then (S, 13) else if (∃ k, S.V s k ≠ []) then (S, 17) else (⟨S.B.filter (fun t => decide (t ≠ s)), S.V⟩, 0)
theorem remove_12 {S : St} {s : List UInt8} (h : bucketB s = false) : S.remove s = (S, 12) := if_pos h
theorem remove_13 {S : St} {s : List UInt8} (h : bucketB s = true) (hs : s ∉ S.B) : S.remove s = (S, 13) := by
  unfold St.remove
  rw [if_neg (by rw [h]; simp), if_pos hs]
theorem remove_17 {S : St} {s : List UInt8} (h : bucketB s = true) (hs : s ∈ S.B) (k : List UInt8) (hk : S.V s k ≠ []) : S.remove s = (S, 17) := by
  unfold St.remove
  rw [if_neg (by rw [h]; simp), if_neg (fun e => e hs), if_pos ⟨k, hk⟩]
theorem remove_0 {S : St} {s : List UInt8} (h : bucketB s = true) (hs : s ∈ S.B) (hk : ∀ k, S.V s k = []) : S.remove s = (⟨S.B.filter (fun t => decide (t ≠ s)), S.V⟩, 0) := by
  unfold St.remove
  rw [if_neg (by rw [h]; simp), if_neg (fun e => e hs), if_neg (fun ⟨k, e⟩ => e (hk k))]
theorem fine_remove {S : St} (h : S.Fine) (s : List UInt8) : (S.remove s).1.Fine := by
  unfold St.remove
  split
  · exact h
  · split
    · exact h
    · split
      · exact h
      · exact ⟨h.len, h.dt⟩
def RemIs (S : St) (n : Nat) (Q F : Nat → Prop) (g : Nat) (s : List UInt8) (w : World) (e : Ending) (w' : World) : Prop :=
  e = .returned (.int .i64 (S.remove s).2) ∧ HasM w' g (S.remove s).1 n Q F ∧ Moved Q w w'
theorem rem_same {S : St} {n : Nat} {Q F : Nat → Prop} {g : Nat} {s : List UInt8} {w w' : World} {r : Int} (h : S.remove s = (S, r)) (hm : HasM w g S n Q F) (hb : Below w.heap.size w w') : RemIs S n Q F g s w (.returned (.int .i64 r)) w' := by
  unfold RemIs
  rw [h]
  exact ⟨rfl, hm.below hb, Moved.of_below hb⟩
theorem moved_turned {w w' : World} {b : Nat} (h : w.mapTurned w' b) : Moved (fun j => j = b) w w' := by
  have hg := h.grown
  exact ⟨hg.os, hg.tape, hg.output, hg.size, fun k hk hn => hg.block k hk (fun e => hn (by injection e))⟩
theorem removed {w w2 : World} {g n mb : Nat} {S : St} {Q F : Nat → Prop} {D : DataW Unit} {s : List UInt8} (h : Outer w g S n Q F mb D) (hq : ∀ k, Q k → IsM w k) (hF : ∀ k, F k → IsC w k) (nd : S.B.Nodup) (off : ∀ s, s ∉ S.B → ∀ k, S.V s k = []) (hs : s ∈ S.B) (hV : ∀ k, S.V s k = [])
    (hown : w2.ownsMap Tryz.prog 9 R1 mb n (D.del (.string s))) (hm : Moved (fun j => j = mb) w w2) : HasM w2 g ⟨S.B.filter (fun t => decide (t ≠ s)), S.V⟩ n Q F ∧ Moved Q w w2 := by
  obtain ⟨h1, hfg, h2, h3, h4, h5, h6, h7⟩ := h
  have hck : FKept F w w2 := hm.cells (fun j hj => by subst hj; exact hq _ h3) hF
  have hmem : ∀ t, t ∈ S.B.filter (fun t => decide (t ≠ s)) ↔ t ∈ S.B ∧ t ≠ s := fun t => by simp
  have hD : Maps.has D (.string s) = true := by rw [h5, decide_eq_true hs]
  refine ⟨⟨fun k hk => ?_, fun k hk => ?_, nd.filter _, fun t ht k => ?_, mb, _, (hck g hfg).trans h1, hfg, hown, h3, ?_, fun t => ?_, fun t ht => ?_, fun t ht t' ht' he => ?_⟩, ⟨hm.os, hm.tape, hm.output, hm.size, fun k hk hn => hm.block k hk (fun e => hn (by rw [e]; exact h3))⟩⟩
  · by_cases e : k = mb
    · subst e; exact ownsMap_isM hown
    · obtain ⟨a, b, hh⟩ := hq k hk
      exact ⟨a, b, (hm.block k (isM_lt (hq k hk)) e).trans hh⟩
  · obtain ⟨a, b, c, hh⟩ := hF k hk
    exact ⟨a, b, c, (hck k hk).trans hh⟩
  · by_cases e : t = s
    · rw [e]; exact hV k
    · exact off t (fun e' => ht ((hmem t).2 ⟨e', e⟩)) k
  · have hsz := Maps.size_del (k := .string s) (h2.tidy KS)
    rw [hD, if_pos rfl, h4] at hsz
    have hl : (S.B.filter (fun t => decide (t ≠ s))).length + 1 = S.B.length := by
      have hp : (S.B.filter (fun t => decide (t ≠ s))) = S.B.erase s := (List.Nodup.erase_eq_filter nd s).symm ▸ (List.filter_congr fun x _ => by by_cases e : x = s <;> simp [e])
      rw [hp, List.length_erase_of_mem hs]
      have := List.length_pos_of_mem hs
      omega
    show Maps.size (D.del (.string s)) = (S.B.filter (fun t => decide (t ≠ s))).length
    omega
  · by_cases e : t = s
    · subst e
      rw [Maps.has_del_same]
      simp
    · rw [Maps.has_del_other (fun e' => e (by injection e')), h5]
      simp [e]
  · obtain ⟨ht1, ht2⟩ := (hmem t).1 ht
    obtain ⟨b, e1, e2, e3, e4⟩ := h6 t ht1
    exact ⟨b, by rw [Maps.atKey_del_other (fun e' => ht2 (by injection e'))]; exact e1, e2, e3, e4.kept (hm.block b (isM_lt (hq b e2)) e3) hck⟩
  · obtain ⟨a1, a2⟩ := (hmem t).1 ht
    obtain ⟨b1, b2⟩ := (hmem t').1 ht'
    rw [Maps.atKey_del_other (fun e' => a2 (by injection e')), Maps.atKey_del_other (fun e' => b2 (by injection e'))] at he
    exact h7 t a1 t' b1 he

set_option maxHeartbeats 2000000 in
set_option maxRecDepth 100000 in
theorem remove_is (w : World) (g : Nat) (S : St) (n : Nat) (Q F : Nat → Prop) (s : List UInt8) (hs : s.length ≤ 100000) (hm : HasM w g S n Q F) :
    Calls Tryz.prog 31 #[.pointer (some ⟨g, 0, none⟩), .string (mkS s)] w (RemIs S n Q F g s w) := by
  have hsz : (mkS s).size ≤ maxLen := by rw [mkS_size]; unfold maxLen; omega
  have hsm : s.length ≤ maxLen := by unfold maxLen; omega
  obtain ⟨mb, D, hO⟩ := hm.ex
  have HTh := Lib.hid (there_is w g mb hO.c)
  obtain ⟨ok, hok⟩ : ∃ ok, bucketB s = ok := ⟨_, rfl⟩
  have HBk : Hid (Calls Tryz.prog 49 #[.string (mkS s)] w fun e w' => e = .returned (.bool ok) ∧ Below w.heap.size w w') := by
    have := bucket_is (mkS s) w hsz
    rw [mkS_list, hok] at this
    exact this
  have HCm : Hid (∀ V, Below w.heap.size w V → V.cell? ⟨g, 0, none⟩ = some (.map (some mb)) ∧ Outer V g S n Q F mb D) := fun V hV => by
    have hO' := hO.below hm.q hm.f hV
    exact ⟨(blk_cell hO'.c 0).trans rfl, hO'⟩
  have HOK := Lib.hid hok
  have HM := Lib.hid hm
  clear hok
  cases ok with
  | false =>
    clear hO hm
    go_enter Tryz.func31, Tryz.ntmps31
    go_wp2_with fail
    refine HTh.out.mono ?_
    rintro e w' ⟨rfl, rfl⟩
    go_wp2_with fail
    refine HBk.out.mono ?_
    rintro e w1 ⟨rfl, hb1⟩
    go_wp2_with fail
    go_ret
    exact rem_same (remove_12 HOK.out) HM.out hb1
  | true =>
    by_cases hB : s ∈ S.B
    · have HLk : Hid (∀ V, Below w.heap.size w V → ∃ ib D2, ib < w.heap.size ∧ (Instr.lookup 57 (.map (some mb)) (.string (mkS s)) true).run Tryz.prog V = .ok (.tuple #[.map (some ib), .bool true]) V ∧ V.ownsMap Tryz.prog 9 R2 ib n D2 ∧ ∀ k, ∃ v ps, R2 v = some (D2.atKey (.string k) .nil, ps) ∧ RowV V F v (S.V s k)) := fun V hV => by
        have hO' := (HCm.out V hV).2
        obtain ⟨v, ps, hrun, hv⟩ := hO'.o.look_ok KS Tryz.underlying57 (zero63 V) (zd := .nil) (zp := []) rfl (key_str s hsm)
        obtain ⟨ib, e1, e2, _, D2, e4, e5⟩ := hO'.at_ s hB
        rw [e1] at hv
        rw [hO'.hs, decide_eq_true hB, R1_one hv (show R1 (.map (some ib)) = some (.lit (.int .i64 ib), []) from rfl)] at hrun
        exact ⟨ib, D2, isM_lt (HM.out.q ib e2), hrun, e4, e5⟩
      have HHB := Lib.hid hB
      clear hO hm hB
      go_enter Tryz.func31, Tryz.ntmps31
      go_wp2_with fail
      refine HTh.out.mono ?_
      rintro e w' ⟨rfl, rfl⟩
      go_wp2_with fail
      refine HBk.out.mono ?_
      rintro e w1 ⟨rfl, hb1⟩
      obtain ⟨ib, D2, hib, hrun, o2, hv2⟩ := HLk.out w1 hb1
      have c0 := (HCm.out w1 hb1).1
      have HV2 := Lib.hid hv2
      have HB1 := Lib.hid hb1
      have HIB := Lib.hid hib
      clear HLk hv2 hib hb1
      go_wp2_with (at_range; refine wpList_range_own _ rfl _ 63 rfl 9 64 KS Tryz.underlying63 R2 ib n D2 rfl o2 ?_; intro w2 hrg2 hg2 hs2)
      obtain ⟨r, hr⟩ : ∃ r, w1.heap.size = r := ⟨_, rfl⟩
      rw [hr] at hrg2 ⊢
      have HR : Hid (w.heap.size ≤ r) := by show _ ≤ _; rw [← hr]; exact HB1.out.size
      have HB2 : Hid (Below w.heap.size w w2) := HB1.out.trans ((grown_below' hg2).mono HB1.out.size)
      clear hg2 hs2 hr o2 hrun c0
      go_frame
      go_loopw [28] (fun _ wr => ∃ (left : Lit → Bool) (cnt : Nat), Hid (Below w.heap.size w wr) ∧ wr.ranges Tryz.prog 9 R2 ib r n D2 left cnt ∧ Hid (∀ k, left (.string k) = false → S.V s k = [])) (fun _ wr => wr.rangeLeft ib r)
      case atStart => exact ⟨_, _, HB2, hrg2, (show Hid _ from fun k hk => inner_off HV2.out k hk)⟩
      case round =>
        clear HB2 hrg2
        obtain ⟨left, cnt, HB, hrg, HL⟩ := hrel
        go_wp2_with (at_next; refine wpList_next_ranges _ rfl _ rfl 9 KS R2 (fun k : List UInt8 => .string (mkS k)) (fun q : Option Addr × Nat × Nat => .slice q.1 q.2.1 q.2.2) key_inv r2_inv ib r n D2 left cnt rfl hrg ?_ ?_)
        · intro h0 hl0
          have HV0 : Hid (∀ k, S.V s k = []) := fun k => HL.out k (hl0 _)
          clear hl0
          obtain ⟨c0, hO2⟩ := HCm.out wr HB.out
          have HO2 := Lib.hid hO2
          have o3 := hO2.o
          clear hO2
          go_wp2_with (refine wpList_delete_own _ rfl _ _ 57 9 rfl 63 KS Tryz.underlying57 R1 mb n D rfl o3 _ _ rfl (key_str s hsm) ?_; intro w5 o5 ht5)
          go_ret
          have hm2 := HM.out.below HB.out
          obtain ⟨k1, k2⟩ := removed HO2.out hm2.q hm2.f hm2.nd hm2.off HHB.out HV0.out o5 (moved_turned ht5)
          show RemIs _ _ _ _ _ _ _ _ _
          unfold RemIs
          rw [remove_0 HOK.out HHB.out HV0.out]
          exact ⟨rfl, k1, (Moved.of_below HB.out).trans k2 (fun i hi => .inl hi)⟩
        · intro k A m c kl yd yp w3 cnt3 hkey hlk hv hat hrg3 hlt hg3 hs3 hen
          obtain ⟨hkl, rfl, hrow⟩ := inner_came HV2.out hkey hv hat
          obtain ⟨A', c', hve, _⟩ := hrow.slice
          injection hve with _ hve _
          have HVE : Hid (m = (S.V s k).length) := hve
          have HB3 : Hid (Below w.heap.size w w3) := ⟨hg3.os.trans HB.out.os, hg3.tape.trans HB.out.tape, hg3.output.trans HB.out.output, Nat.le_trans HB.out.size hg3.size, fun i hi => (hg3.block i (Nat.lt_of_lt_of_le hi HB.out.size) (fun e => by injection e with e; have := HR.out; omega)).trans (HB.out.block i hi)⟩
          have HLT := Lib.hid hlt
          clear hkey hlk hv hat hg3 hs3 hkl hrow hve hlt
          by_cases h0 : m = 0
          · subst h0
            go_wp2_with fail
            go_roundw
            case rel =>
              refine ⟨_, cnt3, HB3, hrg3, (show Hid _ from fun k' hk' => ?_)⟩
              by_cases e : k' = k
              · subst e
                exact List.length_eq_zero_iff.1 HVE.out.symm
              · refine HL.out k' ?_
                have hne : (Lit.string k').sameKey (.string k) = false := by
                  cases hsk : (Lit.string k').sameKey (.string k) with
                  | false => rfl
                  | true =>
                    have := WideAt.sameKey_eq hsk
                    injection this with this
                    exact absurd this e
                simpa [hne] using hk'
            case measure => rw [hrg3.left_eq, hrg.left_eq]; exact HLT.out
          · have hpos : (0 : Int) < (m : Int) := by omega
            go_wp2_with fail
            go_ret
            refine rem_same (remove_17 HOK.out HHB.out k (fun e => h0 ?_)) HM.out HB3.out
            rw [HVE.out, e]
            rfl
    · have HLk : Hid (∀ V, Below w.heap.size w V → (Instr.lookup 57 (.map (some mb)) (.string (mkS s)) true).run Tryz.prog V = .ok (.tuple #[.map none, .bool false]) V) := fun V hV => by
        have hO' := (HCm.out V hV).2
        obtain ⟨v, ps, hrun, hv⟩ := hO'.o.look_ok KS Tryz.underlying57 (zero63 V) (zd := .nil) (zp := []) rfl (key_str s hsm)
        have hh : Maps.has D (.string s) = false := by rw [hO'.hs, decide_eq_false hB]
        rw [Maps.atKey_of_not_has hh] at hv
        rw [hh, R1_one hv (show R1 (.map none) = some (.nil, []) from rfl)] at hrun
        exact hrun
      have HHB := Lib.hid hB
      clear hO hm hB
      go_enter Tryz.func31, Tryz.ntmps31
      go_wp2_with fail
      refine HTh.out.mono ?_
      rintro e w' ⟨rfl, rfl⟩
      go_wp2_with fail
      refine HBk.out.mono ?_
      rintro e w1 ⟨rfl, hb1⟩
      have hrun := HLk.out w1 hb1
      have c0 := (HCm.out w1 hb1).1
      clear HLk
      go_wp2_with fail
      go_ret
      exact rem_same (remove_13 HOK.out HHB.out) HM.out hb1
end Go.Proofs.YtjbjcfnbgcloiaaGreatDoor

/- The stable sort's parts over an array and a strict weak order: rotation by exchanges, the symmetric merge. Plain laws: no program is in sight. -/
namespace Go.Proofs.YtjbjcfnbgcloiaaGreatDoor.Srt
open Go.Sort
variable {α : Type}

def swapF (a b n : Nat) (f : Nat → α) (i : Nat) : α := if a ≤ i ∧ i < a + n then f (i - a + b) else if b ≤ i ∧ i < b + n then f (i - b + a) else f i
def rotF (a m b : Nat) (f : Nat → α) (i : Nat) : α := if i < a ∨ b ≤ i then f i else if i < a + (b - m) then f (i + (m - a)) else f (i - (b - m))

theorem swapF_zero (a b : Nat) (f : Nat → α) (i : Nat) : swapF a b 0 f i = f i := by
  unfold swapF
  rw [if_neg (by omega), if_neg (by omega)]
theorem swapF_step (a b n : Nat) (f : Nat → α) (hd : a + n < b ∨ b + n < a) (i : Nat) :
    (if i = a + n then swapF a b n f (b + n) else if i = b + n then swapF a b n f (a + n) else swapF a b n f i) = swapF a b (n + 1) f i := by
  unfold swapF
  repeat' split
  all_goals first | rfl | (exfalso; omega) | (congr 1; omega)

theorem rot_left (m i j : Nat) (hj : 0 < j) (hij : j < i) (him : i ≤ m) (f : Nat → α) (k : Nat) :
    rotF (m - i) m (m + j) f k = rotF (m - (i - j)) m (m + j) (swapF (m - i) m j f) k := by
  unfold rotF swapF
  repeat' split
  all_goals first | rfl | (exfalso; omega) | (congr 1; omega)
theorem rot_right (m i j : Nat) (hi : 0 < i) (hij : i < j) (him : i ≤ m) (f : Nat → α) (k : Nat) :
    rotF (m - i) m (m + j) f k = rotF (m - i) m (m + (j - i)) (swapF (m - i) (m + j - i) i f) k := by
  unfold rotF swapF
  repeat' split
  all_goals first | rfl | (exfalso; omega) | (congr 1; omega)
theorem rot_even (m i : Nat) (him : i ≤ m) (f : Nat → α) (k : Nat) : rotF (m - i) m (m + i) f k = swapF (m - i) m i f k := by
  unfold rotF swapF
  repeat' split
  all_goals first | rfl | (exfalso; omega) | (congr 1; omega)

section
variable {lt : α → α → Bool}
theorem lt_of_le_lt (hS : SWO lt) {x y z : α} (h1 : lt y x = false) (h2 : lt y z = true) : lt x z = true := by
  cases h : lt x z
  · have := hS.ntrans y x z h1 h
    rw [this] at h2; cases h2
  · rfl
theorem lt_of_lt_le (hS : SWO lt) {x y z : α} (h1 : lt x y = true) (h2 : lt z y = false) : lt x z = true := by
  cases h : lt x z
  · have := hS.ntrans x z y h h2
    rw [this] at h1; cases h1
  · rfl
theorem le_of_lt (hS : SWO lt) {x y : α} (h : lt x y = true) : lt y x = false := hS.asymmA h

variable [Inhabited α]
theorem sorted_join (a m b : Nat) (d : Array α) (h1 : SortedIn lt a m d) (h2 : SortedIn lt m b d) (hx : ∀ i j, a ≤ i → i < m → m ≤ j → j < b → lt d[j]! d[i]! = false) : SortedIn lt a b d := by
  intro i j hi hij hj
  by_cases c1 : j < m
  · exact h1 i j hi hij c1
  · by_cases c2 : m ≤ i
    · exact h2 i j c2 hij hj
    · exact hx i j hi (by omega) (by omega) hj

theorem merge_halves (a m b : Nat) (d d1 d2 : Array α) (ham : a ≤ m) (hmb : m ≤ b) (hb : b ≤ d.size) (hx : ∀ i j, a ≤ i → i < m → m ≤ j → j < b → lt d[j]! d[i]! = false)
    (p1 : PermIn a m d d1) (s1 : SortedIn lt a m d1) (p2 : PermIn m b d1 d2) (s2 : SortedIn lt m b d2) : PermIn a b d d2 ∧ SortedIn lt a b d2 := by
  have q1 : PermIn a b d d1 := permIn_mono d d1 a m a b (Nat.le_refl _) hmb hb p1
  have q2 : PermIn a b d1 d2 := permIn_mono d1 d2 m b a b ham (Nat.le_refl _) (by rw [p1.1]; exact hb) p2
  refine ⟨permIn_trans _ _ _ _ _ q1 q2, ?_⟩
  have e1 : ∀ i, i < m → d2[i]! = d1[i]! := fun i hi => p2.2.1 i (.inl hi)
  refine sorted_join a m b d2 (fun i j hi hij hj => ?_) s2 (fun i j hi him hmj hjb => ?_)
  · rw [e1 i (by omega), e1 j hj]
    exact s1 i j hi hij hj
  · -- d2[i] is some d[i'] of the left, d2[j] some d[j'] of the right
    rw [e1 i him]
    have hL : ∀ k, m ≤ k → k < b → ∀ i, a ≤ i → i < m → lt d[k]! d1[i]! = false := fun k hk hkb =>
      permIn_all d d1 a m (fun x => lt d[k]! x = false) (by omega) p1 (fun i hi him => hx i k hi him hk hkb)
    have hR : ∀ j, m ≤ j → j < b → lt d2[j]! d1[i]! = false :=
      permIn_all d1 d2 m b (fun x => lt x d1[i]! = false) (by rw [p1.1]; exact hb) p2 (fun j hj hjb => by
        rw [p1.2.1 j (.inr hj)]
        exact hL j hj hjb i hi him)
    exact hR j hmj hjb
end
end Go.Proofs.YtjbjcfnbgcloiaaGreatDoor.Srt

/- The library's stable sort over rows of k cells: what is asked of a program, and the exchange of two rows. -/
namespace Go.Proofs.YtjbjcfnbgcloiaaGreatDoor
open Go.Shelf Go.RowKit Go.Lib Go.Sort Srt

structure Stb (P : Program) (k : Nat) : Prop where
  mixed : P.follows .mixedOrders = true
  fS : P.funcs[132]? = some Tryz.f132
  fR : P.funcs[131]? = some Tryz.f131
  fM : P.funcs[130]? = some Tryz.f130
  fT : P.funcs[125]? = some Tryz.f125
  t0 : P.underlying 0 = some (.tuple #[])
  a0 : ∀ w, (isAgg 0).run P w = .ok false w
  z0 : ∀ w, (Go.sizeOf 0).run P w = .ok 1 w
  v0 : ∀ w, (zeroValue 0).run P w = .ok (.tuple #[]) w
  t3 : P.underlying 3 = some (.int .i64)
  a3 : ∀ w, (isAgg 3).run P w = .ok false w
  z3 : ∀ w, (Go.sizeOf 3).run P w = .ok 1 w
  v3 : ∀ w, (zeroValue 3).run P w = .ok (.int .i64 0) w
  t4 : P.underlying 4 = some (.bool)
  a4 : ∀ w, (isAgg 4).run P w = .ok false w
  z4 : ∀ w, (Go.sizeOf 4).run P w = .ok 1 w
  v4 : ∀ w, (zeroValue 4).run P w = .ok (.bool false) w
  t41 : P.underlying 39 = some (.slice 111)
  a41 : ∀ w, (isAgg 39).run P w = .ok false w
  z41 : ∀ w, (Go.sizeOf 39).run P w = .ok 1 w
  v41 : ∀ w, (zeroValue 39).run P w = .ok (.slice none 0 0) w
  t75 : P.underlying 163 = some (.func #[111, 111] #[3] false)
  a75 : ∀ w, (isAgg 163).run P w = .ok false w
  z75 : ∀ w, (Go.sizeOf 163).run P w = .ok 1 w
  v75 : ∀ w, (zeroValue 163).run P w = .ok (.nilFunc) w
  t68 : P.underlying 135 = some (.int .u64)
  a68 : ∀ w, (isAgg 135).run P w = .ok false w
  z68 : ∀ w, (Go.sizeOf 135).run P w = .ok 1 w
  v68 : ∀ w, (zeroValue 135).run P w = .ok (.int .u64 0) w
  aE : ∀ w, (isAgg 111).run P w = .ok true w
  zE : ∀ w, (Go.sizeOf 111).run P w = .ok k w

theorem stb : Stb Tryz.prog 6 where
  mixed := by kernel_rfl
  fS := Tryz.func132
  fR := Tryz.func131
  fM := Tryz.func130
  fT := Tryz.func125
  t0 := Tryz.underlying0
  a0 := Tryz.isAgg0
  z0 := Tryz.sizeOf0
  v0 := Tryz.zeroValue0
  t3 := Tryz.underlying3
  a3 := Tryz.isAgg3
  z3 := Tryz.sizeOf3
  v3 := Tryz.zeroValue3
  t4 := Tryz.underlying4
  a4 := Tryz.isAgg4
  z4 := Tryz.sizeOf4
  v4 := Tryz.zeroValue4
  t41 := Tryz.underlying39
  a41 := Tryz.isAgg39
  z41 := Tryz.sizeOf39
  v41 := Tryz.zeroValue39
  t75 := Tryz.underlying163
  a75 := Tryz.isAgg163
  z75 := Tryz.sizeOf163
  v75 := Tryz.zeroValue163
  t68 := Tryz.underlying135
  a68 := Tryz.isAgg135
  z68 := Tryz.sizeOf135
  v68 := Tryz.zeroValue135
  aE := Tryz.isAgg111
  zE := Tryz.sizeOf111

section
variable {P : Program} {k : Nat} {α : Type} [Inhabited α] {enc : α → List Value} {w0 W : World} {blk off : Nat} {d0 dk : Array α}

set_option maxHeartbeats 4000000 in
set_option maxRecDepth 100000 in
theorem swapRange_is (L : Stb P k) (R : RowK enc k w0 blk off d0) (h : SWK enc k w0 blk off dk W) (hs : dk.size = d0.size) (hsz : d0.size < 4611686018427387904) (cap a b n : Nat) (g : Nat) (cb : Array Value) (han : a + n ≤ d0.size) (hbn : b + n ≤ d0.size) (hd : a + n ≤ b ∨ b + n ≤ a) :
    Calls P 132 #[.slice (some ⟨blk, off, none⟩) d0.size cap, .int .i64 a, .int .i64 b, .int .i64 n, .func (.func g) #[] cb] W fun e w' => e = .returned (.tuple #[]) ∧
      ∃ d' : Array α, SWK enc k w0 blk off d' w' ∧ d'.size = d0.size ∧ (∀ i, i < d0.size → d'[i]! = swapF a b n (fun j => dk[j]!) i) ∧ ∀ lo hi, lo ≤ a → lo ≤ b → a + n ≤ hi → b + n ≤ hi → hi ≤ d0.size → PermIn lo hi dk d' := by
  have mixed := L.mixed; have t0 := L.t0; have a0 := L.a0; have z0 := L.z0; have v0 := L.v0; have t3 := L.t3; have a3 := L.a3; have z3 := L.z3; have v3 := L.v3; have t4 := L.t4; have a4 := L.a4; have z4 := L.z4; have v4 := L.v4; have t41 := L.t41; have a41 := L.a41; have z41 := L.z41; have v41 := L.v41; have t75 := L.t75; have a75 := L.a75; have z75 := L.z75; have v75 := L.v75; have t68 := L.t68; have a68 := L.a68; have z68 := L.z68; have v68 := L.v68; have aE := L.aE; have zE := L.zE; have u41 := run_underlying L.t41
  have HR := Lib.hid R; clear R
  have HS0 := Lib.hid h; clear h
  go_enter L.fS, Tryz.ntmps132
  go_wp2_with fail
  go_loopw [10] (fun v wr => ∃ (i : Nat) (d : Array α), v = .int .i64 i ∧ i ≤ n ∧ Hid (SWK enc k w0 blk off d wr) ∧ d.size = d0.size ∧ Hid (∀ j, j < d0.size → d[j]! = swapF a b i (fun j => dk[j]!) j) ∧ Hid (∀ lo hi, lo ≤ a → lo ≤ b → a + n ≤ hi → b + n ≤ hi → hi ≤ d0.size → PermIn lo hi dk d)) (fun v _ => n - (intOf v).toNat)
  case atStart => exact ⟨0, dk, rfl, Nat.zero_le _, HS0, hs, fun j _ => (swapF_zero _ _ _ _).symm, fun lo hi _ _ _ _ _ => permIn_refl _ _ _⟩
  case round =>
    rename_i wr
    obtain ⟨i, d, rfl, hi, HS, hds, HF, HP⟩ := hrel
    by_cases hp : i < n
    · have hpz : (i : Int) < (n : Int) := by omega
      have hds2 : d.size = dk.size := by omega
      have sa := swp_get d (i := a + i) (j := b + i) (by omega) (by omega)
      have sp : ∀ lo hi, lo ≤ a → lo ≤ b → a + n ≤ hi → b + n ≤ hi → hi ≤ d0.size → PermIn lo hi d (swp d (a + i) (b + i)) := fun lo hi h1 h2 h3 h4 h5 => swp_permIn d lo hi (a + i) (b + i) (by omega) (by omega) (by omega) (by omega) (by omega)
      have HF2 : Hid (∀ j, j < d0.size → (swp d (a + i) (b + i))[j]! = swapF a b (i + 1) (fun j => dk[j]!) j) := by
        intro j hj
        rw [sa j, HF.out _ (by omega), HF.out _ (by omega), HF.out _ (by omega), ← swapF_step a b i _ (by omega) j]
        by_cases e1 : j = b + i
        · by_cases e2 : j = a + i
          · exfalso; omega
          · rw [if_pos e1, if_neg e2, if_pos e1]
        · rw [if_neg e1]
          by_cases e2 : j = a + i
          · rw [if_pos e2, if_pos e2]
          · rw [if_neg e2, if_neg e2, if_neg e1]
      have HP2 : Hid (∀ lo hi, lo ≤ a → lo ≤ b → a + n ≤ hi → b + n ≤ hi → hi ≤ d0.size → PermIn lo hi dk (swp d (a + i) (b + i))) := fun lo hi h1 h2 h3 h4 h5 => permIn_trans _ _ _ _ _ (HP.out lo hi h1 h2 h3 h4 h5) (sp lo hi h1 h2 h3 h4 h5)
      clear sa sp
      obtain ⟨xa, hxa⟩ : ∃ x, d[a + i]! = x := ⟨_, rfl⟩
      obtain ⟨xb, hxb⟩ : ∃ x, d[b + i]! = x := ⟨_, rfl⟩
      have la := HS.out.ld1 HR.out hds P (a + i) (by omega)
      have lb := HS.out.ld1 HR.out hds P (b + i) (by omega)
      have s1 := HS.out.st1 HR.out hds P (a + i) (by omega) (d[b + i]!)
      have s2 := HS.out.st2 HR.out hds P (a + i) (b + i) (by omega) (by omega) (d[b + i]!) (d[a + i]!)
      have sw := HS.out.swapped HR.out (a + i) (b + i) (by omega) (by omega)
      have kA : (enc (d[a + i]!)).length = k := HR.out.hk _
      have kB : (enc (d[b + i]!)).length = k := HR.out.hk _
      rw [hxa] at la s2 sw kA
      rw [hxb] at lb s1 s2 sw kB
      clear hxa hxb
      obtain ⟨cA, hcA⟩ : ∃ c, enc xa = c := ⟨_, rfl⟩
      obtain ⟨cB, hcB⟩ : ∃ c, enc xb = c := ⟨_, rfl⟩
      rw [hcA] at la s2 sw kA
      rw [hcB] at lb s1 s2 sw kB
      clear hcA hcB
      have SW := Lib.hid sw; clear sw
      have e1 : IntKind.i64.wrap ((a : Int) + (i : Int)) = (a : Int) + (i : Int) := IntWalk.i64_in _ (by omega)
      have e2 : IntKind.i64.wrap ((b : Int) + (i : Int)) = (b : Int) + (i : Int) := IntWalk.i64_in _ (by omega)
      have p1 : (0 : Int) ≤ (a : Int) + (i : Int) := by omega
      have p2 : (0 : Int) ≤ (b : Int) + (i : Int) := by omega
      have q1 : ((a : Int) + (i : Int)).toNat = a + i := by omega
      have q2 : ((b : Int) + (i : Int)).toNat = b + i := by omega
      have r1 : (a : Int) + (i : Int) < (d0.size : Int) := by omega
      have r2 : (b : Int) + (i : Int) < (d0.size : Int) := by omega
      go_wp2_with fail
      go_big_region_o
      all_goals go_wp2
      go_roundw
      case rel => exact ⟨i + 1, _, by go_num, by omega, SW, by rw [swp_size]; exact hds, HF2, HP2⟩
      case measure => simp [intOf]; omega
    · have hpz : (n : Int) ≤ (i : Int) := by omega
      have hin : i = n := by omega
      subst hin
      go_wp2
      go_end0
      exact ⟨rfl, d, HS.out, hds, HF.out, HP.out⟩
end
end Go.Proofs.YtjbjcfnbgcloiaaGreatDoor
