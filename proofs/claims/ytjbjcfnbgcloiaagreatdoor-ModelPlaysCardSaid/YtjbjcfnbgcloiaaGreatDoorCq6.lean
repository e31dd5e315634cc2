/- versions and find of package model. -/
import Derived.Test.YtjbjcfnbgcloiaaGreatDoorCq5
import Derived.Deep.RegionHeld3
import Derived.Shelf.RegionOpenPlain
import Derived.Deep.RegionLaw
import Derived.Lib.SliceRun
import Derived.Laws.IdiomCopy
import Derived.Deep.MidRow
set_option linter.unusedSimpArgs false
set_option linter.unusedVariables false

namespace Go.Proofs.YtjbjcfnbgcloiaaGreatDoor
open Go.RowKit Nam YtjbjcfnbgcloiaaGreatDoorW.PrintWords

instance : Inhabited Kp := ⟨kp0⟩
theorem go_at_ {α : Type} [Inhabited α] {l : List α} {j : Nat} (h : j < l.length) : l[j]? = some l[j]! := by simp [h]

def VersIs (S : St) (F : Nat → Prop) (b k : List UInt8) (w : World) (e : Ending) (w' : World) : Prop :=
  (∃ v er, e = .returned (.tuple #[v, .int .i64 er]) ∧ (if b ∉ S.B then er = 13 else if S.V b k = [] then er = 14 else er = 0 ∧ RowV w F v (S.V b k))) ∧ w = w'
set_option maxHeartbeats 1000000 in
set_option maxRecDepth 100000 in
theorem versions_is (w : World) (g : Nat) (S : St) (n : Nat) (Q F : Nat → Prop) (b k : List UInt8) (hb : b.length ≤ 100000) (hk : k.length ≤ 100000) (hm : HasM w g S n Q F) :
    Calls Tryz.prog 81 #[.pointer (some ⟨g, 0, none⟩), .string (mkS b), .string (mkS k)] w (VersIs S F b k w) := by
  have HM := Lib.hid hm
  obtain ⟨mb, D, hO⟩ := hm.ex
  have c0 := (blk_cell hO.c 0).trans (rfl : _ = some (Value.map (some mb)))
  have hqe := fun (w : World) (r : Option Nat) => run_eql_map_nil (P := Tryz.prog) w 63 _ _ r Tryz.underlying63
  clear hm
  rcases look1 hO b (by unfold maxLen; omega) with ⟨hB, hrun1⟩ | ⟨hB, ib, hat, hqi, hne, hin, hrun1⟩
  · have HB := Lib.hid hB
    clear hO hB
    go_enter Tryz.func81, Tryz.ntmps81
    go_wp2_with fail
    go_ret2
    exact ⟨⟨_, _, rfl, by rw [if_pos HB.out]⟩, rfl⟩
  · obtain ⟨v, hrow, hrun2⟩ := look2 hin k (by unfold maxLen; omega)
    have HR := Lib.hid hrow
    obtain ⟨A, c, hve, hlc⟩ := hrow.slice
    obtain ⟨m, hmL⟩ : ∃ m, (S.V b k).length = m := ⟨_, rfl⟩
    rw [hmL] at hlc hve
    subst hve
    have HB := Lib.hid hB
    have HML := Lib.hid hmL
    clear hO hB hat hqi hne hin hrow hmL
    by_cases hm0 : m = 0
    · subst hm0
      go_enter Tryz.func81, Tryz.ntmps81
      go_wp2_with fail
      go_ret2
      exact ⟨⟨_, _, rfl, by rw [if_neg (fun h => h HB.out), if_pos (List.length_eq_zero_iff.1 HML.out)]⟩, rfl⟩
    · have hd : decide ((m : Int) = 0) = false := decide_eq_false (by omega)
      have hd2 : ((m : Int) == 0) = false := by simp; omega
      have HM0 := Lib.hid hm0
      clear hm0
      go_enter Tryz.func81, Tryz.ntmps81
      go_wp2_with fail
      go_ret2
      exact ⟨⟨_, _, rfl, by rw [if_neg (fun h => h HB.out), if_neg (fun h => HM0.out (by rw [← HML.out, h]; rfl))]; exact ⟨rfl, HR.out⟩⟩, rfl⟩

def encK (x : Kp × (Option Addr × Nat)) : List Value := kpCells x.1 (.slice x.2.1 x.1.dt.length x.2.2)
theorem row_zs {w : World} {F : Nat → Prop} {g c n : Nat} {l : List Kp} (h : RowV w F (.slice (some ⟨g, 0, none⟩) n c) l) :
    ∃ zs : List (Kp × (Option Addr × Nat)), zs.map Prod.fst = l ∧ ∀ j, j < zs.length → zs[j]!.1.dt.length ≤ zs[j]!.2.2 ∧ DatF w F zs[j]!.2.1 zs[j]!.1.dt ∧ ∀ i v, (encK zs[j]!)[i]? = some v → w.cell? ⟨g, 0 + j * 5 + i, none⟩ = some v := by
  have hx : ∀ j, ∃ v : Option Addr × Nat, ∀ y, l[j]? = some y → y.dt.length ≤ v.2 ∧ DatF w F v.1 y.dt ∧ ∀ i u, (encK (y, v))[i]? = some u → w.cell? ⟨g, j * 5 + i, none⟩ = some u := fun j => by
    cases hy : l[j]? with
    | none => exact ⟨(none, 0), fun y e => by cases e⟩
    | some y =>
      obtain ⟨A, c', h1, h2, h3⟩ := h.at_ j hy
      exact ⟨(A, c'), fun y' e => by injection e with e; subst e; exact ⟨h1, h2, h3⟩⟩
  obtain ⟨f, hf⟩ := Classical.axiomOfChoice hx
  refine ⟨(List.range l.length).map (fun j => (l[j]!, f j)), ?_, fun j hj => ?_⟩
  · rw [List.map_map]
    apply List.ext_getElem? 
    intro j
    by_cases hj : j < l.length
    · simp [hj]
    · simp [hj]
  · rw [List.length_map, List.length_range] at hj
    have he : ((List.range l.length).map (fun j => (l[j]!, f j)))[j]! = (l[j]!, f j) := by simp [hj]
    rw [he]
    obtain ⟨h2, h3, h4⟩ := hf j l[j]! (go_at_ hj)
    refine ⟨h2, h3, fun i v hi => ?_⟩
    rw [Nat.zero_add]
    exact h4 i v hi

theorem pred_id (id : Int) (B : Nat) (w : World) (hB : B < w.heap.size) (hcell : w.cell? ⟨B, 0, none⟩ = some (.int .i64 id)) :
    PredBelow Tryz.prog 83 #[.pointer (some ⟨B, 0, none⟩)] (fun x => .agg (encK x).toArray) (fun x => decide (x.1.id = id)) w := fun W x hb => by
  have hc : W.cell? ⟨B, 0, none⟩ = some (.int .i64 id) := (hb.cell (p := ⟨B, 0, none⟩) hB).trans hcell
  have hBW : B < W.heap.size := Nat.lt_of_lt_of_le hB hb.size
  have hne : B ≠ W.heap.size := by omega
  obtain ⟨x, A, c⟩ := x
  show Calls Tryz.prog 83 #[.agg #[.int .i64 x.id, .bool x.mark, .int .i64 x.sz, .int .u32 x.sum, .slice A x.dt.length c], .pointer (some ⟨B, 0, none⟩)] W _
  have HH := Lib.hid (And.intro hb hB)
  clear hcell hB hb
  go_enter Tryz.func83, Tryz.ntmps83
  go_wp2
  all_goals (go_ret; exact ⟨by simp [Value.int.injEq, *] <;> rfl, HH.out.1.alloc HH.out.1.size _⟩)

def idxK (id : Int) (l : List Kp) : Int := if id = 0 then (l.length : Int) - 1 else Lib.idxBy (fun _ y => decide (y.id = id)) l kp0
def St.findE (S : St) (b k : List UInt8) (id least : Int) : Int :=
  if namedB b k = false then 12 else if id < least then 1 else if b ∉ S.B then 13 else if S.V b k = [] then 14 else if idxK id (S.V b k) < 0 then 15 else 0
theorem idx_spec (p : Kp → Bool) (d : Kp) : ∀ (l : List Kp) (i : Nat), Lib.idxByFrom (fun _ y => p y) d l i = -1 ∨ ∃ k, k < l.length ∧ Lib.idxByFrom (fun _ y => p y) d l i = ((i + k : Nat) : Int) ∧ p l[k]! = true
  | [], i => .inl rfl
  | y :: r, i => by
    cases h : p y with
    | true => exact .inr ⟨0, by simp, by simp [Lib.idxByFrom, h], by simpa using h⟩
    | false =>
      rcases idx_spec p d r (i + 1) with e | ⟨k, h1, h2, h3⟩
      · exact .inl (by simp [Lib.idxByFrom, h, e])
      · exact .inr ⟨k + 1, by simp; omega, by simp only [Lib.idxByFrom, h, Bool.false_eq_true, if_false, h2]; omega, by simpa using h3⟩
theorem idx_map {α : Type} [Inhabited α] (p : Kp → Bool) (d : Kp) (zs : List (Kp × α)) (z : Kp × α) (i : Nat) : Lib.idxByFrom (fun _ y => p y.1) z zs i = Lib.idxByFrom (fun _ y => p y) d (zs.map Prod.fst) i := by
  induction zs generalizing i with
  | nil => rfl
  | cons a r ih => simp only [List.map_cons, Lib.idxByFrom, ih]
theorem idxK_lt {id : Int} {l : List Kp} : idxK id l < 0 ∨ ∃ i : Nat, idxK id l = (i : Int) ∧ i < l.length := by
  unfold idxK
  split
  · by_cases h : l = []
    · subst h; exact .inl (by decide)
    · have := List.length_pos_iff.2 h
      exact .inr ⟨l.length - 1, by omega, by omega⟩
  · rcases idx_spec (fun (y : Kp) => decide (y.id = id)) kp0 l 0 with h | ⟨k, h1, h2, _⟩
    · exact .inl (by unfold Lib.idxBy; rw [h]; decide)
    · exact .inr ⟨k, by unfold Lib.idxBy; rw [h2]; simp, h1⟩
theorem index_is (w : World) (F : Nat → Prop) (g n c : Nat) (l : List Kp) (id : Int) (B : Nat) (hl : l.length = n) (hn : n ≤ 100000) (hg : g < w.heap.size) (h : RowV w F (.slice (some ⟨g, 0, none⟩) n c) l) (hid : id ≠ 0) (hB : B < w.heap.size) (hcell : w.cell? ⟨B, 0, none⟩ = some (.int .i64 id)) :
    Calls Tryz.prog 82 #[.slice (some ⟨g, 0, none⟩) n c, .func (.func 83) #[] #[.pointer (some ⟨B, 0, none⟩)]] w fun e w' => e = .returned (.int .i64 (idxK id l)) ∧ Below w.heap.size w w' := by
  obtain ⟨zs, hz, hc⟩ := row_zs h
  have hzl : zs.length = n := by rw [← hl, ← hz, List.length_map]
  have eg : ∀ args w, (callFunc 83 args).run Tryz.prog w = .ok (.enter 83 args) w := enters_of Tryz.func83 (by kernel_rfl) rfl
  refine (AnyQ.slices_IndexFunc Tryz.indexK 5 (fun w => by kernel_rfl) (fun w => by kernel_rfl) encK (fun _ => rfl) (fun x => decide (x.1.id = id)) 83 #[.pointer (some ⟨B, 0, none⟩)] eg g 0 n c zs w (pred_id id B w hB hcell) (by omega) (by omega) hg (fun j hj => ?_)).mono fun e w' ⟨he, hb⟩ => ⟨?_, hb⟩
  · exact (hc j hj).2.2
  · rw [he, List.take_of_length_le (by omega)]
    unfold idxK Lib.idxBy
    rw [if_neg hid, idx_map (fun y => decide (y.id = id)) kp0, hz]
end Go.Proofs.YtjbjcfnbgcloiaaGreatDoor

/- find of package model. -/
namespace Go.Proofs.YtjbjcfnbgcloiaaGreatDoor
open Go.RowKit Nam YtjbjcfnbgcloiaaGreatDoorW.PrintWords

theorem RowV.full {w : World} {F : Nat → Prop} {v : Value} {l : List Kp} (h : RowV w F v l) (hl : l ≠ []) : ∃ g c, v = .slice (some ⟨g, 0, none⟩) l.length c ∧ F g ∧ l.length ≤ c := by
  obtain ⟨news, h1, _⟩ := h
  rcases h1 with ⟨_, h0, _⟩ | ⟨g, c, h1, h2, h3, _⟩
  · exact absurd (List.length_eq_zero_iff.1 h0) hl
  · exact ⟨g, c, h1, h3, h2⟩
theorem setRow_kept {w : World} {F : Nat → Prop} (r : Nat) (cs : Array Value) (h : ¬ F r) : FKept F w (w.setRow r cs) := fun k hk => setRow_other _ _ _ _ (fun e => h (by rw [← e]; exact hk))
def FindIs (S : St) (F : Nat → Prop) (b k : List UInt8) (id least : Int) (w : World) (e : Ending) (w' : World) : Prop :=
  ((S.findE b k id least ≠ 0 ∧ e = .returned (.tuple #[.agg #[.int .i64 0, .bool false, .int .i64 0, .int .u32 0, .slice none 0 0], .int .i64 0, .int .i64 (S.findE b k id least)])) ∨
   (S.findE b k id least = 0 ∧ ∃ (i : Nat) (y : Kp) (A : Option Addr) (c : Nat), idxK id (S.V b k) = (i : Int) ∧ i < (S.V b k).length ∧ (S.V b k)[i]? = some y ∧ y.dt.length ≤ c ∧ DatF w' F A y.dt ∧
     e = .returned (.tuple #[.agg #[.int .i64 y.id, .bool y.mark, .int .i64 y.sz, .int .u32 y.sum, .slice A y.dt.length c], .int .i64 i, .int .i64 0]))) ∧ Below w.heap.size w w'
theorem find_err {S : St} {F : Nat → Prop} {b k : List UInt8} {id least err : Int} {w w' : World} (h : S.findE b k id least = err) (h0 : err ≠ 0) (hb : Below w.heap.size w w') :
    FindIs S F b k id least w (.returned (.tuple #[.agg #[.int .i64 0, .bool false, .int .i64 0, .int .u32 0, .slice none 0 0], .int .i64 0, .int .i64 err])) w' := by
  subst h
  exact ⟨.inl ⟨h0, rfl⟩, hb⟩
theorem find_ok {S : St} {F : Nat → Prop} {b k : List UInt8} {id least : Int} {w w' : World} {i : Nat} {y : Kp} {A : Option Addr} {c : Nat} (h : S.findE b k id least = 0) (hi : idxK id (S.V b k) = (i : Int)) (hl : i < (S.V b k).length) (hy : (S.V b k)[i]? = some y)
    (hc : y.dt.length ≤ c) (hd : DatF w' F A y.dt) (hb : Below w.heap.size w w') :
    FindIs S F b k id least w (.returned (.tuple #[.agg #[.int .i64 y.id, .bool y.mark, .int .i64 y.sz, .int .u32 y.sum, .slice A y.dt.length c], .int .i64 i, .int .i64 0])) w' :=
  ⟨.inr ⟨h, i, y, A, c, hi, hl, hy, hc, hd, rfl⟩, hb⟩

set_option maxHeartbeats 4000000 in
set_option maxRecDepth 100000 in
theorem find_is (w : World) (g : Nat) (S : St) (n : Nat) (Q F : Nat → Prop) (b k : List UInt8) (id least : Int) (hb : b.length ≤ 100000) (hk : k.length ≤ 100000) (hl : (S.V b k).length ≤ 100000) (hm : HasM w g S n Q F) (hT : Tabs w) :
    Calls Tryz.prog 55 #[.pointer (some ⟨g, 0, none⟩), .string (mkS b), .string (mkS k), .int .i64 id, .int .i64 least] w (FindIs S F b k id least w) := by
  have HM := Lib.hid hm
  obtain ⟨mb, D, hO⟩ := hm.ex
  obtain ⟨W2, hW2⟩ : ∃ W2, (w.alloc (.cells #[.int .i64 id] 3)).alloc (.cells #[.int .i64 0, .bool false, .int .i64 0, .int .u32 0, .slice none 0 0] 67) = W2 := ⟨_, rfl⟩
  have hb2 : Below w.heap.size w W2 := by rw [← hW2]; exact ((Below.refl _ _).alloc (Nat.le_refl _) _).alloc (by simp) _
  have hbi : W2.heap[w.heap.size]? = some (.cells #[.int .i64 id] 3 (0, 0)) := by rw [← hW2]; exact (heap_alloc_old _ _ (by simp)).trans (heap_alloc_new w _)
  have hbv : W2.heap[w.heap.size + 1]? = some (.cells #[.int .i64 0, .bool false, .int .i64 0, .int .u32 0, .slice none 0 0] 67 (0, 0)) := by
    rw [← hW2]
    have := heap_alloc_new (w.alloc (.cells #[.int .i64 id] 3)) (.cells #[.int .i64 0, .bool false, .int .i64 0, .int .u32 0, .slice none 0 0] 67)
    simpa using this
  have hs2 : w.heap.size + 2 = W2.heap.size := by rw [← hW2]; simp
  have hO2 := hO.below hm.q hm.f hb2
  have HBI := Lib.hid hbi
  have HBV := Lib.hid hbv
  have HB2 := Lib.hid hb2
  obtain ⟨nm, hnm⟩ : ∃ nm, namedB b k = nm := ⟨_, rfl⟩
  have hna := named_is W2 g mb b k hb hk (hT.below hb2) hO2.c
  rw [hnm] at hna
  have HNA := Lib.hid hna
  have HNM := Lib.hid hnm
  have HVS : Hid (∀ W, Below w.heap.size w W → Calls Tryz.prog 81 #[.pointer (some ⟨g, 0, none⟩), .string (mkS b), .string (mkS k)] W (VersIs S F b k W)) := fun W hW => versions_is W g S n Q F b k hb hk (hm.below hW)
  have HL := Lib.hid hl
  clear hO hO2 hbi hbv hb2 hna hnm hm hT hl
  cases nm with
  | false =>
    have hR : Hid (S.findE b k id least = 12) := by show _ = _; unfold St.findE; rw [if_pos HNM.out]
    go_enter Tryz.func55, Tryz.ntmps55
    go_upto_region 1 with (fail)
    clear hW2
    go_wp2_with fail
    refine HNA.out.mono ?_
    rintro e w3 ⟨rfl, hb3⟩
    have HBV3 := Lib.hid (blk_below HBV.out hb3)
    have HBI3 := Lib.hid (blk_below HBI.out hb3)
    have HB3 := Lib.hid (HB2.out.trans (hb3.mono HB2.out.size))
    have hs3 : w.heap.size + 2 ≤ w3.heap.size := by have := hb3.size; omega
    have i0 := (blk_cell HBI3.out 0).trans (rfl : _ = some (Value.int .i64 id))
    clear hb3
    simp only [Bool.false_eq_true, if_false]
    go_wp2_with (refine wpList_store_row rfl 67 (.tmp 10) (.tmp 23) rfl (w.heap.size + 1) #[.int .i64 0, .bool false, .int .i64 0, .int .u32 0, .slice none 0 0] rfl rfl 67 _ HBV3.out (by kernel_rfl) rfl (by simp [Value.oneCell']) ?_)
    refine bodyPost_ret (results_ctt rfl _ _ (w.heap.size + 1) 67 #[.int .i64 0, .bool false, .int .i64 0, .int .u32 0, .slice none 0 0] (0, 0) _ rfl (setRow_heap _ _ _ _ _ _ HBV3.out) Tryz.underlying67 rfl (by kernel_rfl)) rfl ?_
    exact find_err hR.out (by decide) (below_setRow HB3.out (by omega) _)
  | true =>
    have hE : S.findE b k id least = if id < least then 1 else if b ∉ S.B then 13 else if S.V b k = [] then 14 else if idxK id (S.V b k) < 0 then 15 else 0 := by unfold St.findE; rw [if_neg (by rw [HNM.out]; simp)]
    by_cases hlt : id < least
    · have hR : Hid (S.findE b k id least = 1) := by show _ = _; rw [hE, if_pos hlt]
      have dl : decide (id < least) = true := decide_eq_true hlt
      clear hE hlt
      go_enter Tryz.func55, Tryz.ntmps55
      go_upto_region 1 with (fail)
      clear hW2
      go_wp2_with fail
      refine HNA.out.mono ?_
      rintro e w3 ⟨rfl, hb3⟩
      have HBV3 := Lib.hid (blk_below HBV.out hb3)
      have HBI3 := Lib.hid (blk_below HBI.out hb3)
      have HB3 := Lib.hid (HB2.out.trans (hb3.mono HB2.out.size))
      have hs3 : w.heap.size + 2 ≤ w3.heap.size := by have := hb3.size; omega
      have i0 := (blk_cell HBI3.out 0).trans (rfl : _ = some (Value.int .i64 id))
      clear hb3
      simp only [if_true]
      go_wp2_with (refine wpList_store_row rfl 67 (.tmp 10) (.tmp 28) rfl (w.heap.size + 1) #[.int .i64 0, .bool false, .int .i64 0, .int .u32 0, .slice none 0 0] rfl rfl 67 _ HBV3.out (by kernel_rfl) rfl (by simp [Value.oneCell']) ?_)
      refine bodyPost_ret (results_ctt rfl _ _ (w.heap.size + 1) 67 #[.int .i64 0, .bool false, .int .i64 0, .int .u32 0, .slice none 0 0] (0, 0) _ rfl (setRow_heap _ _ _ _ _ _ HBV3.out) Tryz.underlying67 rfl (by kernel_rfl)) rfl ?_
      exact find_err hR.out (by decide) (below_setRow HB3.out (by omega) _)
    · rw [if_neg hlt] at hE
      have dl : decide (id < least) = false := decide_eq_false hlt
      clear hlt
      by_cases hv0 : b ∉ S.B ∨ S.V b k = []
      · have hbad : ∀ (v : Value) (er : Int) (w : World), (if b ∉ S.B then er = 13 else if S.V b k = [] then er = 14 else er = 0 ∧ RowV w F v (S.V b k)) → S.findE b k id least = er ∧ er ≠ 0 := fun v er w h => by
          rw [hE]
          by_cases hB : b ∉ S.B
          · rw [if_pos hB] at h ⊢
            subst h
            exact ⟨rfl, by decide⟩
          · rw [if_neg hB] at h ⊢
            have h2 := hv0.resolve_left hB
            rw [if_pos h2] at h ⊢
            subst h
            exact ⟨rfl, by decide⟩
        have HBad := Lib.hid hbad
        clear hbad hE hv0
        go_enter Tryz.func55, Tryz.ntmps55
        go_upto_region 1 with (fail)
        clear hW2
        go_wp2_with fail
        refine HNA.out.mono ?_
        rintro e w3 ⟨rfl, hb3⟩
        have HBV3 := Lib.hid (blk_below HBV.out hb3)
        have HBI3 := Lib.hid (blk_below HBI.out hb3)
        have HB3 := Lib.hid (HB2.out.trans (hb3.mono HB2.out.size))
        have hs3 : w.heap.size + 2 ≤ w3.heap.size := by have := hb3.size; omega
        have i0 := (blk_cell HBI3.out 0).trans (rfl : _ = some (Value.int .i64 id))
        clear hb3
        simp only [if_true]
        go_wp2_with fail
        refine (HVS.out _ HB3.out).mono ?_
        rintro e w' ⟨⟨v, er, rfl, hv⟩, rfl⟩
        obtain ⟨hR, hne⟩ := HBad.out _ _ _ hv
        have hR := Lib.hid hR
        have de : decide (er = 0) = false := decide_eq_false hne
        have de2 : (er == 0) = false := by simp [hne]
        have HNE := Lib.hid hne
        clear hv
        go_wp2_with (refine wpList_store_row rfl 67 (.tmp 10) (.tmp 38) rfl (w.heap.size + 1) #[.int .i64 0, .bool false, .int .i64 0, .int .u32 0, .slice none 0 0] rfl rfl 67 _ HBV3.out (by kernel_rfl) rfl (by simp [Value.oneCell']) ?_)
        refine bodyPost_ret (results_ctt rfl _ _ (w.heap.size + 1) 67 #[.int .i64 0, .bool false, .int .i64 0, .int .u32 0, .slice none 0 0] (0, 0) _ rfl (setRow_heap _ _ _ _ _ _ HBV3.out) Tryz.underlying67 rfl (by kernel_rfl)) rfl ?_
        exact find_err hR.out HNE.out (below_setRow HB3.out (by omega) _)
      · have hB : b ∈ S.B := Classical.not_not.1 (fun h => hv0 (.inl h))
        have hn0 : S.V b k ≠ [] := fun h => hv0 (.inr h)
        rw [if_neg (fun h => h hB), if_neg hn0] at hE
        have HGood : Hid (∀ (v : Value) (er : Int) (w : World), (if b ∉ S.B then er = 13 else if S.V b k = [] then er = 14 else er = 0 ∧ RowV w F v (S.V b k)) → er = 0 ∧ RowV w F v (S.V b k)) := fun v er w h => by
          rw [if_neg (fun h => h hB), if_neg hn0] at h
          exact h
        have HN0 := Lib.hid hn0
        obtain ⟨m, hmL⟩ : ∃ m, (S.V b k).length = m := ⟨_, rfl⟩
        have HML := Lib.hid hmL
        have hml := HL.out
        rw [hmL] at hml
        have hm0 : 0 < m := by rw [← hmL]; exact List.length_pos_iff.2 hn0
        have HE := Lib.hid hE
        have wm : IntKind.i64.wrap ((m : Int) - 1) = ((m - 1 : Nat) : Int) := by rw [IntWalk.i64_in _ (by omega)]; omega
        obtain ⟨m1, hm1⟩ : ∃ m1, m - 1 = m1 := ⟨_, rfl⟩
        rw [hm1] at wm
        have hmm : m = m1 + 1 := by omega
        clear hv0 hB hn0 hmL hE
        by_cases hid : id = 0
        · subst hid
          have hix : idxK 0 (S.V b k) = (m1 : Int) := by unfold idxK; rw [if_pos rfl, HML.out]; omega
          have hR : Hid (S.findE b k 0 least = 0) := by show _ = _; rw [HE.out, hix, if_neg (by omega)]
          obtain ⟨y, hy⟩ : ∃ y, (S.V b k)[m1]? = some y := ⟨_, List.getElem?_eq_getElem (by rw [HML.out]; omega)⟩
          have HIX := Lib.hid hix
          have HY := Lib.hid hy
          have HIL : Hid (m1 < (S.V b k).length) := by show _ < _; rw [HML.out]; omega
          have dm : decide ((m1 : Int) < 0) = false := decide_eq_false (by omega)
          have nn : (m1 : Int) < (m : Int) := by omega
          have n0 : (0 : Int) ≤ (m1 : Int) := by omega
          clear hix hy hm1 hmm
          go_enter Tryz.func55, Tryz.ntmps55
          go_upto_region 1 with (fail)
          clear hW2
          go_wp2_with fail
          refine HNA.out.mono ?_
          rintro e w3 ⟨rfl, hb3⟩
          have HBV3 := Lib.hid (blk_below HBV.out hb3)
          have HBI3 := Lib.hid (blk_below HBI.out hb3)
          have HB3 := Lib.hid (HB2.out.trans (hb3.mono HB2.out.size))
          have hs3 : w.heap.size + 2 ≤ w3.heap.size := by have := hb3.size; omega
          have i0 := (blk_cell HBI3.out 0).trans (rfl : _ = some (Value.int .i64 0))
          clear hb3
          simp only [if_true]
          go_wp2_with fail
          refine (HVS.out _ HB3.out).mono ?_
          rintro e w' ⟨⟨v, er, rfl, hv⟩, rfl⟩
          obtain ⟨rfl, hrow⟩ := HGood.out _ _ _ hv
          obtain ⟨g2, c2, rfl, hFg, hlc⟩ := hrow.full HN0.out
          rw [HML.out] at hrow hlc ⊢
          obtain ⟨A2, c3, hdc, hdf, hcell⟩ := hrow.at_ m1 HY.out
          have y0 := hcell 0 _ rfl
          have y1 := hcell 1 _ rfl
          have y2 := hcell 2 _ rfl
          have y3 := hcell 3 _ rfl
          have y4 := hcell 4 _ rfl
          rw [Nat.add_zero] at y0
          have HDC := Lib.hid hdc
          have HDF := Lib.hid hdf
          clear hv hrow hFg hdc hdf hcell
          go_wp2_with (refine wpList_store_row rfl 67 (.tmp 10) (.tmp 54) rfl (w.heap.size + 1) #[.int .i64 y.id, .bool y.mark, .int .i64 y.sz, .int .u32 y.sum, .slice A2 y.dt.length c3] rfl rfl 67 _ HBV3.out (by kernel_rfl) rfl (by simp [Value.oneCell']) ?_)
          refine bodyPost_ret (results_ctt rfl _ _ (w.heap.size + 1) 67 #[.int .i64 y.id, .bool y.mark, .int .i64 y.sz, .int .u32 y.sum, .slice A2 y.dt.length c3] (0, 0) _ rfl (setRow_heap _ _ _ _ _ _ HBV3.out) Tryz.underlying67 rfl (by kernel_rfl)) rfl ?_
          refine find_ok hR.out HIX.out HIL.out HY.out HDC.out (HDF.out.kept ?_) (below_setRow HB3.out (by omega) _)
          exact setRow_kept _ _ (fun h => by have := isC_lt (HM.out.f _ h); omega)
        · have d0 : (id == 0) = false := by simp [hid]
          have d1 : decide (id = 0) = false := decide_eq_false hid
          have HIN := Lib.hid hid
          rcases idxK_lt (id := id) (l := S.V b k) with hix | ⟨i, hix, hil⟩
          · have hR : Hid (S.findE b k id least = 15) := by show _ = _; rw [HE.out, if_pos hix]
            obtain ⟨r, hr⟩ : ∃ r, idxK id (S.V b k) = r := ⟨_, rfl⟩
            rw [hr] at hix
            have dm : decide (r < 0) = true := decide_eq_true hix
            have HRr := Lib.hid hr
            clear hr hix hid hmm hm1
            go_enter Tryz.func55, Tryz.ntmps55
            go_upto_region 1 with (fail)
            clear hW2
            go_wp2_with fail
            refine HNA.out.mono ?_
            rintro e w3 ⟨rfl, hb3⟩
            have HBV3 := Lib.hid (blk_below HBV.out hb3)
            have HBI3 := Lib.hid (blk_below HBI.out hb3)
            have HB3 := Lib.hid (HB2.out.trans (hb3.mono HB2.out.size))
            have hs3 : w.heap.size + 2 ≤ w3.heap.size := by have := hb3.size; omega
            have i0 := (blk_cell HBI3.out 0).trans (rfl : _ = some (Value.int .i64 id))
            clear hb3
            simp only [if_true]
            go_wp2_with fail
            refine (HVS.out _ HB3.out).mono ?_
            rintro e w' ⟨⟨v, er, rfl, hv⟩, rfl⟩
            obtain ⟨rfl, hrow⟩ := HGood.out _ _ _ hv
            obtain ⟨g2, c2, rfl, hFg, hlc⟩ := hrow.full HN0.out
            rw [HML.out] at hrow hlc ⊢
            have HIC : Hid (Calls Tryz.prog 82 #[.slice (some ⟨g2, 0, none⟩) m c2, .func (.func 83) #[] #[.pointer (some ⟨w.heap.size, 0, none⟩)]] w3 fun e w' => e = .returned (.int .i64 r) ∧ Below w3.heap.size w3 w') := by
              rw [← HRr.out]
              exact index_is w3 F g2 m c2 (S.V b k) id w.heap.size HML.out hml (isC_lt ((HM.out.below HB3.out).f g2 hFg)) hrow HIN.out (by omega) i0
            clear hv hrow hFg
            go_wp2_with fail
            refine HIC.out.mono ?_
            rintro e w4 ⟨rfl, hb4⟩
            have HBV4 := Lib.hid (blk_below HBV3.out hb4)
            have HB4 := Lib.hid (HB3.out.trans (hb4.mono HB3.out.size))
            clear hb4
            go_wp2_with (refine wpList_store_row rfl 67 (.tmp 10) (.tmp 50) rfl (w.heap.size + 1) #[.int .i64 0, .bool false, .int .i64 0, .int .u32 0, .slice none 0 0] rfl rfl 67 _ HBV4.out (by kernel_rfl) rfl (by simp [Value.oneCell']) ?_)
            refine bodyPost_ret (results_ctt rfl _ _ (w.heap.size + 1) 67 #[.int .i64 0, .bool false, .int .i64 0, .int .u32 0, .slice none 0 0] (0, 0) _ rfl (setRow_heap _ _ _ _ _ _ HBV4.out) Tryz.underlying67 rfl (by kernel_rfl)) rfl ?_
            exact find_err hR.out (by decide) (below_setRow HB4.out (by omega) _)
          · have hR : Hid (S.findE b k id least = 0) := by show _ = _; rw [HE.out, hix, if_neg (by omega)]
            obtain ⟨y, hy⟩ : ∃ y, (S.V b k)[i]? = some y := ⟨_, List.getElem?_eq_getElem hil⟩
            have HIX := Lib.hid hix
            have HY := Lib.hid hy
            have HIL := Lib.hid hil
            rw [HML.out] at hil
            have dm : decide ((i : Int) < 0) = false := decide_eq_false (by omega)
            have nn : (i : Int) < (m : Int) := by omega
            have n0 : (0 : Int) ≤ (i : Int) := by omega
            clear hix hy hid hmm hm1
            go_enter Tryz.func55, Tryz.ntmps55
            go_upto_region 1 with (fail)
            clear hW2
            go_wp2_with fail
            refine HNA.out.mono ?_
            rintro e w3 ⟨rfl, hb3⟩
            have HBV3 := Lib.hid (blk_below HBV.out hb3)
            have HBI3 := Lib.hid (blk_below HBI.out hb3)
            have HB3 := Lib.hid (HB2.out.trans (hb3.mono HB2.out.size))
            have hs3 : w.heap.size + 2 ≤ w3.heap.size := by have := hb3.size; omega
            have i0 := (blk_cell HBI3.out 0).trans (rfl : _ = some (Value.int .i64 id))
            clear hb3
            simp only [if_true]
            go_wp2_with fail
            refine (HVS.out _ HB3.out).mono ?_
            rintro e w' ⟨⟨v, er, rfl, hv⟩, rfl⟩
            obtain ⟨rfl, hrow⟩ := HGood.out _ _ _ hv
            obtain ⟨g2, c2, rfl, hFg, hlc⟩ := hrow.full HN0.out
            rw [HML.out] at hrow hlc ⊢
            have HIC : Hid (Calls Tryz.prog 82 #[.slice (some ⟨g2, 0, none⟩) m c2, .func (.func 83) #[] #[.pointer (some ⟨w.heap.size, 0, none⟩)]] w3 fun e w' => e = .returned (.int .i64 (i : Int)) ∧ Below w3.heap.size w3 w') := by
              rw [← HIX.out]
              exact index_is w3 F g2 m c2 (S.V b k) id w.heap.size HML.out hml (isC_lt ((HM.out.below HB3.out).f g2 hFg)) hrow HIN.out (by omega) i0
            have HRw := Lib.hid hrow
            clear hv hrow hFg
            go_wp2_with fail
            refine HIC.out.mono ?_
            rintro e w4 ⟨rfl, hb4⟩
            have HBV4 := Lib.hid (blk_below HBV3.out hb4)
            have HB4 := Lib.hid (HB3.out.trans (hb4.mono HB3.out.size))
            have hs4 : w.heap.size + 2 ≤ w4.heap.size := by have := hb4.size; omega
            have hrow := HRw.out.kept (below_cells hb4 (HM.out.below HB3.out).f)
            obtain ⟨A2, c3, hdc, hdf, hcell⟩ := hrow.at_ i HY.out
            have y0 := hcell 0 _ rfl
            have y1 := hcell 1 _ rfl
            have y2 := hcell 2 _ rfl
            have y3 := hcell 3 _ rfl
            have y4 := hcell 4 _ rfl
            rw [Nat.add_zero] at y0
            have HDC := Lib.hid hdc
            have HDF := Lib.hid hdf
            clear hb4 hrow hdc hdf hcell i0
            go_wp2_with (refine wpList_store_row rfl 67 (.tmp 10) (.tmp 54) rfl (w.heap.size + 1) #[.int .i64 y.id, .bool y.mark, .int .i64 y.sz, .int .u32 y.sum, .slice A2 y.dt.length c3] rfl rfl 67 _ HBV4.out (by kernel_rfl) rfl (by simp [Value.oneCell']) ?_)
            refine bodyPost_ret (results_ctt rfl _ _ (w.heap.size + 1) 67 #[.int .i64 y.id, .bool y.mark, .int .i64 y.sz, .int .u32 y.sum, .slice A2 y.dt.length c3] (0, 0) _ rfl (setRow_heap _ _ _ _ _ _ HBV4.out) Tryz.underlying67 rfl (by kernel_rfl)) rfl ?_
            refine find_ok hR.out HIX.out HIL.out HY.out HDC.out (HDF.out.kept ?_) (below_setRow HB4.out (by omega) _)
            exact setRow_kept _ _ (fun h => by have := isC_lt (HM.out.f _ h); omega)
end Go.Proofs.YtjbjcfnbgcloiaaGreatDoor

/- Delete of package model. -/
namespace Go.Proofs.YtjbjcfnbgcloiaaGreatDoor
open Go.RowKit Nam YtjbjcfnbgcloiaaGreatDoorW.PrintWords

def kpDel (id : Int) : Kp := ⟨id, true, 0, 0, []⟩
def St.delE (S : St) (id : Int) (b k : List UInt8) : Int := if S.findE b k 0 0 ≠ 0 then S.findE b k 0 0 else moreE (S.V b k) (kpDel id)
def St.doDel (S : St) (id : Int) (b k : List UInt8) : St := if S.delE id b k = 0 then S.put b k (S.V b k ++ [kpDel id]) else S
theorem find_in {S : St} {b k : List UInt8} {id least : Int} (h : S.findE b k id least = 0) : b ∈ S.B ∧ S.V b k ≠ [] ∧ namedB b k = true := by
  unfold St.findE at h
  refine ⟨?_, ?_, ?_⟩
  all_goals (first | refine Classical.byContradiction (fun hn => ?_) | skip)
  · by_cases h1 : namedB b k = false
    · rw [if_pos h1] at h; cases h
    · rw [if_neg h1] at h
      by_cases h2 : id < least
      · rw [if_pos h2] at h; cases h
      · rw [if_neg h2, if_pos hn] at h; cases h
  · have hn := Classical.not_not.1 hn
    by_cases h1 : namedB b k = false
    · rw [if_pos h1] at h; cases h
    · rw [if_neg h1] at h
      by_cases h2 : id < least
      · rw [if_pos h2] at h; cases h
      · rw [if_neg h2] at h
        by_cases h3 : b ∉ S.B
        · rw [if_pos h3] at h; cases h
        · rw [if_neg h3, if_pos hn] at h; cases h
  · by_cases h1 : namedB b k = false
    · rw [if_pos h1] at h; cases h
    · exact hn (by simpa using h1)
theorem boxed {w w3 W4 : World} {cs0 cs : Array Value} {t : TypeId} (hb : Below w.heap.size w w3) (hW : (w3.alloc (.cells cs0 t)).setRow w3.heap.size cs = W4) : Below w.heap.size w W4 ∧ Below w3.heap.size w3 W4 := by
  subst hW
  exact ⟨below_setRow (hb.alloc hb.size _) hb.size _, below_setRow ((Below.refl _ _).alloc (Nat.le_refl _) _) (Nat.le_refl _) _⟩

set_option maxHeartbeats 2000000 in
set_option maxRecDepth 100000 in
theorem delete_is (w : World) (g : Nat) (S : St) (n : Nat) (Q F : Nat → Prop) (id : Int) (b k : List UInt8) (hb : b.length ≤ 100000) (hk : k.length ≤ 100000) (hl : (S.V b k).length ≤ 100000) (hn : n ≤ 100000) (hm : HasM w g S n Q F) (hT : Tabs w) :
    Calls Tryz.prog 34 #[.pointer (some ⟨g, 0, none⟩), .int .i64 id, .string (mkS b), .string (mkS k)] w
      (PutIs (S.doDel id b k) n Q F g (if S.delE id b k = 0 then kpDel id else kp0) (S.delE id b k) w) := by
  have HM := Lib.hid hm
  obtain ⟨W1, hW1⟩ : ∃ W1, w.alloc (.cells #[.int .i64 0, .bool false, .int .i64 0, .int .u32 0] 38) = W1 := ⟨_, rfl⟩
  have hb1 : Below w.heap.size w W1 := by rw [← hW1]; exact (Below.refl _ _).alloc (Nat.le_refl _) _
  have hbv : W1.heap[w.heap.size]? = some (.cells #[.int .i64 0, .bool false, .int .i64 0, .int .u32 0] 38 (0, 0)) := by rw [← hW1]; exact heap_alloc_new w _
  have hs1 : w.heap.size + 1 = W1.heap.size := by rw [← hW1]; simp
  have hfe := find_is W1 g S n Q F b k 0 0 hb hk hl (hm.below hb1) (hT.below hb1)
  have HW4 : Hid (∀ (w3 W4 : World) (cs : Array Value), Below W1.heap.size W1 w3 → (w3.alloc (.cells #[.int .i64 0, .bool false, .int .i64 0, .int .u32 0, .slice none 0 0] 67)).setRow w3.heap.size cs = W4 → Hid (W4.heap[w.heap.size]? = some (.cells #[.int .i64 0, .bool false, .int .i64 0, .int .u32 0] 38 (0, 0))) ∧ Hid (Below w.heap.size w W4) ∧ Hid (HasM W4 g S n Q F) ∧ Hid (w.heap.size < W4.heap.size)) := fun w3 W4 cs h3 h4 => by
    have h03 : Below w.heap.size w w3 := hb1.trans (h3.mono (by omega))
    obtain ⟨h5, h6⟩ := boxed h03 h4
    exact ⟨blk_below (blk_below hbv h3) h6, h5, hm.below h5, by show _ < _; have := h3.size; have := h6.size; omega⟩
  have HW4b : Hid (∀ (w3 W4 : World) (cs : Array Value), Below W1.heap.size W1 w3 → w3.alloc (.cells cs 67) = W4 → Hid (W4.heap[w.heap.size]? = some (.cells #[.int .i64 0, .bool false, .int .i64 0, .int .u32 0] 38 (0, 0))) ∧ Hid (Below w.heap.size w W4) ∧ Hid (HasM W4 g S n Q F) ∧ Hid (w.heap.size < W4.heap.size)) := fun w3 W4 cs h3 h4 => by
    have h03 : Below w.heap.size w w3 := hb1.trans (h3.mono (by omega))
    subst h4
    have h5 := h03.alloc h03.size (.cells cs 67)
    have h6 := (Below.refl w3.heap.size w3).alloc (Nat.le_refl _) (.cells cs 67)
    exact ⟨blk_below (blk_below hbv h3) h6, h5, hm.below h5, by show _ < _; have := h3.size; have := h6.size; omega⟩
  have HB5 : Hid (∀ (W4 w5 : World), W4.heap[w.heap.size]? = some (.cells #[.int .i64 0, .bool false, .int .i64 0, .int .u32 0] 38 (0, 0)) → Below w.heap.size w W4 → Moved Q W4 w5 → Hid (w5.heap[w.heap.size]? = some (.cells #[.int .i64 0, .bool false, .int .i64 0, .int .u32 0] 38 (0, 0)))) := fun W4 w5 h1 h2 h3 =>
    (h3.block w.heap.size (by have := isC_lt ⟨_, _, _, h1⟩; exact this) (fun h => by have := isM_lt (hm.q _ h); omega)).trans h1
  clear hbv hb1 hm hT
  by_cases hf : S.findE b k 0 0 = 0
  rotate_left
  · have hR : S.delE id b k = S.findE b k 0 0 := by unfold St.delE; rw [if_pos hf]
    obtain ⟨er, her⟩ : ∃ er, S.findE b k 0 0 = er := ⟨_, rfl⟩
    rw [her] at hR hf
    have hS : S.doDel id b k = S := by unfold St.doDel; rw [hR, if_neg hf]
    rw [hS, hR, if_neg hf]
    have HFE : Hid (Calls Tryz.prog 55 #[.pointer (some ⟨g, 0, none⟩), .string (mkS b), .string (mkS k), .int .i64 0, .int .i64 0] W1 fun e w' => e = .returned (.tuple #[.agg #[.int .i64 0, .bool false, .int .i64 0, .int .u32 0, .slice none 0 0], .int .i64 0, .int .i64 er]) ∧ Below W1.heap.size W1 w') := hfe.mono fun e w' h => by
      refine ⟨?_, h.2⟩
      rcases h.1 with ⟨_, he⟩ | ⟨h0, _⟩
      · rw [he, her]
      · exact absurd (her.symm.trans h0) hf
    have de : (er == 0) = false := by simp [hf]
    have HR := Lib.hid hR
    clear hfe hR hS her
    go_enter Tryz.func34, Tryz.ntmps34
    go_upto_region 1 with (fail)
    clear hW1
    go_wp2_with (first | (go_at_call 55; refine HFE.out.mono ?_; rintro e w3 ⟨rfl, hb3⟩; have hb3 := hb3; obtain ⟨W4, hW4⟩ : ∃ W4, (w3.alloc (.cells #[.int .i64 0, .bool false, .int .i64 0, .int .u32 0, .slice none 0 0] 67)).setRow w3.heap.size #[.int .i64 0, .bool false, .int .i64 0, .int .u32 0, .slice none 0 0] = W4 := ⟨_, rfl⟩; obtain ⟨HBV4, HB4, HS4, HBD4⟩ := HW4.out w3 W4 #[.int .i64 0, .bool false, .int .i64 0, .int .u32 0, .slice none 0 0] hb3 hW4; clear hb3) | (refine wpList_store_row rfl 67 (.tmp 10) (.tmp 18) rfl w3.heap.size #[.int .i64 0, .bool false, .int .i64 0, .int .u32 0, .slice none 0 0] rfl rfl 67 _ (heap_alloc_new w3 _) (by kernel_rfl) rfl (by simp [Value.oneCell']) ?_; rw [hW4]; clear hW4) | (refine (HMo.out _ HS4.out).mono ?_; rintro e w5 ⟨rfl, ⟨F5, hm5, hf5⟩, hmv⟩; have HFin := Lib.hid (And.intro hm5 (And.intro hf5 hmv)); have HBV5 := HB5.out _ _ HBV4.out HB4.out HFin.out.2.2; clear hm5 hf5 hmv; rw [HE.out.1, HE.out.2]; unfold verV) | (refine wpList_store_row rfl 38 (.tmp 8) (.tmp 23) rfl w.heap.size #[.int .i64 0, .bool false, .int .i64 0, .int .u32 0] rfl rfl 38 _ HBV4.out (by kernel_rfl) rfl (by simp [Value.oneCell']) ?_))
    refine bodyPost_ret (results_ct rfl _ _ w.heap.size 38 #[.int .i64 0, .bool false, .int .i64 0, .int .u32 0] (0, 0) _ rfl (setRow_heap _ _ _ _ _ _ HBV4.out) Tryz.underlying38 rfl (by kernel_rfl)) rfl ?_
    exact put_same HM.out (below_setRow HB4.out (Nat.le_refl _) _)
  · have hR : S.delE id b k = moreE (S.V b k) (kpDel id) := by unfold St.delE; rw [if_neg (fun h => h hf)]
    have hS : S.doDel id b k = S.more b k (kpDel id) := by unfold St.doDel St.more; rw [hR]
    rw [hS, hR]
    have hB := (find_in hf).1
    have HFE : Hid (Calls Tryz.prog 55 #[.pointer (some ⟨g, 0, none⟩), .string (mkS b), .string (mkS k), .int .i64 0, .int .i64 0] W1 fun e w' => (∃ (y : Kp) (A : Option Addr) (c i : Nat), e = .returned (.tuple #[.agg #[.int .i64 y.id, .bool y.mark, .int .i64 y.sz, .int .u32 y.sum, .slice A y.dt.length c], .int .i64 (i : Int), .int .i64 0])) ∧ Below W1.heap.size W1 w') := hfe.mono fun e w' h => by
      refine ⟨?_, h.2⟩
      rcases h.1 with ⟨h0, _⟩ | ⟨_, i, y, A, c, _, _, _, _, _, he⟩
      · exact absurd hf h0
      · exact ⟨y, A, c, i, he⟩
    have HMo : Hid (∀ W, HasM W g S n Q F → Calls Tryz.prog 51 #[.pointer (some ⟨g, 0, none⟩), .string (mkS b), .string (mkS k), .agg #[.int .i64 id, .bool true, .int .i64 0, .int .u32 0, .slice none 0 0]] W (MoreIs S n Q F (fun _ => False) g b k (kpDel id) W)) := fun W hm =>
      more_is W g S n Q F (fun _ => False) b k (kpDel id) none 0 hb hk hn hm hB (Nat.le_refl _) (fun _ _ => Kd.C_nil _ _) (fun j hj => hj.elim)
    obtain ⟨er, her⟩ : ∃ er, moreE (S.V b k) (kpDel id) = er := ⟨_, rfl⟩
    obtain ⟨z, hz⟩ : ∃ z, (if moreE (S.V b k) (kpDel id) = 0 then kpDel id else kp0) = z := ⟨_, rfl⟩
    rw [hz, her]
    have HE := Lib.hid (And.intro hz her)
    clear hfe hR hS her hz hB hf
    go_enter Tryz.func34, Tryz.ntmps34
    go_upto_region 1 with (fail)
    clear hW1
    go_wp2_with (first | (go_at_call 55; refine HFE.out.mono ?_; rintro e w3 ⟨⟨y, A, c, i, rfl⟩, hb3⟩; have hb3 := hb3; obtain ⟨W4, hW4⟩ : ∃ W4, w3.alloc (.cells #[.int .i64 y.id, .bool y.mark, .int .i64 y.sz, .int .u32 y.sum, .slice A y.dt.length c] 67) = W4 := ⟨_, rfl⟩; obtain ⟨HBV4, HB4, HS4, HBD4⟩ := HW4b.out w3 W4 #[.int .i64 y.id, .bool y.mark, .int .i64 y.sz, .int .u32 y.sum, .slice A y.dt.length c] hb3 hW4; clear hb3) | (refine wpList_store_row rfl 67 (.tmp 10) (.tmp 18) rfl w3.heap.size #[.int .i64 0, .bool false, .int .i64 0, .int .u32 0, .slice none 0 0] rfl rfl 67 _ (heap_alloc_new w3 _) (by kernel_rfl) rfl (by simp [Value.oneCell']) ?_; rw [hW4]; clear hW4) | (refine (HMo.out _ HS4.out).mono ?_; rintro e w5 ⟨rfl, ⟨F5, hm5, hf5⟩, hmv⟩; have HFin := Lib.hid (And.intro hm5 (And.intro hf5 hmv)); have HBV5 := HB5.out _ _ HBV4.out HB4.out HFin.out.2.2; clear hm5 hf5 hmv; rw [HE.out.1, HE.out.2]; unfold verV) | (refine wpList_store_row rfl 38 (.tmp 8) (.tmp 32) rfl w.heap.size #[.int .i64 z.id, .bool z.mark, .int .i64 z.sz, .int .u32 z.sum] rfl rfl 38 _ HBV5.out (by kernel_rfl) rfl (by simp [Value.oneCell']) ?_))
    refine bodyPost_ret (results_ct rfl _ _ w.heap.size 38 #[.int .i64 z.id, .bool z.mark, .int .i64 z.sz, .int .u32 z.sum] (0, 0) _ rfl (setRow_heap _ _ _ _ _ _ HBV5.out) Tryz.underlying38 rfl (by kernel_rfl)) rfl ?_
    have hF5 : ∀ j, F5 j → F j ∨ w.heap.size < j := fun j hj => by
      rcases HFin.out.2.1 j hj with h | h | h
      · exact .inl h
      · exact h.elim
      · exact .inr (by have := HBD4.out; omega)
    refine ⟨rfl, ⟨F5, HFin.out.1.setRow _ _ (fun h => ?_) (fun h => ?_), fun j hj => (hF5 j hj).imp (fun h => h) (fun h => by omega)⟩, ?_⟩
    · have := isM_lt (HM.out.q _ h); omega
    · rcases hF5 _ h with h | h
      · have := isC_lt (HM.out.f _ h); omega
      · omega
    · exact ((Moved.of_below HB4.out).trans HFin.out.2.2 (fun i hi => .inl hi)).setRow _ (Nat.le_refl _) _
end Go.Proofs.YtjbjcfnbgcloiaaGreatDoor

/- Get of package model. -/
namespace Go.Proofs.YtjbjcfnbgcloiaaGreatDoor
open Go.RowKit Nam YtjbjcfnbgcloiaaGreatDoorW.PrintWords

def St.getK (S : St) (b k : List UInt8) (id : Int) : Option Kp := (S.V b k)[(idxK id (S.V b k)).toNat]?
def St.getE (S : St) (b k : List UInt8) (id : Int) : Int := if S.findE b k id 0 ≠ 0 then S.findE b k id 0 else match S.getK b k id with
  | some y => if y.mark then 16 else 0
  | none => 0
def GetIs (S : St) (b k : List UInt8) (id : Int) (w : World) (e : Ending) (w' : World) : Prop :=
  (∃ (y : Kp) (v : Value), e = .returned (.tuple #[verV y, v, .int .i64 (S.getE b k id)]) ∧
    ((S.findE b k id 0 ≠ 0 ∧ y = kp0 ∧ v = .slice none 0 0) ∨ (S.findE b k id 0 = 0 ∧ S.getK b k id = some y ∧ S.getE b k id = 16 ∧ y.mark = true ∧ v = .slice none 0 0) ∨
     (S.findE b k id 0 = 0 ∧ S.getK b k id = some y ∧ S.getE b k id = 0 ∧ y.mark = false ∧ ∃ (A : Option Addr) (c : Nat), v = .slice A y.dt.length c ∧ y.dt.length ≤ c ∧ ∃ Fb, DatF w' Fb A y.dt ∧ ∀ j, Fb j → IsC w' j ∧ w.heap.size < j))) ∧ Below w.heap.size w w'
theorem below_put {w W : World} {B : Nat} (h : Below B w W) {p : Addr} (hp : B ≤ p.block) (u : Value) : Below B w (W.setCell p u) :=
  ⟨by simpa [World.setCell] using h.os, by simpa [World.setCell] using h.tape, by simpa [World.setCell] using h.output, by simpa [World.setCell] using h.size, fun k hk => (Below.heap_setCell W p u k (by omega)).trans (h.block k hk)⟩
theorem fkept_put {F : Nat → Prop} (W : World) {p : Addr} (hp : ∀ k, F k → k ≠ p.block) (u : Value) : FKept F W (W.setCell p u) := fun k hk => Below.heap_setCell W p u k (hp k hk)
set_option maxHeartbeats 2000000 in
set_option maxRecDepth 100000 in
theorem get_is (w : World) (g : Nat) (S : St) (n : Nat) (Q F : Nat → Prop) (b k : List UInt8) (id : Int) (hb : b.length ≤ 100000) (hk : k.length ≤ 100000) (hl : (S.V b k).length ≤ 100000) (hd : ∀ y ∈ S.V b k, y.dt.length ≤ 1000000) (hm : HasM w g S n Q F) (hT : Tabs w) :
    Calls Tryz.prog 20 #[.pointer (some ⟨g, 0, none⟩), .string (mkS b), .string (mkS k), .int .i64 id] w (GetIs S b k id w) := by
  obtain ⟨W1, hW1⟩ : ∃ W1, w.alloc (.cells #[.int .i64 0, .bool false, .int .i64 0, .int .u32 0] 38) = W1 := ⟨_, rfl⟩
  have hb1 : Below w.heap.size w W1 := by rw [← hW1]; exact (Below.refl _ _).alloc (Nat.le_refl _) _
  have hbv : W1.heap[w.heap.size]? = some (.cells #[.int .i64 0, .bool false, .int .i64 0, .int .u32 0] 38 (0, 0)) := by rw [← hW1]; exact heap_alloc_new w _
  have hs1 : w.heap.size + 1 = W1.heap.size := by rw [← hW1]; simp
  have hfe := find_is W1 g S n Q F b k id 0 hb hk hl (hm.below hb1) (hT.below hb1)
  have HW4 : Hid (∀ (w3 W4 : World) (cs : Array Value), Below W1.heap.size W1 w3 → (w3.alloc (.cells #[.int .i64 0, .bool false, .int .i64 0, .int .u32 0, .slice none 0 0] 67)).setRow w3.heap.size cs = W4 → Hid (W4.heap[w.heap.size]? = some (.cells #[.int .i64 0, .bool false, .int .i64 0, .int .u32 0] 38 (0, 0))) ∧ Hid (Below w.heap.size w W4) ∧ Hid (w.heap.size < w3.heap.size) ∧ Hid (w.heap.size < W4.heap.size) ∧ Hid (Below w3.heap.size w3 W4)) := fun w3 W4 cs h3 h4 => by
    have h03 : Below w.heap.size w w3 := hb1.trans (h3.mono (by omega))
    obtain ⟨h5, h6⟩ := boxed h03 h4
    have := h3.size
    have := h6.size
    exact ⟨blk_below (blk_below hbv h3) h6, h5, by show _ < _; omega, by show _ < _; omega, h6⟩
  have HW4b : Hid (∀ (w3 W4 : World) (cs : Array Value), Below W1.heap.size W1 w3 → w3.alloc (.cells cs 67) = W4 → Hid (W4.heap[w.heap.size]? = some (.cells #[.int .i64 0, .bool false, .int .i64 0, .int .u32 0] 38 (0, 0))) ∧ Hid (Below w.heap.size w W4) ∧ Hid (W4.heap[w3.heap.size]? = some (.cells cs 67 (0, 0))) ∧ Hid (w.heap.size < w3.heap.size ∧ w3.heap.size < W4.heap.size) ∧ Hid (Below w3.heap.size w3 W4)) := fun w3 W4 cs h3 h4 => by
    have h03 : Below w.heap.size w w3 := hb1.trans (h3.mono (by omega))
    have hnew := heap_alloc_new w3 (.cells cs 67)
    subst h4
    have h5 := h03.alloc h03.size (.cells cs 67)
    have h6 := (Below.refl w3.heap.size w3).alloc (Nat.le_refl _) (.cells cs 67)
    exact ⟨blk_below (blk_below hbv h3) h6, h5, hnew, ⟨by have := h3.size; omega, blk_lt hnew⟩, h6⟩
  have HFC : Hid (∀ V, Below W1.heap.size W1 V → ∀ j, F j → IsC V j) := fun V hV => ((hm.below hb1).below hV).f
  have HFC4 : Hid (∀ V, Below w.heap.size w V → ∀ j, F j → IsC V j) := fun V hV => (hm.below hV).f
  clear hbv hb1 hm hT
  by_cases hf : S.findE b k id 0 = 0
  rotate_left
  · have hR : S.getE b k id = S.findE b k id 0 := by unfold St.getE; rw [if_pos hf]
    obtain ⟨er, her⟩ : ∃ er, S.findE b k id 0 = er := ⟨_, rfl⟩
    have HF := Lib.hid hf
    rw [her] at hR hf
    have HFE : Hid (Calls Tryz.prog 55 #[.pointer (some ⟨g, 0, none⟩), .string (mkS b), .string (mkS k), .int .i64 id, .int .i64 0] W1 fun e w' => e = .returned (.tuple #[.agg #[.int .i64 0, .bool false, .int .i64 0, .int .u32 0, .slice none 0 0], .int .i64 0, .int .i64 er]) ∧ Below W1.heap.size W1 w') := hfe.mono fun e w' h => by
      refine ⟨?_, h.2⟩
      rcases h.1 with ⟨_, he⟩ | ⟨h0, _⟩
      · rw [he, her]
      · exact absurd (her.symm.trans h0) hf
    have de : (er == 0) = false := by simp [hf]
    have HR := Lib.hid hR
    clear hfe hR her
    go_enter Tryz.func20, Tryz.ntmps20
    go_upto_region 1 with (fail)
    clear hW1
    go_wp2_with (first | (go_at_call 55; refine HFE.out.mono ?_; rintro e w3 ⟨rfl, hb3⟩; obtain ⟨W4, hW4⟩ : ∃ W4, (w3.alloc (.cells #[.int .i64 0, .bool false, .int .i64 0, .int .u32 0, .slice none 0 0] 67)).setRow w3.heap.size #[.int .i64 0, .bool false, .int .i64 0, .int .u32 0, .slice none 0 0] = W4 := ⟨_, rfl⟩; obtain ⟨HBV4, HB4, HS4, HBD4, HK4⟩ := HW4.out w3 W4 #[.int .i64 0, .bool false, .int .i64 0, .int .u32 0, .slice none 0 0] hb3 hW4; clear hb3) | (refine wpList_store_row rfl 67 (.tmp 11) (.tmp 20) rfl w3.heap.size #[.int .i64 0, .bool false, .int .i64 0, .int .u32 0, .slice none 0 0] rfl rfl 67 _ (heap_alloc_new w3 _) (by kernel_rfl) rfl (by simp [Value.oneCell']) ?_; rw [hW4]; clear hW4) | (refine wpList_store_row rfl 38 (.tmp 8) (.tmp 26) rfl w.heap.size #[.int .i64 0, .bool false, .int .i64 0, .int .u32 0] rfl rfl 38 _ HBV4.out (by kernel_rfl) rfl (by simp [Value.oneCell']) ?_))
    refine bodyPost_ret (results_ctt rfl _ _ w.heap.size 38 #[.int .i64 0, .bool false, .int .i64 0, .int .u32 0] (0, 0) _ rfl (setRow_heap _ _ _ _ _ _ HBV4.out) Tryz.underlying38 rfl (by kernel_rfl)) rfl ?_
    exact ⟨⟨kp0, _, by rw [HR.out]; rfl, .inl ⟨HF.out, rfl, rfl⟩⟩, below_setRow HB4.out (Nat.le_refl _) _⟩
  · have HFE : Hid (Calls Tryz.prog 55 #[.pointer (some ⟨g, 0, none⟩), .string (mkS b), .string (mkS k), .int .i64 id, .int .i64 0] W1 fun e w' => (∃ (y : Kp) (A : Option Addr) (c i : Nat), e = .returned (.tuple #[.agg #[.int .i64 y.id, .bool y.mark, .int .i64 y.sz, .int .u32 y.sum, .slice A y.dt.length c], .int .i64 (i : Int), .int .i64 0]) ∧ S.getK b k id = some y ∧ y.dt.length ≤ c ∧ DatF w' F A y.dt) ∧ Below W1.heap.size W1 w') := hfe.mono fun e w' h => by
      refine ⟨?_, h.2⟩
      rcases h.1 with ⟨h0, _⟩ | ⟨_, i, y, A, c, hi, hil, hy, hc, hd, he⟩
      · exact absurd hf h0
      · exact ⟨y, A, c, i, he, by unfold St.getK; rw [hi]; exact hy, hc, hd⟩
    have HF := Lib.hid hf
    obtain ⟨y, hy⟩ : ∃ y, S.getK b k id = some y := by
      have : 0 ≤ idxK id (S.V b k) := by
        refine Classical.byContradiction fun hn => ?_
        unfold St.findE at hf
        have := find_in (S := S) (b := b) (k := k) (id := id) (least := 0) HF.out
        rw [if_neg (by rw [this.2.2]; simp)] at hf
        by_cases h2 : id < 0
        · rw [if_pos h2] at hf; cases hf
        · rw [if_neg h2, if_neg (fun h => h this.1), if_neg this.2.1, if_pos (by omega)] at hf; cases hf
      rcases idxK_lt (id := id) (l := S.V b k) with h | ⟨i, h, hi⟩
      · omega
      · exact ⟨(S.V b k)[i], by unfold St.getK; rw [h]; simp [hi]⟩
    have hyd : y.dt.length ≤ 1000000 := by
      refine hd y ?_
      unfold St.getK at hy
      exact List.mem_of_getElem? hy
    have HY := Lib.hid hy
    have HFE : Hid (Calls Tryz.prog 55 #[.pointer (some ⟨g, 0, none⟩), .string (mkS b), .string (mkS k), .int .i64 id, .int .i64 0] W1 fun e w' => (∃ (A : Option Addr) (c i : Nat), e = .returned (.tuple #[.agg #[.int .i64 y.id, .bool y.mark, .int .i64 y.sz, .int .u32 y.sum, .slice A y.dt.length c], .int .i64 (i : Int), .int .i64 0]) ∧ y.dt.length ≤ c ∧ DatF w' F A y.dt) ∧ Below W1.heap.size W1 w') := HFE.out.mono fun e w' ⟨⟨y', A, c, i, h1, h2, h3⟩, h4⟩ => by
      rw [HY.out] at h2
      injection h2 with h2
      subst h2
      exact ⟨⟨A, c, i, h1, h3⟩, h4⟩
    obtain ⟨mk, hmk⟩ : ∃ mk, y.mark = mk := ⟨_, rfl⟩
    cases mk with
    | true =>
      have HR : Hid (S.getE b k id = 16) := by show _ = _; unfold St.getE; rw [if_neg (fun h => h HF.out), HY.out]; simp [hmk]
      have HMK := Lib.hid hmk
      clear hfe hy hf
      rw [hmk] at HFE
      go_enter Tryz.func20, Tryz.ntmps20
      go_upto_region 1 with (fail)
      clear hW1
      go_wp2_with (first | (go_at_call 55; refine HFE.out.mono ?_; rintro e w3 ⟨⟨A, c, i, rfl, hdc, hdf⟩, hb3⟩; obtain ⟨W4, hW4⟩ : ∃ W4, w3.alloc (.cells #[.int .i64 y.id, .bool true, .int .i64 y.sz, .int .u32 y.sum, .slice A y.dt.length c] 67) = W4 := ⟨_, rfl⟩; obtain ⟨HBV4, HB4, HS4, HBD4, HK4⟩ := HW4b.out w3 W4 #[.int .i64 y.id, .bool true, .int .i64 y.sz, .int .u32 y.sum, .slice A y.dt.length c] hb3 hW4; have z0 := (blk_cell HS4.out 0).trans (rfl : _ = some (Value.int .i64 y.id)); have z1 := (blk_cell HS4.out 1).trans (rfl : _ = some (Value.bool true)); have z2 := (blk_cell HS4.out 2).trans (rfl : _ = some (Value.int .i64 y.sz)); have z3 := (blk_cell HS4.out 3).trans (rfl : _ = some (Value.int .u32 y.sum)); have z4 := (blk_cell HS4.out 4).trans (rfl : _ = some (Value.slice A y.dt.length c)); have HDA := Lib.hid (And.intro hdc hdf); have HB3 := Lib.hid hb3; clear hb3 hdc hdf) | (refine wpList_store_row rfl 38 (.tmp 8) (.tmp 33) rfl w.heap.size #[.int .i64 y.id, .bool true, .int .i64 y.sz, .int .u32 y.sum] rfl rfl 38 _ HBV4.out (by kernel_rfl) rfl (by simp [Value.oneCell']) ?_))
      refine bodyPost_ret (results_ctt rfl _ _ w.heap.size 38 #[.int .i64 y.id, .bool true, .int .i64 y.sz, .int .u32 y.sum] (0, 0) _ rfl (setRow_heap _ _ _ _ _ _ HBV4.out) Tryz.underlying38 rfl (by kernel_rfl)) rfl ?_
      exact ⟨⟨y, _, by rw [HR.out]; unfold verV; rw [HMK.out]; rfl, .inr (.inl ⟨HF.out, HY.out, HR.out, HMK.out, rfl⟩)⟩, below_setRow HB4.out (Nat.le_refl _) _⟩
    | false =>
      have HR : Hid (S.getE b k id = 0) := by show _ = _; unfold St.getE; rw [if_neg (fun h => h HF.out), HY.out]; simp [hmk]
      have HMK := Lib.hid hmk
      have HCl : Hid (∀ W A c, (Kd.int .u8).C W A y.dt.length (byN y.dt) → Calls Tryz.prog 53 #[.slice A y.dt.length c] W fun e w' => (∃ A' c', e = .returned (.slice A' y.dt.length c') ∧ y.dt.length ≤ c' ∧ ∃ Fb, DatF w' Fb A' y.dt ∧ ∀ k, Fb k → IsC w' k ∧ W.heap.size ≤ k) ∧ Below W.heap.size W w') := fun W A c h => bclone_is W A c y.dt hyd h
      clear hfe hy hf hyd
      rw [hmk] at HFE
      go_enter Tryz.func20, Tryz.ntmps20
      go_upto_region 1 with (fail)
      clear hW1
      go_wp2_with (first | (go_at_call 55; refine HFE.out.mono ?_; rintro e w3 ⟨⟨A, c, i, rfl, hdc, hdf⟩, hb3⟩; obtain ⟨W4, hW4⟩ : ∃ W4, w3.alloc (.cells #[.int .i64 y.id, .bool false, .int .i64 y.sz, .int .u32 y.sum, .slice A y.dt.length c] 67) = W4 := ⟨_, rfl⟩; obtain ⟨HBV4, HB4, HS4, HBD4, HK4⟩ := HW4b.out w3 W4 #[.int .i64 y.id, .bool false, .int .i64 y.sz, .int .u32 y.sum, .slice A y.dt.length c] hb3 hW4; have z0 := (blk_cell HS4.out 0).trans (rfl : _ = some (Value.int .i64 y.id)); have z1 := (blk_cell HS4.out 1).trans (rfl : _ = some (Value.bool false)); have z2 := (blk_cell HS4.out 2).trans (rfl : _ = some (Value.int .i64 y.sz)); have z3 := (blk_cell HS4.out 3).trans (rfl : _ = some (Value.int .u32 y.sum)); have z4 := (blk_cell HS4.out 4).trans (rfl : _ = some (Value.slice A y.dt.length c)); have HDA := Lib.hid (And.intro hdc hdf); have HB3 := Lib.hid hb3; clear hb3 hdc hdf) | fail)
      have hDF : DatF W4 F A y.dt := HDA.out.2.kept (below_cells HK4.out (fun j hj => (HFC.out w3 HB3.out j hj)))
      have HDF := Lib.hid hDF
      clear hDF
      have HSf : Hid (∀ V, Below W4.heap.size W4 V → V.cell? ⟨w3.heap.size, 0, none⟩ = some (.int .i64 y.id) ∧ V.cell? ⟨w3.heap.size, 1, none⟩ = some (.bool false) ∧ V.cell? ⟨w3.heap.size, 2, none⟩ = some (.int .i64 y.sz) ∧ V.cell? ⟨w3.heap.size, 3, none⟩ = some (.int .u32 y.sum) ∧ V.cell? ⟨w3.heap.size, 4, none⟩ = some (.slice A y.dt.length c)) := fun V hV => by
        have hbx := blk_below HS4.out hV
        exact ⟨(blk_cell hbx 0).trans rfl, (blk_cell hbx 1).trans rfl, (blk_cell hbx 2).trans rfl, (blk_cell hbx 3).trans rfl, (blk_cell hbx 4).trans rfl⟩
      have hne1 : w3.heap.size ≠ w.heap.size := by have := HBD4.out.1; omega
      have hB0 : Below W4.heap.size W4 W4.drew := (Below.refl _ _).drew
      have HC4 : Hid (∀ V, Below W4.heap.size W4 V → Calls Tryz.prog 53 #[.slice A y.dt.length c] V fun e w' => (∃ A' c', e = .returned (.slice A' y.dt.length c') ∧ Hid (y.dt.length ≤ c' ∧ ∃ Fb, DatF w' Fb A' y.dt ∧ ∀ k, Fb k → IsC w' k ∧ w.heap.size < k)) ∧ Below W4.heap.size W4 w' ∧ Hid (w'.heap[w.heap.size]? = some (.cells #[.int .i64 0, .bool false, .int .i64 0, .int .u32 0] 38 (0, 0)))) := fun V hV =>
        (HCl.out V A c (HDF.out.kept (below_cells hV (fun j hj => (HFC4.out W4 HB4.out j hj)))).now).mono fun e w' ⟨⟨A', c', h1, h2, Fb, h3, h4⟩, h5⟩ =>
          ⟨⟨A', c', h1, h2, Fb, h3, fun k hk => ⟨(h4 k hk).1, by have := (h4 k hk).2; have := hV.size; have := HBD4.out; omega⟩⟩, hV.trans (h5.mono hV.size), blk_below (blk_below HBV4.out hV) (h5.mono (Nat.le_refl _))⟩
      go_region_with (first | (go_at_call 53; refine (HC4.out _ hB0).mono ?_; rintro e w5 ⟨⟨A', c', rfl, HDD⟩, hb5, HBV5⟩; have q0 := HSf.out _ hb5; obtain ⟨q0, q1, q2, q3, q4⟩ := q0; have r0 := (blk_cell HBV5.out 0).trans (rfl : _ = some (Value.int .i64 0)); have r1 := (blk_cell HBV5.out 1).trans (rfl : _ = some (Value.bool false)); have r2 := (blk_cell HBV5.out 2).trans (rfl : _ = some (Value.int .i64 0)); have r3 := (blk_cell HBV5.out 3).trans (rfl : _ = some (Value.int .u32 0)); have f0 := blk_frozen HBV5.out 0; have f1 := blk_frozen HBV5.out 1; have f2 := blk_frozen HBV5.out 2; have f3 := blk_frozen HBV5.out 3))
      all_goals
        clear q0 q1 q2 q3 q4 r0 r1 r2 r3 f0 f1 f2 f3 z0 z1 z2 z3 z4
        obtain ⟨hdc5, Fb, hdf5, hfb5⟩ := HDD.out
        have hfn : ∀ j, Fb j → j ≠ w.heap.size := fun j h => by have := (hfb5 _ h).2; omega
        have HD5 := Lib.hid hdc5
        have HF5 := Lib.hid hdf5
        have HB5 := Lib.hid hfb5
        have HN5 := Lib.hid hfn
        have HL5 := Lib.hid hb5
        clear hdc5 hdf5 hfb5 hfn hb5 hne1 hB0
        go_wp2_with fail
        refine bodyPost_ret (results_ctt rfl _ _ w.heap.size 38 #[.int .i64 y.id, .bool false, .int .i64 y.sz, .int .u32 y.sum] (0, 0) _ rfl (blk_put (blk_put (blk_put (blk_put HBV5.out 0 _ rfl) 1 _ rfl) 2 _ rfl) 3 _ rfl) Tryz.underlying38 rfl (by kernel_rfl)) rfl ?_
        have hkp := (((fkept_put w5 (p := ⟨w.heap.size, 0, none⟩) HN5.out (.int .i64 y.id)).trans (fkept_put _ (p := ⟨w.heap.size, 1, none⟩) HN5.out (.bool false))).trans (fkept_put _ (p := ⟨w.heap.size, 2, none⟩) HN5.out (.int .i64 y.sz))).trans (fkept_put _ (p := ⟨w.heap.size, 3, none⟩) HN5.out (.int .u32 y.sum))
        refine ⟨⟨y, _, by rw [HR.out]; unfold verV; rw [HMK.out]; rfl, .inr (.inr ⟨HF.out, HY.out, HR.out, HMK.out, A', c', rfl, HD5.out, Fb, HF5.out.kept hkp, fun j hj => ⟨?_, (HB5.out j hj).2⟩⟩)⟩, below_put (below_put (below_put (below_put (HB4.out.trans (HL5.out.mono HB4.out.size)) (Nat.le_refl _) _) (Nat.le_refl _) _) (Nat.le_refl _) _) (Nat.le_refl _) _⟩
        obtain ⟨x1, x2, x3, x4⟩ := (HB5.out j hj).1
        exact ⟨x1, x2, x3, (hkp j hj).trans x4⟩
end Go.Proofs.YtjbjcfnbgcloiaaGreatDoor

/- Head of package model. -/
namespace Go.Proofs.YtjbjcfnbgcloiaaGreatDoor
open Go.RowKit Nam YtjbjcfnbgcloiaaGreatDoorW.PrintWords

def HeadIs (S : St) (b k : List UInt8) (id : Int) (w : World) (e : Ending) (w' : World) : Prop :=
  (∃ (y : Kp), e = .returned (.tuple #[verV y, .int .i64 (S.getE b k id)]) ∧ ((S.findE b k id 0 ≠ 0 ∧ y = kp0) ∨ (S.findE b k id 0 = 0 ∧ S.getK b k id = some y))) ∧ Below w.heap.size w w'

set_option maxHeartbeats 2000000 in
set_option maxRecDepth 100000 in
theorem head_is (w : World) (g : Nat) (S : St) (n : Nat) (Q F : Nat → Prop) (b k : List UInt8) (id : Int) (hb : b.length ≤ 100000) (hk : k.length ≤ 100000) (hl : (S.V b k).length ≤ 100000) (hd : ∀ y ∈ S.V b k, y.dt.length ≤ 1000000) (hm : HasM w g S n Q F) (hT : Tabs w) :
    Calls Tryz.prog 33 #[.pointer (some ⟨g, 0, none⟩), .string (mkS b), .string (mkS k), .int .i64 id] w (HeadIs S b k id w) := by
  obtain ⟨W1, hW1⟩ : ∃ W1, w.alloc (.cells #[.int .i64 0, .bool false, .int .i64 0, .int .u32 0] 38) = W1 := ⟨_, rfl⟩
  have hb1 : Below w.heap.size w W1 := by rw [← hW1]; exact (Below.refl _ _).alloc (Nat.le_refl _) _
  have hbv : W1.heap[w.heap.size]? = some (.cells #[.int .i64 0, .bool false, .int .i64 0, .int .u32 0] 38 (0, 0)) := by rw [← hW1]; exact heap_alloc_new w _
  have hs1 : w.heap.size + 1 = W1.heap.size := by rw [← hW1]; simp
  have hge := get_is W1 g S n Q F b k id hb hk hl hd (hm.below hb1) (hT.below hb1)
  have HG : Hid (Calls Tryz.prog 20 #[.pointer (some ⟨g, 0, none⟩), .string (mkS b), .string (mkS k), .int .i64 id] W1 fun e w' => (∃ (y : Kp) (v : Value) (er : Int), e = .returned (.tuple #[.agg #[.int .i64 y.id, .bool y.mark, .int .i64 y.sz, .int .u32 y.sum], v, .int .i64 er]) ∧ Hid (er = S.getE b k id ∧ ((S.findE b k id 0 ≠ 0 ∧ y = kp0) ∨ (S.findE b k id 0 = 0 ∧ S.getK b k id = some y)))) ∧ Below W1.heap.size W1 w') := hge.mono fun e w' ⟨⟨y, v, he, h⟩, hb⟩ => by
    refine ⟨⟨y, v, _, he, rfl, ?_⟩, hb⟩
    rcases h with ⟨h1, h2, _⟩ | ⟨h1, h2, _⟩ | ⟨h1, h2, _⟩
    · exact .inl ⟨h1, h2⟩
    · exact .inr ⟨h1, h2⟩
    · exact .inr ⟨h1, h2⟩
  have HW4b : Hid (∀ (w3 W4 : World) (cs : Array Value), Below W1.heap.size W1 w3 → w3.alloc (.cells cs 38) = W4 → Hid (W4.heap[w.heap.size]? = some (.cells #[.int .i64 0, .bool false, .int .i64 0, .int .u32 0] 38 (0, 0))) ∧ Hid (Below w.heap.size w W4) ∧ Hid (W4.heap[w3.heap.size]? = some (.cells cs 38 (0, 0)))) := fun w3 W4 cs h3 h4 => by
    have h03 : Below w.heap.size w w3 := hb1.trans (h3.mono (by omega))
    have hnew := heap_alloc_new w3 (.cells cs 38)
    subst h4
    have h5 := h03.alloc h03.size (.cells cs 38)
    have h6 := (Below.refl w3.heap.size w3).alloc (Nat.le_refl _) (.cells cs 38)
    exact ⟨blk_below (blk_below hbv h3) h6, h5, hnew⟩
  clear hbv hb1 hm hT hge
  go_enter Tryz.func33, Tryz.ntmps33
  go_upto_region 1 with (fail)
  clear hW1
  go_wp2_with (first | (go_at_call 20; refine HG.out.mono ?_; rintro e w3 ⟨⟨y, v, er, rfl, HY⟩, hb3⟩; obtain ⟨W4, hW4⟩ : ∃ W4, w3.alloc (.cells #[.int .i64 y.id, .bool y.mark, .int .i64 y.sz, .int .u32 y.sum] 38) = W4 := ⟨_, rfl⟩; obtain ⟨HBV4, HB4, HS4⟩ := HW4b.out w3 W4 #[.int .i64 y.id, .bool y.mark, .int .i64 y.sz, .int .u32 y.sum] hb3 hW4; have z0 := (blk_cell HS4.out 0).trans (rfl : _ = some (Value.int .i64 y.id)); have z1 := (blk_cell HS4.out 1).trans (rfl : _ = some (Value.bool y.mark)); have z2 := (blk_cell HS4.out 2).trans (rfl : _ = some (Value.int .i64 y.sz)); have z3 := (blk_cell HS4.out 3).trans (rfl : _ = some (Value.int .u32 y.sum)); clear hb3) | (refine wpList_store_row rfl 38 (.tmp 8) (.tmp 22) rfl w.heap.size #[.int .i64 y.id, .bool y.mark, .int .i64 y.sz, .int .u32 y.sum] rfl rfl 38 _ HBV4.out (by kernel_rfl) rfl (by simp [Value.oneCell']) ?_))
  refine bodyPost_ret (results_ct rfl _ _ w.heap.size 38 #[.int .i64 y.id, .bool y.mark, .int .i64 y.sz, .int .u32 y.sum] (0, 0) _ rfl (setRow_heap _ _ _ _ _ _ HBV4.out) Tryz.underlying38 rfl (by kernel_rfl)) rfl ?_
  exact ⟨⟨y, by rw [← HY.out.1]; rfl, HY.out.2⟩, below_setRow HB4.out (Nat.le_refl _) _⟩
end Go.Proofs.YtjbjcfnbgcloiaaGreatDoor

/- slices.Delete of one version. -/
namespace Go.Proofs.YtjbjcfnbgcloiaaGreatDoor
open Go.RowKit Nam YtjbjcfnbgcloiaaGreatDoorW.PrintWords

def kz : List Value := [.int .i64 0, .bool false, .int .i64 0, .int .u32 0, .slice none 0 0]
theorem run_clear_kept (w : World) (ty : TypeId) (b o c : Nat) (hc : ∀ j, j < 5 → (w.cell? ⟨b, o + j, none⟩).isSome = true) (hf : ∀ j, j < 5 → w.frozen? ⟨b, o + j, none⟩ = false) :
    (Builtin.clear_ #[64] ty #[.slice (some ⟨b, o, none⟩) 1 c]).run Tryz.prog w = .ok (.tuple #[]) (w.setCells b o kz) := by
  have hst := run_storeCells_cells (P := Tryz.prog) b o kz 0 w (by simpa [kz] using hc) (by simpa [kz] using hf) (by simp [kz, Value.oneCell'])
  simp only [Nat.add_zero] at hst
  have hzc : (Builtin.zeroCells (Value.agg #[.int .i64 0, .bool false, .int .i64 0, .int .u32 0, .slice none 0 0]).cells 1).toList = kz := by kernel_rfl
  simp [Builtin.clear_, run_underlying Tryz.underlying64, zero74, hzc, hst]

set_option maxHeartbeats 2000000 in
set_option maxRecDepth 100000 in
theorem kdel_is (w : World) (base g n cap i j m : Nat) (news : List Value) (hown : w.ownsRow base 67 5 (.slice (some ⟨g, 0, none⟩) n cap) n news) (hj : j = i + 1) (hn : n = j + m) (hn2 : n ≤ 1000) (h1 : ∀ u ∈ news, u.oneCell' = true) :
    Calls Tryz.prog 61 #[.slice (some ⟨g, 0, none⟩) n cap, .int .i64 (i : Int), .int .i64 (j : Int)] w fun e w' =>
      e = .returned (.slice (some ⟨g, 0, none⟩) (i + m) cap) ∧ w'.ownsRow base 67 5 (.slice (some ⟨g, 0, none⟩) (i + m) cap) (i + m) (news.take (i * 5) ++ news.drop (j * 5)) ∧ w.grownBy w' (some g) := by
  obtain ⟨hl, hown⟩ := hown
  rcases hown with ⟨h0, _⟩ | ⟨g', cap', cur, h0, hbg, hcell, hle, hmx, hsz, htk⟩
  · cases h0
  injection h0 with e1 e2 e3
  injection e1 with e1
  injection e1 with e1 e4 e5
  subst e1
  subst e3
  clear e2 e4 e5
  obtain ⟨i0, hi, hz0, hz1, hz2⟩ := info_parts infoKp
  obtain ⟨tail, htl⟩ : ∃ tail, tail = news.drop (j * 5) := ⟨_, rfl⟩
  have hlen : tail.length = m * 5 := by rw [htl, List.length_drop, hl]; omega
  have hget : ∀ t u, tail[t]? = some u → cur[j * 5 + t]? = some u := fun t u hu => by
    rw [htl, List.getElem?_drop, ← htk, List.getElem?_take] at hu
    split at hu
    · simpa using hu
    · cases hu
  obtain ⟨W0, hW0⟩ : ∃ W0, W0 = w.drew := ⟨_, rfl⟩
  have hc0 : W0.heap[g]? = some (.cells cur 67 (0, 0)) := by rw [hW0]; exact hcell
  obtain ⟨A, hA, hsrc⟩ : ∃ A : Addr, (if cap = j then some (⟨g, 0, none⟩ : Addr) else some ⟨g, j * 5, none⟩) = some A ∧ Hid (∀ t u, tail[t]? = some u → w.drew.cell? (A.add t) = some u) := by
    by_cases h : cap = j
    · refine ⟨⟨g, 0, none⟩, by simp [h], fun t u hu => ?_⟩
      have h0 : tail.length = 0 := by rw [hlen]; omega
      rw [List.length_eq_zero_iff.1 h0] at hu
      simp at hu
    · refine ⟨⟨g, j * 5, none⟩, by simp [h], fun t u hu => ?_⟩
      rw [Addr.add_lit, ← hW0]
      exact (blk_cell hc0 _).trans (hget t u hu)
  have s1 : Hid (tail.length = m * 5) := hlen
  have s2 : Hid (∀ u ∈ tail, u.oneCell' = true) := fun u hu => h1 u (by rw [htl] at hu; exact List.mem_of_mem_drop hu)
  have s3 : Hid (∀ t, t < tail.length → (w.drew.cell? ⟨g, 0 + i * 5 + t, none⟩).isSome = true ∧ w.drew.frozen? ⟨g, 0 + i * 5 + t, none⟩ = false) := fun t ht => by
    rw [← hW0, blk_cell hc0]
    refine ⟨?_, blk_frozen hc0 _⟩
    rw [hlen] at ht
    rw [Array.getElem?_eq_getElem (by rw [hsz]; omega)]
    rfl
  obtain ⟨W1, hW1⟩ : ∃ W1, W1 = w.drew.setCells g (0 + i * 5) tail := ⟨_, rfl⟩
  obtain ⟨cur1, hc1, hs1, ht1⟩ := setCells_row tail (0 + i * 5) w.drew cur hcell (by rw [hlen, hsz]; omega)
  rw [← hW1] at hc1
  have hcl : ∀ ty, (Builtin.clear_ #[64] ty #[.slice (some ⟨g, (i + m) * 5, none⟩) (n - (i + m)) (cap - (i + m))]).run Tryz.prog W1 = .ok (.tuple #[]) (W1.setCells g ((i + m) * 5) kz) := fun ty => by
    rw [show n - (i + m) = 1 by omega]
    refine run_clear_kept W1 ty g _ _ (fun t ht => ?_) (fun t ht => blk_frozen hc1 _)
    rw [blk_cell hc1, Array.getElem?_eq_getElem (by rw [hs1, hsz]; omega)]
    rfl
  obtain ⟨cur2, hc2, hs2, ht2⟩ := setCells_row kz ((i + m) * 5) W1 cur1 hc1 (by rw [hs1, hsz]; simp [kz]; omega)
  have hW : Hid (W1 = w.drew.setCells g (0 + i * 5) tail) := hW1
  have hFin : Hid ((W1.setCells g ((i + m) * 5) kz).ownsRow base 67 5 (.slice (some ⟨g, 0, none⟩) (i + m) cap) (i + m) (news.take (i * 5) ++ news.drop (j * 5)) ∧ w.grownBy (W1.setCells g ((i + m) * 5) kz) (some g)) := by
    refine ⟨⟨?_, .inr ⟨g, cap, cur2, rfl, hbg, hc2, by omega, hmx, by rw [hs2, hs1, hsz], ?_⟩⟩, ?_⟩
    · rw [← htl, List.length_append, List.length_take, hlen, hl]; omega
    · rw [ht2, ht1, ← htl]
      have hcl : cur.toList.length = cap * 5 := by rw [Array.length_toList, hsz]
      have e1 : (cur.toList.take (0 + i * 5)).length = i * 5 := by rw [List.length_take, hcl]; omega
      have e2 : cur.toList.take (0 + i * 5) = news.take (i * 5) := by rw [← htk, List.take_take, Nat.zero_add]; congr 1; omega
      rw [List.append_assoc _ kz, List.take_append_of_le_length (by rw [List.length_take]; simp [hlen, e1]; omega), List.take_take, Nat.min_self, e2]
      rw [List.take_append_of_le_length (by rw [List.length_append, hlen, ← e2, e1]; omega), List.take_of_length_le (by rw [List.length_append, hlen, ← e2, e1]; omega)]
    · have a1 := setCells_same g tail (0 + i * 5) w.drew
      have a2 := setCells_same g kz ((i + m) * 5) W1
      rw [← hW1] at a1
      refine ⟨a2.1.trans a1.1, a2.2.1.trans a1.2.1, a2.2.2.1.trans a1.2.2.1, by rw [a2.2.2.2, a1.2.2.2]; exact Nat.le_refl _, fun k hk hne => ?_⟩
      have hne : k ≠ g := fun e => hne (by rw [e])
      rw [setCells_far _ _ k hne, hW1, setCells_far _ _ k hne]
      rfl
  have hic : i ≤ cap := by omega
  have hjc : j ≤ cap := by omega
  have hjn : j ≤ n := by omega
  have hij : i ≠ j := by omega
  have hij2 : i ≤ j := by omega
  have hr : i + m ≤ cap := by omega
  have hrn : i + m ≤ n := by omega
  have hrc : cap ≠ i + m := by omega
  have hnm : n - j = m := by omega
  have HB := Lib.hid (And.intro hi (And.intro hz1 hnm))
  clear hW1 hW0 hc0 hc1 hc2 ht1 ht2 hs1 hs2 hlen htl hget hcell hsz htk hl h1 hi hz0 hz1 hz2 hj hn hnm
  go_enter Tryz.func61, Tryz.ntmps61
  go_wp2_with fail
  go_region_law (refine step_append_room rfl (.tmp 22) (.tmp 25) 64 rfl 67 i0 5 Tryz.underlying64 HB.out.1 HB.out.2.1 g 0 i cap (by simp [Act.eval, Act.put]) A m (cap - j) tail (by simp [Act.eval, Act.put, HB.out.2.2]) s1.out hsrc.out s2.out hr s3.out ?_; rw [← hW.out])
  go_wp2
  go_ret
  exact ⟨rfl, hFin.out⟩
end Go.Proofs.YtjbjcfnbgcloiaaGreatDoor

/- Erase of package model. -/
namespace Go.Proofs.YtjbjcfnbgcloiaaGreatDoor
open Go.RowKit Nam YtjbjcfnbgcloiaaGreatDoorW.PrintWords

def St.eraL (S : St) (b k : List UInt8) (id : Int) : List Kp := (S.V b k).take (idxK id (S.V b k)).toNat ++ (S.V b k).drop ((idxK id (S.V b k)).toNat + 1)
def St.doEra (S : St) (b k : List UInt8) (id : Int) : St := if S.findE b k id 1 = 0 then S.put b k (S.eraL b k id) else S
def EraIs (S : St) (n : Nat) (Q F : Nat → Prop) (g : Nat) (b k : List UInt8) (id : Int) (w : World) (e : Ending) (w' : World) : Prop :=
  e = .returned (.int .i64 (S.findE b k id 1)) ∧ (∃ F', HasM w' g (S.doEra b k id) (n + 1) Q F' ∧ ∀ j, F' j → F j ∨ w.heap.size ≤ j) ∧ Moved Q w w'

theorem era_fin {w w5 : World} {g n mb ib g3 n1 cap3 i base : Nat} {S : St} {Q F : Nat → Prop} {D D2 : DataW Unit} {b k : List UInt8} {id : Int} {l : List Kp} {news : List Value} (hm : HasM w g S n Q F) (hB : b ∈ S.B) (hO : Outer w g S n Q F mb D)
    (hat : D.atKey (.string b) .nil = .lit (.int .i64 ib)) (hqi : Q ib) (hne : ib ≠ mb) (hin : w.ownsMap Tryz.prog 9 R2 ib n D2) (hv2 : ∀ s, ∃ v ps, R2 v = some (D2.atKey (.string s) .nil, ps) ∧ RowV w F v (S.V b s)) (hl : S.V b k = l) (hE : S.findE b k id 1 = 0)
    (hi : idxK id l = (i : Int)) (hil : i < l.length) (hn1 : n1 + 1 = l.length) (hr : Reps (KpF w F) 5 l news) (hbase : w.heap.size ≤ base)
    (hown : w5.ownsMap Tryz.prog 9 R2 ib (n + 1) (D2.put (.string k) (.agg [.lit (.int .i64 g3), .lit (.int .i64 n1), .lit (.int .i64 cap3)]))) (hmv : Moved (fun j => j = ib) w w5)
    (hrow : w5.ownsRow base 67 5 (.slice (some ⟨g3, 0, none⟩) n1 cap3) n1 (news.take (i * 5) ++ news.drop ((i + 1) * 5))) :
    EraIs S n Q F g b k id w (.returned (.int .i64 0)) w5 := by
  have hck : FKept F w w5 := hmv.cells (fun j hj => by subst hj; exact hm.q j hqi) hm.f
  have hg3 : base ≤ g3 := own_base hrow g3 rfl
  have hreps : Reps (KpF w5 (fun j => F j ∨ j = g3)) 5 (l.take i ++ l.drop (i + 1)) (news.take (i * 5) ++ news.drop ((i + 1) * 5)) :=
    reps_mono (reps_kept (open Kd in reps_append (reps_take hr (by omega)) (reps_drop hr)) hck) (fun j hj => .inl hj)
  have hlen : (l.take i ++ l.drop (i + 1)).length = n1 := by rw [List.length_append, List.length_take, List.length_drop]; omega
  have hRV := rowV_of_own hrow hreps hlen (fun j hj => by simp [Value.ownBlock] at hj; exact .inr hj.symm)
  have hs := stored hm.q hm.f (F' := fun j => F j ∨ j = g3) (fun j hj => .inl hj) (fun j hj => by
      rcases hj with hj | rfl
      · obtain ⟨a, b, c, e⟩ := hm.f j hj
        exact ⟨a, b, c, (hck j hj).trans e⟩
      · obtain ⟨cells, hc⟩ := own_typed hrow j rfl
        exact ⟨_, _, _, hc⟩) hm.nd hm.off hO hB hat hqi hne hin hv2 (v := .slice (some ⟨g3, 0, none⟩) n1 cap3) rfl hown hmv hRV
  unfold EraIs St.doEra St.eraL
  rw [hE, if_pos rfl, hl, hi, Int.toNat_natCast]
  exact ⟨rfl, ⟨_, hs.1, fun j hj => by rcases hj with hj | rfl; exact .inl hj; exact .inr (by omega)⟩, hs.2⟩

set_option maxHeartbeats 4000000 in
set_option maxRecDepth 100000 in
theorem erase_is (w : World) (g : Nat) (S : St) (n : Nat) (Q F : Nat → Prop) (b k : List UInt8) (id : Int) (hb : b.length ≤ 100000) (hk : k.length ≤ 100000) (hl : (S.V b k).length ≤ 1000) (hn : n ≤ 100000) (hm : HasM w g S n Q F) (hT : Tabs w) :
    Calls Tryz.prog 35 #[.pointer (some ⟨g, 0, none⟩), .string (mkS b), .string (mkS k), .int .i64 id] w (EraIs S n Q F g b k id w) := by
  have HM := Lib.hid hm
  have hfe := find_is w g S n Q F b k id 1 hb hk (by omega) hm hT
  by_cases hf : S.findE b k id 1 = 0
  rotate_left
  · obtain ⟨er, her⟩ : ∃ er, S.findE b k id 1 = er := ⟨_, rfl⟩
    have HS : Hid (S.doEra b k id = S) := by show _ = _; unfold St.doEra; rw [if_neg hf]
    have HR := Lib.hid her
    rw [her] at hf
    have HFE : Hid (Calls Tryz.prog 55 #[.pointer (some ⟨g, 0, none⟩), .string (mkS b), .string (mkS k), .int .i64 id, .int .i64 1] w fun e w' => e = .returned (.tuple #[.agg #[.int .i64 0, .bool false, .int .i64 0, .int .u32 0, .slice none 0 0], .int .i64 0, .int .i64 er]) ∧ Below w.heap.size w w') := hfe.mono fun e w' h => by
      refine ⟨?_, h.2⟩
      rcases h.1 with ⟨_, he⟩ | ⟨h0, _⟩
      · rw [he, her]
      · exact absurd (her.symm.trans h0) hf
    have de : (er == 0) = false := by simp [hf]
    clear hfe her hm hT
    go_enter Tryz.func35, Tryz.ntmps35
    go_wp2_with (first | (go_at_call 55; refine HFE.out.mono ?_; rintro e w3 ⟨rfl, hb3⟩; have HB3 := Lib.hid hb3; clear hb3) | (refine wpList_store_row rfl 67 (.tmp 9) (.tmp 18) rfl w3.heap.size #[.int .i64 0, .bool false, .int .i64 0, .int .u32 0, .slice none 0 0] rfl rfl 67 _ (heap_alloc_new w3 _) (by kernel_rfl) rfl (by simp [Value.oneCell']) ?_))
    go_ret
    have hbx := below_setRow (HB3.out.alloc HB3.out.size (.cells #[.int .i64 0, .bool false, .int .i64 0, .int .u32 0, .slice none 0 0] 67)) HB3.out.size #[.int .i64 0, .bool false, .int .i64 0, .int .u32 0, .slice none 0 0]
    exact ⟨by rw [HR.out]; rfl, ⟨F, by rw [HS.out]; exact (HM.out.below hbx).mono (by omega), fun j hj => .inl hj⟩, Moved.of_below hbx⟩
  · obtain ⟨hB, hn0, _⟩ := find_in hf
    obtain ⟨mb, D, hO⟩ := hm.ex
    obtain ⟨ib, hat, hqi, hne, D2, hin, hv2⟩ := hO.at_ b hB
    obtain ⟨v, ps, hv, hrow⟩ := hv2 k
    obtain ⟨l, hlL⟩ : ∃ l, S.V b k = l := ⟨_, rfl⟩
    rw [hlL] at hrow hn0 hl
    obtain ⟨i, hidx, hil⟩ : ∃ i : Nat, idxK id l = (i : Int) ∧ i < l.length := by
      rcases idxK_lt (id := id) (l := l) with h | h
      · unfold St.findE at hf
        have := find_in (S := S) (b := b) (k := k) (id := id) (least := 1) hf
        exact absurd hf (by rw [if_neg (by rw [this.2.2]; simp)]; by_cases h2 : id < 1; · rw [if_pos h2]; decide
                            · rw [if_neg h2, if_neg (fun h => h this.1), if_neg this.2.1, hlL, if_pos h]; decide)
      · exact h
    obtain ⟨A2, c2, hve, hlc⟩ := hrow.slice
    obtain ⟨m, hmL⟩ : ∃ m, l.length = m := ⟨_, rfl⟩
    rw [hmL] at hve hlc
    subst hve
    obtain ⟨news, hna, hrn⟩ := hrow
    rw [hmL] at hna
    have HFE : Hid (Calls Tryz.prog 55 #[.pointer (some ⟨g, 0, none⟩), .string (mkS b), .string (mkS k), .int .i64 id, .int .i64 1] w fun e w' => (∃ (y : Kp) (A : Option Addr) (c : Nat), e = .returned (.tuple #[.agg #[.int .i64 y.id, .bool y.mark, .int .i64 y.sz, .int .u32 y.sum, .slice A y.dt.length c], .int .i64 (i : Int), .int .i64 0])) ∧ Below w.heap.size w w') := hfe.mono fun e w' h => by
      refine ⟨?_, h.2⟩
      rcases h.1 with ⟨h0, _⟩ | ⟨_, i', y, A, c, hi', _, _, _, _, he⟩
      · exact absurd hf h0
      · rw [hlL, hidx] at hi'
        have : i = i' := by omega
        subst this
        exact ⟨y, A, c, he⟩
    have HSf : Hid (∀ V, Below w.heap.size w V → V.cell? ⟨g, 0, none⟩ = some (.map (some mb)) ∧ (Instr.lookup 57 (.map (some mb)) (.string (mkS b)) false).run Tryz.prog V = .ok (.map (some ib)) V ∧ (Instr.lookup 63 (.map (some ib)) (.string (mkS k)) false).run Tryz.prog V = .ok (.slice A2 m c2) V) := fun V hV => by
      have hO' := hO.below hm.q hm.f hV
      have hin' := ownsMap_kept hin (hV.block ib (isM_lt (hm.q ib hqi)))
      exact ⟨(blk_cell hO'.c 0).trans rfl, look1' hO' (by unfold maxLen; omega) hat, look2' hin' (by unfold maxLen; omega) hv⟩
    have hnl : news.length = m * 5 := by rw [hrn.1, hmL]
    obtain ⟨n1, hn1⟩ : ∃ n1, n1 + 1 = m := ⟨m - 1, by omega⟩
    have HCl : Hid (∀ W4 V, Below w.heap.size w W4 → Below W4.heap.size W4 V → Calls Tryz.prog 21 #[.slice A2 m c2] V fun e w' => (∃ g3 cap3, e = .returned (.slice (some ⟨g3, 0, none⟩) m cap3) ∧ Hid (w'.ownsRow W4.heap.size 67 5 (.slice (some ⟨g3, 0, none⟩) m cap3) m news)) ∧ Below W4.heap.size W4 w') := fun W4 V h4 hV =>
      (kclone_at V F _ news m (by omega) hnl (reps_ones hrn) (hna.kept ((below_cells h4 hm.f).trans (below_cells hV (hm.below h4).f)))).mono fun e w' ⟨⟨v', he, ho⟩, hb⟩ => by
        refine ⟨?_, hV.trans (hb.mono hV.size)⟩
        have ho' := own_weaken ho hV.size
        rcases ho'.2 with ⟨_, h0⟩ | ⟨g3, cap3, cur, h0, _⟩
        · omega
        · subst h0
          exact ⟨g3, cap3, he, ho'⟩
    have HDe : Hid (∀ W4 V g3 cap3, Below W4.heap.size W4 V → V.ownsRow W4.heap.size 67 5 (.slice (some ⟨g3, 0, none⟩) m cap3) m news → Calls Tryz.prog 61 #[.slice (some ⟨g3, 0, none⟩) m cap3, .int .i64 (i : Int), .int .i64 ((i + 1 : Nat) : Int)] V fun e w' => e = .returned (.slice (some ⟨g3, 0, none⟩) n1 cap3) ∧ Hid (w'.ownsRow W4.heap.size 67 5 (.slice (some ⟨g3, 0, none⟩) n1 cap3) n1 (news.take (i * 5) ++ news.drop ((i + 1) * 5))) ∧ Below W4.heap.size W4 w') := fun W4 V g3 cap3 hV ho =>
      (kdel_is V W4.heap.size g3 m cap3 i (i + 1) (m - (i + 1)) news ho rfl (by omega) (by omega) (reps_ones hrn)).mono fun e w' ⟨he, h2, h3⟩ => by
        rw [show i + (m - (i + 1)) = n1 by omega] at he h2
        exact ⟨he, h2, hV.grown h3 hV.size (fun j hj => own_base ho j hj)⟩
    have HUp : Hid (∀ (W4 W6 : World) (g3 cap3 : Nat), Below w.heap.size w W4 → Below W4.heap.size W4 W6 → W6.ownsRow W4.heap.size 67 5 (.slice (some ⟨g3, 0, none⟩) n1 cap3) n1 (news.take (i * 5) ++ news.drop ((i + 1) * 5)) → ∃ w7, (Instr.mapUpdate 63 (.map (some ib)) (.string (mkS k)) (.slice (some ⟨g3, 0, none⟩) n1 cap3)).run Tryz.prog W6 = .ok () w7 ∧ Hid (EraIs S n Q F g b k id w (.returned (.int .i64 0)) w7)) := fun W4 W6 g3 cap3 h4 h6 ho => by
      have h46 := h4.trans (h6.mono h4.size)
      have hib := isM_lt (hm.q ib hqi)
      obtain ⟨w7, h1, h2, h3⟩ := (ownsMap_kept hin (h46.block ib hib)).update KS Tryz.underlying63 (by unfold maxLen; omega) (key_str k (by unfold maxLen; omega)) (show R2 (.slice (some ⟨g3, 0, none⟩) n1 cap3) = some (.agg [.lit (.int .i64 g3), .lit (.int .i64 n1), .lit (.int .i64 cap3)], []) from rfl)
      have hmv : Moved (fun j => j = ib) w w7 := (Moved.of_below h46).trans (Moved.of_grown h3 (Q := fun j => j = ib) rfl) (fun i hi => .inl hi)
      refine ⟨w7, h1, era_fin hm hB hO hat hqi hne hin hv2 hlL hf hidx (by omega) (by omega) hrn h4.size h2 hmv (own_other ho h3 (.inr ?_))⟩
      have hg3 := own_base ho g3 rfl
      have := h4.size
      simp only [Value.ownBlock]
      intro e
      injection e with e
      omega
    have wi : IntKind.i64.wrap ((i : Int) + 1) = ((i + 1 : Nat) : Int) := by rw [IntWalk.i64_in _ (by omega)]; omega
    have hrcl : (S.findE b k id 1 = 0) := hf
    have HR := Lib.hid hrcl
    clear hrcl hfe hf hB hn0 hO hat hqi hne hin hv2 hv hlL hidx hil hlc hna hrn hnl hn1 hmL hm hT hl
    go_enter Tryz.func35, Tryz.ntmps35
    go_wp2_with (first | (go_at_call 55; refine HFE.out.mono ?_; rintro e w3 ⟨⟨y, A, c, rfl⟩, hb3⟩; obtain ⟨W4, hW4⟩ : ∃ W4, w3.alloc (.cells #[.int .i64 y.id, .bool y.mark, .int .i64 y.sz, .int .u32 y.sum, .slice A y.dt.length c] 67) = W4 := ⟨_, rfl⟩; have hb4 : Below w.heap.size w W4 := (by rw [← hW4]; exact hb3.alloc hb3.size _); clear hb3) | fail)
    clear hW4
    have hB0 : Below W4.heap.size W4 W4.drew := (Below.refl _ _).drew
    obtain ⟨q0, q1, q2⟩ := HSf.out _ hb4
    obtain ⟨d0, d1, d2⟩ := HSf.out W4.drew (hb4.trans (hB0.mono hb4.size))
    go_region_with (first | (go_at_call 21; refine (HCl.out _ _ hb4 hB0).mono ?_; rintro e w5 ⟨⟨g3, cap3, rfl, HOW⟩, hb5⟩; obtain ⟨r0, r1, r2⟩ := HSf.out _ (hb4.trans (hb5.mono hb4.size))) | (go_at_call 61; refine (HDe.out _ _ _ _ hb5 HOW.out).mono ?_; rintro e w6 ⟨rfl, HOW6, hb6⟩; obtain ⟨s0, s1, s2⟩ := HSf.out _ (hb4.trans (hb6.mono hb4.size)); obtain ⟨w7, hrun7, HE7⟩ := HUp.out _ _ _ _ hb4 hb6 HOW6.out))
    all_goals
      clear hrun7 q0 q1 q2 d0 d1 d2 r0 r1 r2 s0 s1 s2 hb5 hb6 hB0 hb4
      go_wp2_with fail
      go_ret
      exact HE7.out
end Go.Proofs.YtjbjcfnbgcloiaaGreatDoor

/- Call of the statements of layer 22: one choice on a model. -/

set_option linter.unusedSimpArgs false
set_option linter.unusedVariables false
namespace Go.Proofs.YtjbjcfnbgcloiaaGreatDoor
open Go.RowKit Nam YtjbjcfnbgcloiaaGreatDoorW.PrintWords

def ansL (err : Int) (y : Kp) (dv : Value) : List Value := [.int .i64 err, .int .i64 y.id, .bool y.mark, .int .i64 y.sz, .int .u32 y.sum, dv, .slice none 0 0, .bool false, .string ⟨#[]⟩, .int .i64 0, .slice none 0 0]
abbrev ans0 : Array Value := #[.int .i64 0, .int .i64 0, .bool false, .int .i64 0, .int .u32 0, .slice none 0 0, .slice none 0 0, .bool false, .string ⟨#[]⟩, .int .i64 0, .slice none 0 0]
def AnsIs (P : Kp → Value → World → Prop) (S' : St) (n : Nat) (Q F : Nat → Prop) (g : Nat) (err : Int) (w : World) (e : Ending) (w' : World) : Prop :=
  (∃ y dv, e = .returned (.agg (ansL err y dv).toArray) ∧ P y dv w') ∧ (∃ F', HasM w' g S' (n + 1) Q F' ∧ ∀ j, F' j → F j ∨ w.heap.size ≤ j) ∧ Moved Q w w'

structure Boxed (w W : World) (cs : Array Value) : Prop where
  b : Below w.heap.size w W
  s : W.heap.size = w.heap.size + 3
  k4 : W.heap[w.heap.size]? = some (.cells cs 34 (0, 0))
  k6 : W.heap[w.heap.size + 1]? = some (.cells ans0 44 (0, 0))
  k7 : W.heap[w.heap.size + 2]? = some (.cells ans0 44 (0, 0))
theorem boxed_mk (w : World) (cs : Array Value) : Boxed w (((w.alloc (.cells cs 34)).alloc (.cells ans0 44)).alloc (.cells ans0 44)) cs := by
  obtain ⟨W1, h1⟩ : ∃ W1, w.alloc (.cells cs 34) = W1 := ⟨_, rfl⟩
  obtain ⟨W2, h2⟩ : ∃ W2, W1.alloc (.cells ans0 44) = W2 := ⟨_, rfl⟩
  have s1 : W1.heap.size = w.heap.size + 1 := by rw [← h1]; simp
  have s2 : W2.heap.size = w.heap.size + 2 := by rw [← h2]; simp [s1]
  have b1 : Below w.heap.size w W1 := by rw [← h1]; exact (Below.refl _ _).alloc (Nat.le_refl _) _
  have b2 : Below W1.heap.size W1 W2 := by rw [← h2]; exact (Below.refl _ _).alloc (Nat.le_refl _) _
  have b3 : Below W2.heap.size W2 (W2.alloc (.cells ans0 44)) := (Below.refl _ _).alloc (Nat.le_refl _) _
  rw [h1, h2]
  refine ⟨(b1.trans (b2.mono b1.size)).trans (b3.mono (by omega)), by simp [s2], ?_, ?_, ?_⟩
  · rw [b3.block _ (by omega), b2.block _ (by omega), ← h1]
    exact heap_alloc_new w _
  · rw [b3.block _ (by omega), ← s1, ← h2]
    exact heap_alloc_new W1 _
  · rw [← s2]
    exact heap_alloc_new W2 _

structure Only (B C : Nat) (w V : World) : Prop where
  os : V.os = w.os
  tape : V.tape = w.tape
  output : V.output = w.output
  size : w.heap.size ≤ V.heap.size
  block : ∀ k, k < w.heap.size → (k < B ∨ C ≤ k) → V.heap[k]? = w.heap[k]?
theorem Only.refl (B C : Nat) (w : World) : Only B C w w := ⟨rfl, rfl, rfl, Nat.le_refl _, fun _ _ _ => rfl⟩
theorem Only.of_below {B C : Nat} {w a V : World} (h : Only B C w a) (hb : Below a.heap.size a V) : Only B C w V :=
  ⟨hb.os.trans h.os, hb.tape.trans h.tape, hb.output.trans h.output, Nat.le_trans h.size hb.size, fun k hk hh => (hb.block k (Nat.lt_of_lt_of_le hk h.size)).trans (h.block k hk hh)⟩
theorem Only.put {B C : Nat} {w a : World} (h : Only B C w a) {g : Nat} (i : Nat) (u : Value) (h1 : B ≤ g) (h2 : g < C ∨ w.heap.size ≤ g) : Only B C w (a.setCell ⟨g, i, none⟩ u) := by
  refine ⟨by simpa [World.setCell] using h.os, by simpa [World.setCell] using h.tape, by simpa [World.setCell] using h.output, by simpa [World.setCell] using h.size, fun k hk hh => ?_⟩
  rw [Below.heap_setCell a ⟨g, i, none⟩ u k (by show k ≠ g; omega)]
  exact h.block k hk hh
theorem Only.row {B C : Nat} {w a : World} (h : Only B C w a) {g : Nat} (cs : Array Value) (h1 : B ≤ g) (h2 : g < C ∨ w.heap.size ≤ g) : Only B C w (a.setRow g cs) := by
  refine ⟨h.os, h.tape, h.output, by simpa [World.setRow] using h.size, fun k hk hh => ?_⟩
  rw [setRow_other _ _ _ _ (by omega)]
  exact h.block k hk hh
theorem ans_fin {w W3 w4 V : World} {g n n' : Nat} {S S' : St} {Q F : Nat → Prop} {cs : Array Value} (hm : HasM w g S n' Q F) (hbx : Boxed w W3 cs) (hf : ∃ F', HasM w4 g S' (n + 1) Q F' ∧ ∀ j, F' j → F j ∨ W3.heap.size ≤ j) (hmv : Moved Q W3 w4) (ho : Only w.heap.size (w.heap.size + 3) w4 V) :
    (∃ F', HasM V g S' (n + 1) Q F' ∧ ∀ j, F' j → F j ∨ w.heap.size ≤ j) ∧ Moved Q w V := by
  obtain ⟨F', h1, h2⟩ := hf
  have hs := hbx.s
  refine ⟨⟨F', h1.kept (fun k hk => ho.block k (isC_lt (h1.f k hk)) ?_) (fun k hk => ho.block k (isM_lt (h1.q k hk)) (.inl (isM_lt (hm.q k hk)))), fun j hj => (h2 j hj).imp_right fun e => by omega⟩, ?_⟩
  · rcases h2 k hk with h | h
    · exact .inl (isC_lt (hm.f k h))
    · exact .inr (by omega)
  · refine ⟨ho.os.trans (hmv.os.trans hbx.b.os), ho.tape.trans (hmv.tape.trans hbx.b.tape), ho.output.trans (hmv.output.trans hbx.b.output), Nat.le_trans hbx.b.size (Nat.le_trans hmv.size ho.size), fun k hk hn => ?_⟩
    rw [ho.block k (by have := hmv.size; omega) (.inl hk), hmv.block k (by omega) hn, hbx.b.block k hk]
theorem boxed_after {w W3 w4 : World} {Q : Nat → Prop} {cs : Array Value} (hbx : Boxed w W3 cs) (hq : ∀ k, Q k → IsM w k) (hmv : Moved Q W3 w4) :
    w4.heap[w.heap.size + 1]? = some (.cells ans0 44 (0, 0)) ∧ w4.heap[w.heap.size + 1 + 1]? = some (.cells ans0 44 (0, 0)) ∧ w.heap.size + 3 ≤ w4.heap.size := by
  have hs := hbx.s
  refine ⟨?_, ?_, by have := hmv.size; omega⟩
  · rw [hmv.block _ (by omega) (fun h => by have := isM_lt (hq _ h); omega)]
    exact hbx.k6
  · rw [hmv.block _ (by omega) (fun h => by have := isM_lt (hq _ h); omega)]
    exact hbx.k7

structure Zeros (w : World) (g : Nat) : Prop where
  z0 : w.cell? ⟨g, 0, none⟩ = some (.int .i64 0)
  z1 : w.cell? ⟨g, 1, none⟩ = some (.int .i64 0)
  z2 : w.cell? ⟨g, 2, none⟩ = some (.bool false)
  z3 : w.cell? ⟨g, 3, none⟩ = some (.int .i64 0)
  z4 : w.cell? ⟨g, 4, none⟩ = some (.int .u32 0)
  z5 : w.cell? ⟨g, 5, none⟩ = some (.slice none 0 0)
  z6 : w.cell? ⟨g, 6, none⟩ = some (.slice none 0 0)
  z7 : w.cell? ⟨g, 7, none⟩ = some (.bool false)
  z8 : w.cell? ⟨g, 8, none⟩ = some (.string ⟨#[]⟩)
  z9 : w.cell? ⟨g, 9, none⟩ = some (.int .i64 0)
  z10 : w.cell? ⟨g, 10, none⟩ = some (.slice none 0 0)
theorem zeros_of {w : World} {g : Nat} (h : w.heap[g]? = some (.cells ans0 44 (0, 0))) : Zeros w g :=
  ⟨(blk_cell h 0).trans rfl, (blk_cell h 1).trans rfl, (blk_cell h 2).trans rfl, (blk_cell h 3).trans rfl, (blk_cell h 4).trans rfl, (blk_cell h 5).trans rfl, (blk_cell h 6).trans rfl, (blk_cell h 7).trans rfl, (blk_cell h 8).trans rfl, (blk_cell h 9).trans rfl, (blk_cell h 10).trans rfl⟩
structure ChAt (w : World) (g : Nat) (d : Int) (bk ky : List UInt8) (dv : Value) (n a : Int) (pf fr : List UInt8) (fi mo : Int) : Prop where
  c0 : w.cell? ⟨g, 0, none⟩ = some (.int .i64 d)
  c1 : w.cell? ⟨g, 1, none⟩ = some (.string (mkS bk))
  c2 : w.cell? ⟨g, 2, none⟩ = some (.string (mkS ky))
  c3 : w.cell? ⟨g, 3, none⟩ = some dv
  c4 : w.cell? ⟨g, 4, none⟩ = some (.int .i64 n)
  c5 : w.cell? ⟨g, 5, none⟩ = some (.int .i64 a)
  c6 : w.cell? ⟨g, 6, none⟩ = some (.string (mkS pf))
  c7 : w.cell? ⟨g, 7, none⟩ = some (.string (mkS fr))
  c8 : w.cell? ⟨g, 8, none⟩ = some (.int .i64 fi)
  c9 : w.cell? ⟨g, 9, none⟩ = some (.int .i64 mo)
theorem chAt_of {w : World} {g : Nat} {d : Int} {bk ky : List UInt8} {dv : Value} {n a : Int} {pf fr : List UInt8} {fi mo : Int}
    (h : w.heap[g]? = some (.cells #[.int .i64 d, .string (mkS bk), .string (mkS ky), dv, .int .i64 n, .int .i64 a, .string (mkS pf), .string (mkS fr), .int .i64 fi, .int .i64 mo] 34 (0, 0))) : ChAt w g d bk ky dv n a pf fr fi mo :=
  ⟨(blk_cell h 0).trans rfl, (blk_cell h 1).trans rfl, (blk_cell h 2).trans rfl, (blk_cell h 3).trans rfl, (blk_cell h 4).trans rfl, (blk_cell h 5).trans rfl, (blk_cell h 6).trans rfl, (blk_cell h 7).trans rfl, (blk_cell h 8).trans rfl, (blk_cell h 9).trans rfl⟩

set_option maxHeartbeats 2000000 in
set_option maxRecDepth 100000 in
theorem call_era (w : World) (g : Nat) (S : St) (n : Nat) (Q F : Nat → Prop) (b k pf fr : List UInt8) (dv : Value) (id nn a fi mo : Int) (hb : b.length ≤ 100000) (hk : k.length ≤ 100000) (hl : (S.V b k).length ≤ 1000) (hn : n ≤ 100000) (hm : HasM w g S n Q F) (hT : Tabs w) :
    Calls Tryz.prog 13 #[.pointer (some ⟨g, 0, none⟩), .agg #[.int .i64 8, .string (mkS b), .string (mkS k), dv, .int .i64 nn, .int .i64 a, .string (mkS pf), .string (mkS fr), .int .i64 fi, .int .i64 mo], .int .i64 id] w
      (AnsIs (fun y dv _ => y = kp0 ∧ dv = .slice none 0 0) (S.doEra b k nn) n Q F g (S.findE b k nn 1) w) := by
  obtain ⟨W3, hW3⟩ : ∃ W3, ((w.alloc (.cells #[.int .i64 8, .string (mkS b), .string (mkS k), dv, .int .i64 nn, .int .i64 a, .string (mkS pf), .string (mkS fr), .int .i64 fi, .int .i64 mo] 34)).alloc (.cells ans0 44)).alloc (.cells ans0 44) = W3 := ⟨_, rfl⟩
  have hbx := boxed_mk w #[.int .i64 8, .string (mkS b), .string (mkS k), dv, .int .i64 nn, .int .i64 a, .string (mkS pf), .string (mkS fr), .int .i64 fi, .int .i64 mo]
  rw [hW3] at hbx
  have HC : Hid (Calls Tryz.prog 35 #[.pointer (some ⟨g, 0, none⟩), .string (mkS b), .string (mkS k), .int .i64 nn] W3 fun e w' => e = .returned (.int .i64 (S.findE b k nn 1)) ∧ Hid ((∃ F', HasM w' g (S.doEra b k nn) (n + 1) Q F' ∧ ∀ j, F' j → F j ∨ W3.heap.size ≤ j) ∧ Moved Q W3 w') ∧ Hid (w'.heap[w.heap.size + 1]? = some (.cells ans0 44 (0, 0)) ∧ w'.heap[w.heap.size + 1 + 1]? = some (.cells ans0 44 (0, 0)) ∧ w.heap.size + 3 ≤ w'.heap.size)) :=
    (erase_is W3 g S n Q F b k nn hb hk hl hn (hm.below hbx.b) (hT.below hbx.b)).mono fun e w' ⟨h1, h2, h3⟩ => ⟨h1, ⟨h2, h3⟩, boxed_after hbx hm.q h3⟩
  have HBX := Lib.hid hbx
  have HM := Lib.hid hm
  have HW3 := Lib.hid hW3
  obtain ⟨c0, c1, c2, c3, c4, c5, c6, c7, c8, c9⟩ := chAt_of hbx.k4
  clear c3 c5 c6 c7 c8 c9
  obtain ⟨er, her⟩ : ∃ er, S.findE b k nn 1 = er := ⟨_, rfl⟩
  rw [her] at HC ⊢
  clear hm hT hl hbx hW3 her
  go_enter Tryz.func13, Tryz.ntmps13
  go_upto_region 2 with (fail)
  rw [HW3.out]
  clear HW3
  go_wp2_with fail
  refine HC.out.mono ?_
  rintro e w4 ⟨rfl, HF, HB⟩
  obtain ⟨z0, z1, z2, z3, z4, z5, z6, z7, z8, z9, z10⟩ := zeros_of HB.out.2.1
  have f0 := blk_frozen HB.out.2.1 0
  have HB6 : Hid (∀ u, (w4.setCell ⟨w.heap.size + 1 + 1, 0, none⟩ u).heap[w.heap.size + 1]? = some (.cells ans0 44 (0, 0))) := fun u => blk_far HB.out.1 (by simp) u
  go_wp2_with (refine wpList_store_row rfl 44 (.tmp 6) (.tmp 159) rfl (w.heap.size + 1) (ansL er kp0 (.slice none 0 0)).toArray rfl rfl 44 _ (HB6.out _) (by kernel_rfl) rfl (by simp [ansL, Value.oneCell']) ?_)
  refine bodyPost_ret (results_single rfl (.cell (w.heap.size + 1) 44 (ansL er kp0 (.slice none 0 0)).toArray (0, 0) _ rfl (setRow_heap _ _ _ _ _ _ (HB6.out _)) Tryz.underlying44 rfl (by kernel_rfl) .nil)) rfl ?_
  exact ⟨⟨kp0, .slice none 0 0, rfl, rfl, rfl⟩, ans_fin HM.out HBX.out HF.out.1 HF.out.2 (((Only.refl _ _ _).put 0 _ (by omega) (by omega)).row _ (by omega) (by omega))⟩
end Go.Proofs.YtjbjcfnbgcloiaaGreatDoor

/- Call of the statements of layer 22: put, get, head, delete. -/
namespace Go.Proofs.YtjbjcfnbgcloiaaGreatDoor
open Go.RowKit Nam YtjbjcfnbgcloiaaGreatDoorW.PrintWords

abbrev verA (y : Kp) : Array Value := #[.int .i64 y.id, .bool y.mark, .int .i64 y.sz, .int .u32 y.sum]
structure AnsAt (w : World) (g : Nat) (y : Kp) : Prop where
  z0 : w.cell? ⟨g, 0, none⟩ = some (.int .i64 0)
  z1 : w.cell? ⟨g, 1, none⟩ = some (.int .i64 y.id)
  z2 : w.cell? ⟨g, 2, none⟩ = some (.bool y.mark)
  z3 : w.cell? ⟨g, 3, none⟩ = some (.int .i64 y.sz)
  z4 : w.cell? ⟨g, 4, none⟩ = some (.int .u32 y.sum)
  z5 : w.cell? ⟨g, 5, none⟩ = some (.slice none 0 0)
  z6 : w.cell? ⟨g, 6, none⟩ = some (.slice none 0 0)
  z7 : w.cell? ⟨g, 7, none⟩ = some (.bool false)
  z8 : w.cell? ⟨g, 8, none⟩ = some (.string ⟨#[]⟩)
  z9 : w.cell? ⟨g, 9, none⟩ = some (.int .i64 0)
  z10 : w.cell? ⟨g, 10, none⟩ = some (.slice none 0 0)
structure VerAt (w : World) (g : Nat) (y : Kp) : Prop where
  v0 : w.cell? ⟨g, 0, none⟩ = some (.int .i64 y.id)
  v1 : w.cell? ⟨g, 1, none⟩ = some (.bool y.mark)
  v2 : w.cell? ⟨g, 2, none⟩ = some (.int .i64 y.sz)
  v3 : w.cell? ⟨g, 3, none⟩ = some (.int .u32 y.sum)
theorem box_ver (w w4 : World) (y : Kp) (k6 : w4.heap[w.heap.size + 1]? = some (.cells ans0 44 (0, 0))) (k7 : w4.heap[w.heap.size + 1 + 1]? = some (.cells ans0 44 (0, 0))) (hs : w.heap.size + 3 ≤ w4.heap.size) :
    ∃ W5 W6, w4.alloc (.cells #[.int .i64 y.id, .bool y.mark, .int .i64 y.sz, .int .u32 y.sum] 38) = W5 ∧ VerAt W5 w4.heap.size y ∧ W5.there (w.heap.size + 1 + 1) 1 4 ∧ W5.setCells (w.heap.size + 1 + 1) 1 (verA y).toList = W6 ∧ AnsAt W6 (w.heap.size + 1 + 1) y ∧
      W6.heap[w.heap.size + 1 + 1]? = some (.cells (ansL 0 y (.slice none 0 0)).toArray 44 (0, 0)) ∧ W6.heap[w.heap.size + 1]? = some (.cells ans0 44 (0, 0)) ∧ Only w.heap.size (w.heap.size + 3) w4 W6 := by
  have hb5 : Below w4.heap.size w4 (w4.alloc (.cells #[.int .i64 y.id, .bool y.mark, .int .i64 y.sz, .int .u32 y.sum] 38)) := (Below.refl _ _).alloc (Nat.le_refl _) _
  have hn := blk_new w4 (.cells #[.int .i64 y.id, .bool y.mark, .int .i64 y.sz, .int .u32 y.sum] 38)
  generalize w4.alloc (.cells #[.int .i64 y.id, .bool y.mark, .int .i64 y.sz, .int .u32 y.sum] 38) = W5 at hb5 hn
  have q6 := blk_below k6 hb5
  have q7 := blk_below k7 hb5
  obtain ⟨cur, h1, h2, h3⟩ := setCells_row (verA y).toList 1 W5 ans0 q7 (by show 1 + 4 ≤ 11; omega)
  have h4 : cur = (ansL 0 y (.slice none 0 0)).toArray := Array.toList_inj.1 h3
  subst h4
  refine ⟨W5, _, rfl, ⟨(blk_cell hn 0).trans rfl, (blk_cell hn 1).trans rfl, (blk_cell hn 2).trans rfl, (blk_cell hn 3).trans rfl⟩, fun j hj => ⟨?_, blk_frozen q7 _⟩, rfl,
    ⟨(blk_cell h1 0).trans rfl, (blk_cell h1 1).trans rfl, (blk_cell h1 2).trans rfl, (blk_cell h1 3).trans rfl, (blk_cell h1 4).trans rfl, (blk_cell h1 5).trans rfl, (blk_cell h1 6).trans rfl, (blk_cell h1 7).trans rfl, (blk_cell h1 8).trans rfl, (blk_cell h1 9).trans rfl, (blk_cell h1 10).trans rfl⟩, h1, ?_, ?_⟩
  · rw [blk_cell q7]
    have : j = 0 ∨ j = 1 ∨ j = 2 ∨ j = 3 := by omega
    rcases this with rfl | rfl | rfl | rfl <;> rfl
  · rw [setCells_far _ _ _ (by omega)]
    exact q6
  · have hh := setCells_same (w.heap.size + 1 + 1) (verA y).toList 1 W5
    refine ⟨hh.1.trans hb5.os, hh.2.1.trans hb5.tape, hh.2.2.1.trans hb5.output, by rw [hh.2.2.2]; exact hb5.size, fun k hk hc => ?_⟩
    rw [setCells_far _ _ _ (by omega)]
    exact hb5.block k hk

set_option maxHeartbeats 2000000 in
set_option maxRecDepth 100000 in
theorem call_put (w : World) (g : Nat) (S : St) (n : Nat) (Q F : Nat → Prop) (b k d pf fr : List UInt8) (A : Option Addr) (c : Nat) (id nn a fi mo : Int) (hb : b.length ≤ 100000) (hk : k.length ≤ 100000) (hd : d.length ≤ 1000000) (hn : n ≤ 100000) (hm : HasM w g S n Q F)
    (hC : ∀ V, Below w.heap.size w V → (Kd.int .u8).C V A d.length (byN d)) (hT : Tabs w) :
    Calls Tryz.prog 13 #[.pointer (some ⟨g, 0, none⟩), .agg #[.int .i64 4, .string (mkS b), .string (mkS k), .slice A d.length c, .int .i64 nn, .int .i64 a, .string (mkS pf), .string (mkS fr), .int .i64 fi, .int .i64 mo], .int .i64 id] w
      (AnsIs (fun y dv _ => y = (if S.putE id b k d = 0 then kpOf id d else kp0) ∧ dv = .slice none 0 0) (S.doPut id b k d) n Q F g (S.putE id b k d) w) := by
  obtain ⟨W3, hW3⟩ : ∃ W3, ((w.alloc (.cells #[.int .i64 4, .string (mkS b), .string (mkS k), .slice A d.length c, .int .i64 nn, .int .i64 a, .string (mkS pf), .string (mkS fr), .int .i64 fi, .int .i64 mo] 34)).alloc (.cells ans0 44)).alloc (.cells ans0 44) = W3 := ⟨_, rfl⟩
  have hbx := boxed_mk w #[.int .i64 4, .string (mkS b), .string (mkS k), .slice A d.length c, .int .i64 nn, .int .i64 a, .string (mkS pf), .string (mkS fr), .int .i64 fi, .int .i64 mo]
  rw [hW3] at hbx
  obtain ⟨y, hy⟩ : ∃ y, (if S.putE id b k d = 0 then kpOf id d else kp0) = y := ⟨_, rfl⟩
  obtain ⟨er, her⟩ : ∃ er, S.putE id b k d = er := ⟨_, rfl⟩
  have HC : Hid (Calls Tryz.prog 17 #[.pointer (some ⟨g, 0, none⟩), .int .i64 id, .string (mkS b), .string (mkS k), .slice A d.length c] W3 fun e w' => e = .returned (.tuple #[.agg #[.int .i64 y.id, .bool y.mark, .int .i64 y.sz, .int .u32 y.sum], .int .i64 er]) ∧ Hid ((∃ F', HasM w' g (S.doPut id b k d) (n + 1) Q F' ∧ ∀ j, F' j → F j ∨ W3.heap.size ≤ j) ∧ Moved Q W3 w') ∧ Hid (w'.heap[w.heap.size + 1]? = some (.cells ans0 44 (0, 0)) ∧ w'.heap[w.heap.size + 1 + 1]? = some (.cells ans0 44 (0, 0)) ∧ w.heap.size + 3 ≤ w'.heap.size)) :=
    (put_is W3 g S n Q F id b k d A c hb hk hd hn (hm.below hbx.b) (hC _ hbx.b) (hT.below hbx.b)).mono fun e w' ⟨h1, h2, h3⟩ => ⟨by rw [h1, hy, her]; rfl, ⟨h2, h3⟩, boxed_after hbx hm.q h3⟩
  rw [her] at hy ⊢
  rw [hy]
  have HBX := Lib.hid hbx
  have HM := Lib.hid hm
  have HW3 := Lib.hid hW3
  obtain ⟨c0, c1, c2, c3, c4, c5, c6, c7, c8, c9⟩ := chAt_of hbx.k4
  clear c5 c6 c7 c8 c9
  clear hm hT hbx hW3 hy her hC
  go_enter Tryz.func13, Tryz.ntmps13
  go_upto_region 2 with (fail)
  rw [HW3.out]
  clear HW3
  go_wp2_with fail
  refine HC.out.mono ?_
  rintro e w4 ⟨rfl, HF, HB⟩
  obtain ⟨W5, W6, hW5, ⟨v0, v1, v2, v3⟩, HTH, hW6, HAA, HK7, HK6, HON⟩ := box_ver w w4 y HB.out.1 HB.out.2.1 HB.out.2.2
  have HW5 := Lib.hid hW5
  have HW6 := Lib.hid hW6
  clear hW5 hW6 HC
  go_upto_region 11 with (fail)
  rw [HW5.out]
  clear HW5
  have HK6h := Lib.hid HK6
  have HK7h := Lib.hid HK7
  have HTHh := Lib.hid HTH
  obtain ⟨z0, z1, z2, z3, z4, z5, z6, z7, z8, z9, z10⟩ := HAA
  have f0 := blk_frozen HK7 0
  have f5 := blk_frozen HK7 5
  clear HK6 HK7 HTH
  have HB6 : Hid (∀ u, (W6.setCell ⟨w.heap.size + 1 + 1, 0, none⟩ u).heap[w.heap.size + 1]? = some (.cells ans0 44 (0, 0))) := fun u => blk_far HK6h.out (by simp) u
  go_wp2_with (first | (refine wpList_store_mid rfl 38 (.tmp 59) (.tmp 57) rfl (w.heap.size + 1 + 1) 1 (verA y) rfl rfl HTHh.out (by kernel_rfl) (by simp [Value.oneCell']) ?_; rw [HW6.out]) | (refine wpList_store_row rfl 44 (.tmp 6) (.tmp 159) rfl (w.heap.size + 1) (ansL er y (.slice none 0 0)).toArray rfl rfl 44 _ (HB6.out _) (by kernel_rfl) rfl (by simp [ansL, Value.oneCell']) ?_))
  refine bodyPost_ret (results_single rfl (.cell (w.heap.size + 1) 44 (ansL er y (.slice none 0 0)).toArray (0, 0) _ rfl (setRow_heap _ _ _ _ _ _ (HB6.out _)) Tryz.underlying44 rfl (by kernel_rfl) .nil)) rfl ?_
  exact ⟨⟨y, .slice none 0 0, rfl, rfl, rfl⟩, ans_fin HM.out HBX.out HF.out.1 HF.out.2 ((HON.put 0 _ (by omega) (by omega)).row _ (by omega) (by omega))⟩

set_option maxHeartbeats 2000000 in
set_option maxRecDepth 100000 in
theorem call_del (w : World) (g : Nat) (S : St) (n : Nat) (Q F : Nat → Prop) (b k pf fr : List UInt8) (dv : Value) (id nn a fi mo : Int) (hb : b.length ≤ 100000) (hk : k.length ≤ 100000) (hl : (S.V b k).length ≤ 100000) (hn : n ≤ 100000) (hm : HasM w g S n Q F) (hT : Tabs w) :
    Calls Tryz.prog 13 #[.pointer (some ⟨g, 0, none⟩), .agg #[.int .i64 7, .string (mkS b), .string (mkS k), dv, .int .i64 nn, .int .i64 a, .string (mkS pf), .string (mkS fr), .int .i64 fi, .int .i64 mo], .int .i64 id] w
      (AnsIs (fun y dv _ => y = (if S.delE id b k = 0 then kpDel id else kp0) ∧ dv = .slice none 0 0) (S.doDel id b k) n Q F g (S.delE id b k) w) := by
  obtain ⟨W3, hW3⟩ : ∃ W3, ((w.alloc (.cells #[.int .i64 7, .string (mkS b), .string (mkS k), dv, .int .i64 nn, .int .i64 a, .string (mkS pf), .string (mkS fr), .int .i64 fi, .int .i64 mo] 34)).alloc (.cells ans0 44)).alloc (.cells ans0 44) = W3 := ⟨_, rfl⟩
  have hbx := boxed_mk w #[.int .i64 7, .string (mkS b), .string (mkS k), dv, .int .i64 nn, .int .i64 a, .string (mkS pf), .string (mkS fr), .int .i64 fi, .int .i64 mo]
  rw [hW3] at hbx
  obtain ⟨y, hy⟩ : ∃ y, (if S.delE id b k = 0 then kpDel id else kp0) = y := ⟨_, rfl⟩
  obtain ⟨er, her⟩ : ∃ er, S.delE id b k = er := ⟨_, rfl⟩
  have HC : Hid (Calls Tryz.prog 34 #[.pointer (some ⟨g, 0, none⟩), .int .i64 id, .string (mkS b), .string (mkS k)] W3 fun e w' => e = .returned (.tuple #[.agg #[.int .i64 y.id, .bool y.mark, .int .i64 y.sz, .int .u32 y.sum], .int .i64 er]) ∧ Hid ((∃ F', HasM w' g (S.doDel id b k) (n + 1) Q F' ∧ ∀ j, F' j → F j ∨ W3.heap.size ≤ j) ∧ Moved Q W3 w') ∧ Hid (w'.heap[w.heap.size + 1]? = some (.cells ans0 44 (0, 0)) ∧ w'.heap[w.heap.size + 1 + 1]? = some (.cells ans0 44 (0, 0)) ∧ w.heap.size + 3 ≤ w'.heap.size)) :=
    (delete_is W3 g S n Q F id b k hb hk hl hn (hm.below hbx.b) (hT.below hbx.b)).mono fun e w' ⟨h1, h2, h3⟩ => ⟨by rw [h1, hy, her]; rfl, ⟨h2, h3⟩, boxed_after hbx hm.q h3⟩
  rw [her] at hy ⊢
  rw [hy]
  have HBX := Lib.hid hbx
  have HM := Lib.hid hm
  have HW3 := Lib.hid hW3
  obtain ⟨c0, c1, c2, c3, c4, c5, c6, c7, c8, c9⟩ := chAt_of hbx.k4
  clear c5 c6 c7 c8 c9
  clear hm hT hbx hW3 hy her hl
  go_enter Tryz.func13, Tryz.ntmps13
  go_upto_region 2 with (fail)
  rw [HW3.out]
  clear HW3
  go_wp2_with fail
  refine HC.out.mono ?_
  rintro e w4 ⟨rfl, HF, HB⟩
  obtain ⟨W5, W6, hW5, ⟨v0, v1, v2, v3⟩, HTH, hW6, HAA, HK7, HK6, HON⟩ := box_ver w w4 y HB.out.1 HB.out.2.1 HB.out.2.2
  have HW5 := Lib.hid hW5
  have HW6 := Lib.hid hW6
  clear hW5 hW6 HC
  go_upto_region 20 with (fail)
  rw [HW5.out]
  clear HW5
  have HK6h := Lib.hid HK6
  have HK7h := Lib.hid HK7
  have HTHh := Lib.hid HTH
  obtain ⟨z0, z1, z2, z3, z4, z5, z6, z7, z8, z9, z10⟩ := HAA
  have f0 := blk_frozen HK7 0
  have f5 := blk_frozen HK7 5
  clear HK6 HK7 HTH
  have HB6 : Hid (∀ u, (W6.setCell ⟨w.heap.size + 1 + 1, 0, none⟩ u).heap[w.heap.size + 1]? = some (.cells ans0 44 (0, 0))) := fun u => blk_far HK6h.out (by simp) u
  go_wp2_with (first | (refine wpList_store_mid rfl 38 (.tmp 112) (.tmp 110) rfl (w.heap.size + 1 + 1) 1 (verA y) rfl rfl HTHh.out (by kernel_rfl) (by simp [Value.oneCell']) ?_; rw [HW6.out]) | (refine wpList_store_row rfl 44 (.tmp 6) (.tmp 159) rfl (w.heap.size + 1) (ansL er y (.slice none 0 0)).toArray rfl rfl 44 _ (HB6.out _) (by kernel_rfl) rfl (by simp [ansL, Value.oneCell']) ?_))
  refine bodyPost_ret (results_single rfl (.cell (w.heap.size + 1) 44 (ansL er y (.slice none 0 0)).toArray (0, 0) _ rfl (setRow_heap _ _ _ _ _ _ (HB6.out _)) Tryz.underlying44 rfl (by kernel_rfl) .nil)) rfl ?_
  exact ⟨⟨y, .slice none 0 0, rfl, rfl, rfl⟩, ans_fin HM.out HBX.out HF.out.1 HF.out.2 ((HON.put 0 _ (by omega) (by omega)).row _ (by omega) (by omega))⟩

set_option maxHeartbeats 2000000 in
set_option maxRecDepth 100000 in
theorem call_get (w : World) (g : Nat) (S : St) (n : Nat) (Q F : Nat → Prop) (b k pf fr : List UInt8) (dv : Value) (id nn a fi mo : Int) (hb : b.length ≤ 100000) (hk : k.length ≤ 100000) (hl : (S.V b k).length ≤ 100000) (hd : ∀ y ∈ S.V b k, y.dt.length ≤ 1000000) (hm : HasM w g S n Q F) (hT : Tabs w) :
    Calls Tryz.prog 13 #[.pointer (some ⟨g, 0, none⟩), .agg #[.int .i64 5, .string (mkS b), .string (mkS k), dv, .int .i64 nn, .int .i64 a, .string (mkS pf), .string (mkS fr), .int .i64 fi, .int .i64 mo], .int .i64 id] w
      (AnsIs (fun y dv w' => (S.findE b k nn 0 ≠ 0 ∧ y = kp0 ∧ dv = .slice none 0 0) ∨ (S.findE b k nn 0 = 0 ∧ S.getK b k nn = some y ∧ S.getE b k nn = 16 ∧ y.mark = true ∧ dv = .slice none 0 0) ∨ (S.findE b k nn 0 = 0 ∧ S.getK b k nn = some y ∧ S.getE b k nn = 0 ∧ y.mark = false ∧ ∃ (A : Option Addr) (c : Nat), dv = .slice A y.dt.length c ∧ y.dt.length ≤ c ∧ ∃ Fb, DatF w' Fb A y.dt ∧ ∀ j, Fb j → IsC w' j ∧ w.heap.size ≤ j)) S n Q F g (S.getE b k nn) w) := by
  obtain ⟨W3, hW3⟩ : ∃ W3, ((w.alloc (.cells #[.int .i64 5, .string (mkS b), .string (mkS k), dv, .int .i64 nn, .int .i64 a, .string (mkS pf), .string (mkS fr), .int .i64 fi, .int .i64 mo] 34)).alloc (.cells ans0 44)).alloc (.cells ans0 44) = W3 := ⟨_, rfl⟩
  have hbx := boxed_mk w #[.int .i64 5, .string (mkS b), .string (mkS k), dv, .int .i64 nn, .int .i64 a, .string (mkS pf), .string (mkS fr), .int .i64 fi, .int .i64 mo]
  rw [hW3] at hbx
  obtain ⟨er, her⟩ : ∃ er, S.getE b k nn = er := ⟨_, rfl⟩
  have HC : Hid (Calls Tryz.prog 20 #[.pointer (some ⟨g, 0, none⟩), .string (mkS b), .string (mkS k), .int .i64 nn] W3 fun e w' => (∃ (y : Kp) (A9 : Option Addr) (m9 c9 : Nat), e = .returned (.tuple #[.agg #[.int .i64 y.id, .bool y.mark, .int .i64 y.sz, .int .u32 y.sum], .slice A9 m9 c9, .int .i64 er]) ∧ Hid ((S.findE b k nn 0 ≠ 0 ∧ y = kp0 ∧ Value.slice A9 m9 c9 = .slice none 0 0) ∨ (S.findE b k nn 0 = 0 ∧ S.getK b k nn = some y ∧ er = 16 ∧ y.mark = true ∧ Value.slice A9 m9 c9 = .slice none 0 0) ∨
        (S.findE b k nn 0 = 0 ∧ S.getK b k nn = some y ∧ er = 0 ∧ y.mark = false ∧ ∃ (A : Option Addr) (c : Nat), Value.slice A9 m9 c9 = .slice A y.dt.length c ∧ y.dt.length ≤ c ∧ ∃ Fb, DatF w' Fb A y.dt ∧ ∀ j, Fb j → IsC w' j ∧ W3.heap.size < j))) ∧ Hid ((∃ F', HasM w' g (S) (n + 1) Q F' ∧ ∀ j, F' j → F j ∨ W3.heap.size ≤ j) ∧ Moved Q W3 w') ∧ Hid (w'.heap[w.heap.size + 1]? = some (.cells ans0 44 (0, 0)) ∧ w'.heap[w.heap.size + 1 + 1]? = some (.cells ans0 44 (0, 0)) ∧ w.heap.size + 3 ≤ w'.heap.size)) :=
    (get_is W3 g S n Q F b k nn hb hk hl hd (hm.below hbx.b) (hT.below hbx.b)).mono fun e w' ⟨⟨y, v, h1, h4⟩, h3⟩ => by
      refine ⟨?_, ⟨⟨F, ((hm.below hbx.b).below h3).mono (by omega), fun j hj => .inl hj⟩, Moved.of_below h3⟩, boxed_after hbx hm.q (Moved.of_below (Q := Q) h3)⟩
      rw [her] at h1 h4
      rcases h4 with ⟨q1, q2, rfl⟩ | ⟨q1, q2, q3, q4, rfl⟩ | ⟨q1, q2, q3, q4, A, c, rfl, q5, q6⟩
      · exact ⟨y, none, 0, 0, h1, .inl ⟨q1, q2, rfl⟩⟩
      · exact ⟨y, none, 0, 0, h1, .inr (.inl ⟨q1, q2, q3, q4, rfl⟩)⟩
      · exact ⟨y, A, y.dt.length, c, h1, .inr (.inr ⟨q1, q2, q3, q4, A, c, rfl, q5, q6⟩)⟩
  rw [her]
  have HBX := Lib.hid hbx
  have HM := Lib.hid hm
  have HW3 := Lib.hid hW3
  obtain ⟨c0, c1, c2, c3, c4, c5, c6, c7, c8, c9⟩ := chAt_of hbx.k4
  clear c5 c6 c7 c8 c9
  clear hm hT hbx hW3 her hl hd
  go_enter Tryz.func13, Tryz.ntmps13
  go_upto_region 2 with (fail)
  rw [HW3.out]
  clear HW3
  go_wp2_with fail
  refine HC.out.mono ?_
  rintro e w4 ⟨⟨y, A9, m9, c9, rfl, HY⟩, HF, HB⟩
  obtain ⟨W5, W6, hW5, ⟨v0, v1, v2, v3⟩, HTH, hW6, HAA, HK7, HK6, HON⟩ := box_ver w w4 y HB.out.1 HB.out.2.1 HB.out.2.2
  have HW5 := Lib.hid hW5
  have HW6 := Lib.hid hW6
  clear hW5 hW6 HC
  go_upto_region 14 with (fail)
  rw [HW5.out]
  clear HW5
  have HK6h := Lib.hid HK6
  have HK7h := Lib.hid HK7
  have HTHh := Lib.hid HTH
  obtain ⟨z0, z1, z2, z3, z4, z5, z6, z7, z8, z9, z10⟩ := HAA
  have f0 := blk_frozen HK7 0
  have f5 := blk_frozen HK7 5
  clear HK6 HK7 HTH
  have HB6 : Hid (∀ u u', ((W6.setCell ⟨w.heap.size + 1 + 1, 5, none⟩ u).setCell ⟨w.heap.size + 1 + 1, 0, none⟩ u').heap[w.heap.size + 1]? = some (.cells ans0 44 (0, 0))) := fun u u' => blk_far (blk_far HK6h.out (by simp) u) (by simp) u'
  go_wp2_with (first | (refine wpList_store_mid rfl 38 (.tmp 78) (.tmp 75) rfl (w.heap.size + 1 + 1) 1 (verA y) rfl rfl HTHh.out (by kernel_rfl) (by simp [Value.oneCell']) ?_; rw [HW6.out]) | (refine wpList_store_row rfl 44 (.tmp 6) (.tmp 159) rfl (w.heap.size + 1) (ansL er y (.slice A9 m9 c9)).toArray rfl rfl 44 _ (HB6.out _ _) (by kernel_rfl) rfl (by simp [ansL, Value.oneCell']) ?_))
  refine bodyPost_ret (results_single rfl (.cell (w.heap.size + 1) 44 (ansL er y (.slice A9 m9 c9)).toArray (0, 0) _ rfl (setRow_heap _ _ _ _ _ _ (HB6.out _ _)) Tryz.underlying44 rfl (by kernel_rfl) .nil)) rfl ?_
  have hon : Only w.heap.size (w.heap.size + 3) w4 (((W6.setCell ⟨w.heap.size + 1 + 1, 5, none⟩ (.slice A9 m9 c9)).setCell ⟨w.heap.size + 1 + 1, 0, none⟩ (.int .i64 er)).setRow (w.heap.size + 1) (ansL er y (.slice A9 m9 c9)).toArray) := (((HON.put 5 _ (by omega) (by omega)).put 0 _ (by omega) (by omega)).row _ (by omega) (by omega))
  refine ⟨⟨y, .slice A9 m9 c9, rfl, ?_⟩, ans_fin HM.out HBX.out HF.out.1 HF.out.2 hon⟩
  have hs3 := HBX.out.s
  rcases HY.out with h | h | ⟨q1, q2, q3, q4, A, c, q5, q6, Fb, q7, q8⟩
  · exact .inl h
  · exact .inr (.inl h)
  · have hk : ∀ j, Fb j → _ := fun j hj => hon.block j (isC_lt (q8 j hj).1) (.inr (by have := (q8 j hj).2; omega))
    refine .inr (.inr ⟨q1, q2, q3, q4, A, c, q5, q6, Fb, q7.kept hk, fun j hj => ⟨?_, by have := (q8 j hj).2; omega⟩⟩)
    obtain ⟨a1, b1, c1, hh⟩ := (q8 j hj).1
    exact ⟨a1, b1, c1, (hk j hj).trans hh⟩

set_option maxHeartbeats 2000000 in
set_option maxRecDepth 100000 in
theorem call_head (w : World) (g : Nat) (S : St) (n : Nat) (Q F : Nat → Prop) (b k pf fr : List UInt8) (dv : Value) (id nn a fi mo : Int) (hb : b.length ≤ 100000) (hk : k.length ≤ 100000) (hl : (S.V b k).length ≤ 100000) (hd : ∀ y ∈ S.V b k, y.dt.length ≤ 1000000) (hm : HasM w g S n Q F) (hT : Tabs w) :
    Calls Tryz.prog 13 #[.pointer (some ⟨g, 0, none⟩), .agg #[.int .i64 6, .string (mkS b), .string (mkS k), dv, .int .i64 nn, .int .i64 a, .string (mkS pf), .string (mkS fr), .int .i64 fi, .int .i64 mo], .int .i64 id] w
      (AnsIs (fun y dv _ => ((S.findE b k nn 0 ≠ 0 ∧ y = kp0) ∨ (S.findE b k nn 0 = 0 ∧ S.getK b k nn = some y)) ∧ dv = .slice none 0 0) S n Q F g (S.getE b k nn) w) := by
  obtain ⟨W3, hW3⟩ : ∃ W3, ((w.alloc (.cells #[.int .i64 6, .string (mkS b), .string (mkS k), dv, .int .i64 nn, .int .i64 a, .string (mkS pf), .string (mkS fr), .int .i64 fi, .int .i64 mo] 34)).alloc (.cells ans0 44)).alloc (.cells ans0 44) = W3 := ⟨_, rfl⟩
  have hbx := boxed_mk w #[.int .i64 6, .string (mkS b), .string (mkS k), dv, .int .i64 nn, .int .i64 a, .string (mkS pf), .string (mkS fr), .int .i64 fi, .int .i64 mo]
  rw [hW3] at hbx
  obtain ⟨er, her⟩ : ∃ er, S.getE b k nn = er := ⟨_, rfl⟩
  have HC : Hid (Calls Tryz.prog 33 #[.pointer (some ⟨g, 0, none⟩), .string (mkS b), .string (mkS k), .int .i64 nn] W3 fun e w' => (∃ y : Kp, e = .returned (.tuple #[.agg #[.int .i64 y.id, .bool y.mark, .int .i64 y.sz, .int .u32 y.sum], .int .i64 er]) ∧ Hid ((S.findE b k nn 0 ≠ 0 ∧ y = kp0) ∨ (S.findE b k nn 0 = 0 ∧ S.getK b k nn = some y))) ∧ Hid ((∃ F', HasM w' g (S) (n + 1) Q F' ∧ ∀ j, F' j → F j ∨ W3.heap.size ≤ j) ∧ Moved Q W3 w') ∧ Hid (w'.heap[w.heap.size + 1]? = some (.cells ans0 44 (0, 0)) ∧ w'.heap[w.heap.size + 1 + 1]? = some (.cells ans0 44 (0, 0)) ∧ w.heap.size + 3 ≤ w'.heap.size)) :=
    (head_is W3 g S n Q F b k nn hb hk hl hd (hm.below hbx.b) (hT.below hbx.b)).mono fun e w' ⟨⟨y, h1, h4⟩, h3⟩ => ⟨⟨y, by rw [h1, her]; rfl, h4⟩, ⟨⟨F, ((hm.below hbx.b).below h3).mono (by omega), fun j hj => .inl hj⟩, Moved.of_below h3⟩, boxed_after hbx hm.q (Moved.of_below (Q := Q) h3)⟩
  rw [her]
  have HBX := Lib.hid hbx
  have HM := Lib.hid hm
  have HW3 := Lib.hid hW3
  obtain ⟨c0, c1, c2, c3, c4, c5, c6, c7, c8, c9⟩ := chAt_of hbx.k4
  clear c5 c6 c7 c8 c9
  clear hm hT hbx hW3 her hl hd
  go_enter Tryz.func13, Tryz.ntmps13
  go_upto_region 2 with (fail)
  rw [HW3.out]
  clear HW3
  go_wp2_with fail
  refine HC.out.mono ?_
  rintro e w4 ⟨⟨y, rfl, HY⟩, HF, HB⟩
  obtain ⟨W5, W6, hW5, ⟨v0, v1, v2, v3⟩, HTH, hW6, HAA, HK7, HK6, HON⟩ := box_ver w w4 y HB.out.1 HB.out.2.1 HB.out.2.2
  have HW5 := Lib.hid hW5
  have HW6 := Lib.hid hW6
  clear hW5 hW6 HC
  go_upto_region 17 with (fail)
  rw [HW5.out]
  clear HW5
  have HK6h := Lib.hid HK6
  have HK7h := Lib.hid HK7
  have HTHh := Lib.hid HTH
  obtain ⟨z0, z1, z2, z3, z4, z5, z6, z7, z8, z9, z10⟩ := HAA
  have f0 := blk_frozen HK7 0
  have f5 := blk_frozen HK7 5
  clear HK6 HK7 HTH
  have HB6 : Hid (∀ u, (W6.setCell ⟨w.heap.size + 1 + 1, 0, none⟩ u).heap[w.heap.size + 1]? = some (.cells ans0 44 (0, 0))) := fun u => blk_far HK6h.out (by simp) u
  go_wp2_with (first | (refine wpList_store_mid rfl 38 (.tmp 96) (.tmp 94) rfl (w.heap.size + 1 + 1) 1 (verA y) rfl rfl HTHh.out (by kernel_rfl) (by simp [Value.oneCell']) ?_; rw [HW6.out]) | (refine wpList_store_row rfl 44 (.tmp 6) (.tmp 159) rfl (w.heap.size + 1) (ansL er y (.slice none 0 0)).toArray rfl rfl 44 _ (HB6.out _) (by kernel_rfl) rfl (by simp [ansL, Value.oneCell']) ?_))
  refine bodyPost_ret (results_single rfl (.cell (w.heap.size + 1) 44 (ansL er y (.slice none 0 0)).toArray (0, 0) _ rfl (setRow_heap _ _ _ _ _ _ (HB6.out _)) Tryz.underlying44 rfl (by kernel_rfl) .nil)) rfl ?_
  exact ⟨⟨y, .slice none 0 0, rfl, HY.out, rfl⟩, ans_fin HM.out HBX.out HF.out.1 HF.out.2 ((HON.put 0 _ (by omega) (by omega)).row _ (by omega) (by omega))⟩
end Go.Proofs.YtjbjcfnbgcloiaaGreatDoor
