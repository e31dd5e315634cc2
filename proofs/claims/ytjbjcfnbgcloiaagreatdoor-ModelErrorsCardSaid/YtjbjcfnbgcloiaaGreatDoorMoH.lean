/- versions and find of package model. -/
import Derived.Test.YtjbjcfnbgcloiaaGreatDoorMoG
namespace Go.Proofs.YtjbjcfnbgcloiaaGreatDoor
open Go.RowKit Nam YtjbjcfnbgcloiaaGreatDoorW.PrintWords

instance : Inhabited Kp := ⟨kp0⟩
theorem go_at_ {α : Type} [Inhabited α] {l : List α} {j : Nat} (h : j < l.length) : l[j]? = some l[j]! := by simp [h]

def VersIs (S : St) (F : Nat → Prop) (b k : List UInt8) (w : World) (e : Ending) (w' : World) : Prop :=
  (∃ v er, e = .returned (.tuple #[v, .int .i64 er]) ∧ (if b ∉ S.B then er = 13 else if S.V b k = [] then er = 14 else er = 0 ∧ RowV w F v (S.V b k))) ∧ w = w'
set_option maxHeartbeats 1000000 in
set_option maxRecDepth 100000 in
theorem versions_is (w : World) (g : Nat) (S : St) (n : Nat) (Q F : Nat → Prop) (b k : List UInt8) (hb : b.length ≤ 100000) (hk : k.length ≤ 100000) (hm : HasM w g S n Q F) :
    Calls Tryz.prog 81 #[.pointer (some ⟨g, 0, none⟩), .string (mkS b), .string (mkS k)] w (VersIs S F b k w) := by
  have HM := Lib.hid hm
  obtain ⟨mb, D, hO⟩ := hm.ex
  have c0 := (blk_cell hO.c 0).trans (rfl : _ = some (Value.map (some mb)))
  have hqe := fun (w : World) (r : Option Nat) => run_eql_map_nil (P := Tryz.prog) w 63 _ _ r Tryz.underlying63
  clear hm
  rcases look1 hO b (by unfold maxLen; omega) with ⟨hB, hrun1⟩ | ⟨hB, ib, hat, hqi, hne, hin, hrun1⟩
  · have HB := Lib.hid hB
    clear hO hB
    go_enter Tryz.func81, Tryz.ntmps81
    go_wp2_with fail
    go_ret2
    exact ⟨⟨_, _, rfl, by rw [if_pos HB.out]⟩, rfl⟩
  · obtain ⟨v, hrow, hrun2⟩ := look2 hin k (by unfold maxLen; omega)
    have HR := Lib.hid hrow
    obtain ⟨A, c, hve, hlc⟩ := hrow.slice
    obtain ⟨m, hmL⟩ : ∃ m, (S.V b k).length = m := ⟨_, rfl⟩
    rw [hmL] at hlc hve
    subst hve
    have HB := Lib.hid hB
    have HML := Lib.hid hmL
    clear hO hB hat hqi hne hin hrow hmL
    by_cases hm0 : m = 0
    · subst hm0
      go_enter Tryz.func81, Tryz.ntmps81
      go_wp2_with fail
      go_ret2
      exact ⟨⟨_, _, rfl, by rw [if_neg (fun h => h HB.out), if_pos (List.length_eq_zero_iff.1 HML.out)]⟩, rfl⟩
    · have hd : decide ((m : Int) = 0) = false := decide_eq_false (by omega)
      have hd2 : ((m : Int) == 0) = false := by simp; omega
      have HM0 := Lib.hid hm0
      clear hm0
      go_enter Tryz.func81, Tryz.ntmps81
      go_wp2_with fail
      go_ret2
      exact ⟨⟨_, _, rfl, by rw [if_neg (fun h => h HB.out), if_neg (fun h => HM0.out (by rw [← HML.out, h]; rfl))]; exact ⟨rfl, HR.out⟩⟩, rfl⟩

def encK (x : Kp × (Option Addr × Nat)) : List Value := kpCells x.1 (.slice x.2.1 x.1.dt.length x.2.2)
/-- A row's elements, with the values of their data. -/
theorem row_zs {w : World} {F : Nat → Prop} {g c n : Nat} {l : List Kp} (h : RowV w F (.slice (some ⟨g, 0, none⟩) n c) l) :
    ∃ zs : List (Kp × (Option Addr × Nat)), zs.map Prod.fst = l ∧ ∀ j, j < zs.length → zs[j]!.1.dt.length ≤ zs[j]!.2.2 ∧ DatF w F zs[j]!.2.1 zs[j]!.1.dt ∧ ∀ i v, (encK zs[j]!)[i]? = some v → w.cell? ⟨g, 0 + j * 5 + i, none⟩ = some v := by
  have hx : ∀ j, ∃ v : Option Addr × Nat, ∀ y, l[j]? = some y → y.dt.length ≤ v.2 ∧ DatF w F v.1 y.dt ∧ ∀ i u, (encK (y, v))[i]? = some u → w.cell? ⟨g, j * 5 + i, none⟩ = some u := fun j => by
    cases hy : l[j]? with
    | none => exact ⟨(none, 0), fun y e => by cases e⟩
    | some y =>
      obtain ⟨A, c', h1, h2, h3⟩ := h.at_ j hy
      exact ⟨(A, c'), fun y' e => by injection e with e; subst e; exact ⟨h1, h2, h3⟩⟩
  obtain ⟨f, hf⟩ := Classical.axiomOfChoice hx
  refine ⟨(List.range l.length).map (fun j => (l[j]!, f j)), ?_, fun j hj => ?_⟩
  · rw [List.map_map]
    apply List.ext_getElem? 
    intro j
    by_cases hj : j < l.length
    · simp [hj]
    · simp [hj]
  · rw [List.length_map, List.length_range] at hj
    have he : ((List.range l.length).map (fun j => (l[j]!, f j)))[j]! = (l[j]!, f j) := by simp [hj]
    rw [he]
    obtain ⟨h2, h3, h4⟩ := hf j l[j]! (go_at_ hj)
    refine ⟨h2, h3, fun i v hi => ?_⟩
    rw [Nat.zero_add]
    exact h4 i v hi

theorem pred_id (id : Int) (B : Nat) (w : World) (hB : B < w.heap.size) (hcell : w.cell? ⟨B, 0, none⟩ = some (.int .i64 id)) :
    PredBelow Tryz.prog 83 #[.pointer (some ⟨B, 0, none⟩)] (fun x => .agg (encK x).toArray) (fun x => decide (x.1.id = id)) w := fun W x hb => by
  have hc : W.cell? ⟨B, 0, none⟩ = some (.int .i64 id) := (hb.cell (p := ⟨B, 0, none⟩) hB).trans hcell
  have hBW : B < W.heap.size := Nat.lt_of_lt_of_le hB hb.size
  have hne : B ≠ W.heap.size := by omega
  obtain ⟨x, A, c⟩ := x
  show Calls Tryz.prog 83 #[.agg #[.int .i64 x.id, .bool x.mark, .int .i64 x.sz, .int .u32 x.sum, .slice A x.dt.length c], .pointer (some ⟨B, 0, none⟩)] W _
  have HH := Lib.hid (And.intro hb hB)
  clear hcell hB hb
  go_enter Tryz.func83, Tryz.ntmps83
  go_wp2
  all_goals (go_ret; exact ⟨by simp [Value.int.injEq, *] <;> rfl, HH.out.1.alloc HH.out.1.size _⟩)

/-! ### find -/
def idxK (id : Int) (l : List Kp) : Int := if id = 0 then (l.length : Int) - 1 else Lib.idxBy (fun _ y => decide (y.id = id)) l kp0
def St.findE (S : St) (b k : List UInt8) (id least : Int) : Int :=
  if namedB b k = false then 12 else if id < least then 1 else if b ∉ S.B then 13 else if S.V b k = [] then 14 else if idxK id (S.V b k) < 0 then 15 else 0
theorem idx_spec (p : Kp → Bool) (d : Kp) : ∀ (l : List Kp) (i : Nat), Lib.idxByFrom (fun _ y => p y) d l i = -1 ∨ ∃ k, k < l.length ∧ Lib.idxByFrom (fun _ y => p y) d l i = ((i + k : Nat) : Int) ∧ p l[k]! = true
  | [], i => .inl rfl
  | y :: r, i => by
    cases h : p y with
    | true => exact .inr ⟨0, by simp, by simp [Lib.idxByFrom, h], by simpa using h⟩
    | false =>
      rcases idx_spec p d r (i + 1) with e | ⟨k, h1, h2, h3⟩
      · exact .inl (by simp [Lib.idxByFrom, h, e])
      · exact .inr ⟨k + 1, by simp; omega, by simp only [Lib.idxByFrom, h, Bool.false_eq_true, if_false, h2]; omega, by simpa using h3⟩
theorem idx_map {α : Type} [Inhabited α] (p : Kp → Bool) (d : Kp) (zs : List (Kp × α)) (z : Kp × α) (i : Nat) : Lib.idxByFrom (fun _ y => p y.1) z zs i = Lib.idxByFrom (fun _ y => p y) d (zs.map Prod.fst) i := by
  induction zs generalizing i with
  | nil => rfl
  | cons a r ih => simp only [List.map_cons, Lib.idxByFrom, ih]
theorem idxK_lt {id : Int} {l : List Kp} : idxK id l < 0 ∨ ∃ i : Nat, idxK id l = (i : Int) ∧ i < l.length := by
  unfold idxK
  split
  · by_cases h : l = []
    · subst h; exact .inl (by decide)
    · have := List.length_pos_iff.2 h
      exact .inr ⟨l.length - 1, by omega, by omega⟩
  · rcases idx_spec (fun (y : Kp) => decide (y.id = id)) kp0 l 0 with h | ⟨k, h1, h2, _⟩
    · exact .inl (by unfold Lib.idxBy; rw [h]; decide)
    · exact .inr ⟨k, by unfold Lib.idxBy; rw [h2]; simp, h1⟩
/-- slices.IndexFunc of a row: the first of an id. -/
theorem index_is (w : World) (F : Nat → Prop) (g n c : Nat) (l : List Kp) (id : Int) (B : Nat) (hl : l.length = n) (hn : n ≤ 100000) (hg : g < w.heap.size) (h : RowV w F (.slice (some ⟨g, 0, none⟩) n c) l) (hid : id ≠ 0) (hB : B < w.heap.size) (hcell : w.cell? ⟨B, 0, none⟩ = some (.int .i64 id)) :
    Calls Tryz.prog 82 #[.slice (some ⟨g, 0, none⟩) n c, .func (.func 83) #[] #[.pointer (some ⟨B, 0, none⟩)]] w fun e w' => e = .returned (.int .i64 (idxK id l)) ∧ Below w.heap.size w w' := by
  obtain ⟨zs, hz, hc⟩ := row_zs h
  have hzl : zs.length = n := by rw [← hl, ← hz, List.length_map]
  have eg : ∀ args w, (callFunc 83 args).run Tryz.prog w = .ok (.enter 83 args) w := enters_of Tryz.func83 (by kernel_rfl) rfl
  refine (AnyQ.slices_IndexFunc Tryz.indexK 5 (fun w => by kernel_rfl) (fun w => by kernel_rfl) encK (fun _ => rfl) (fun x => decide (x.1.id = id)) 83 #[.pointer (some ⟨B, 0, none⟩)] eg g 0 n c zs w (pred_id id B w hB hcell) (by omega) (by omega) hg (fun j hj => ?_)).mono fun e w' ⟨he, hb⟩ => ⟨?_, hb⟩
  · exact (hc j hj).2.2
  · rw [he, List.take_of_length_le (by omega)]
    unfold idxK Lib.idxBy
    rw [if_neg hid, idx_map (fun y => decide (y.id = id)) kp0, hz]
end Go.Proofs.YtjbjcfnbgcloiaaGreatDoor
