/- The statements' own rows of choices. -/
import Derived.Test.YtghllfihmmlcnaaDoorScrY
import Derived.Test.YtghllfihmmlcnaaDoorScrM
namespace Go.Proofs.YtghllfihmmlcnaaDoor
open Go.RowKit Nam YtghllfihmmlcnaaDoorW.PrintWords

theorem info45 : (Tryd.prog.info? 39).map (fun i => (i.zero, i.size, i.bytes)) = some (some (.agg (chCells (bareC 0) (.slice none 0 0)).toArray), 10, 128) := by kernel_rfl

structure ChsSt (T : TypeId) (w : World) (l : List Ch) (sv : Value) (wr : World) : Prop where
  b : Below w.heap.size w wr
  o : Kd.N kCh T wr w.heap.size (fun j => w.heap.size ≤ j) sv l

set_option maxHeartbeats 1000000 in
set_option maxRecDepth 100000 in
theorem choices_is (l : List Ch) (A : Option Addr) (c : Nat) (w : World) (hl : l.length ≤ 100000) (hx : ∀ x ∈ l, x.dt.length ≤ 1000000) (hC : Kd.C kCh w A l.length l) :
    Calls Tryd.prog 19 #[.slice A l.length c] w fun e w' => (∃ v, e = .returned v ∧ Kd.N kCh 44 w' w.heap.size (fun k => w.heap.size ≤ k) v l) ∧ Below w.heap.size w w' := by
  have HX := Lib.hid hx; clear hx
  have HC := Lib.hid hC; clear hC
  go_enter Tryd.func19, Tryd.ntmps19
  go_wp2_with fail
  go_loopw [3, 4] (fun vo vi wr => ∃ (j : Nat) (sv : Value), sv = vo ∧ vi = .int .i64 j ∧ j ≤ l.length ∧ Hid (ChsSt 44 w (l.take j) sv wr)) (fun _ vi _ => l.length - (intOf vi).toNat)
  case atStart => exact ⟨0, _, rfl, rfl, Nat.zero_le _, ⟨Below.refl _ _, Kd.N_nil _ _ _ _ _⟩⟩
  case round =>
    obtain ⟨j, sv, hsv, rfl, hj, HS⟩ := hrel
    subst hsv
    by_cases hlt : j < l.length
    · have hltz : (j : Int) < (l.length : Int) := by omega
      obtain ⟨ad, A3, c3_, hA, hdt, hcell⟩ := at_Ch (Kd.C_below HC.out HS.out.b) j hlt
      subst hA
      obtain ⟨x, hx⟩ : ∃ x, l[j] = x := ⟨_, rfl⟩
      rw [hx] at hdt hcell
      have hok := HX.out x (by rw [← hx]; exact List.getElem_mem _)
      have htk : l.take (j + 1) = l.take j ++ [x] := by rw [List.take_succ_eq_append_getElem hlt, hx]
      have c0 := hcell 0 _ rfl
      have cf : ∀ i u, (chCells x (.slice A3 (byN x.dt).length c3_))[i + 1]? = some u → wr.cell? ⟨(ad.add (j * 10)).block, (ad.add (j * 10)).off + (i + 1), none⟩ = some u := fun i u hu => by
        rw [← add_field _ _ (i + 1) (by omega)]; exact hcell (i + 1) u hu
      have c1 := cf 0 _ rfl
      have c2 := cf 1 _ rfl
      have c3 := cf 2 _ rfl
      have c4 := cf 3 _ rfl
      have c5 := cf 4 _ rfl
      have c6 := cf 5 _ rfl
      have c7 := cf 6 _ rfl
      have c8 := cf 7 _ rfl
      have c9 := cf 8 _ rfl
      rw [Nat.add_zero] at c0
      have HTK := Lib.hid htk; clear htk
      clear hcell cf hx
      simp only [Nat.zero_add] at c1
      have hl2 : ((l.take j).length + 1) * 128 ≤ 140737488355328 := by rw [List.length_take]; omega
      have HOW : Hid (∀ k, sv.ownBlock = some k → k < wr.heap.size) := Kd.N_lt HS.out.o
      have HCC : Hid (Calls Tryd.prog 13 #[.agg (chCells x (.slice A3 (byN x.dt).length c3_)).toArray] wr fun e w' => (∃ v, e = .returned (.agg (chCells x v).toArray) ∧ Dt w' (fun k => wr.heap.size ≤ k) v x.dt) ∧ Below wr.heap.size wr w') := choice8_is x A3 c3_ wr hok hdt
      go_wp2_with (first
        | (go_at_call 13; refine (HCC.out).mono ?_; rintro e w3 ⟨⟨v, he, hdv⟩, hb3⟩; unfold chCells at he; subst he; have hs3 := hb3.size; have hbs := HS.out.b.size; have HO3 : Hid (Kd.N kCh 44 w3 w.heap.size (fun j => w.heap.size ≤ j) sv (l.take j)) := Kd.N_below HS.out.o hb3; have HB3 : Hid (Below w.heap.size w w3) := HS.out.b.trans (hb3.mono hbs); have HFK : Hid (Kd.FK kCh w3 (fun k => wr.heap.size ≤ k) x (chCells x v)) := kCh_mkF hdv; clear hdv hb3)
        | (at_builtin; refine Kd.N_append kCh (w0 := w) w.heap.size rfl (.tmp 11) (.tmp 17) 30 44 (.agg (chCells (bareC 0) (.slice none 0 0)).toArray) 128 rfl Tryd.underlying30 info44 rfl (by decide) (by omega) sv (l.take j) x (chCells x v) (fun j => w.heap.size ≤ j) (fun k => wr.heap.size ≤ k) rfl rfl HFK.out (fun k hk => ⟨by omega, fun e => by have := HOW.out k e.symm; omega⟩) (fun k hk => by omega) HO3.out HB3.out HB3.out.size hl2 ?_; intro v1 w5 hN5 hb5 hg5 hat5))
      have HS5 : Hid (ChsSt 44 w (l.take (j + 1)) v1 w5) := ⟨hb5, by rw [HTK.out]; exact hN5⟩
      clear hN5 hb5 hg5 hat5
      go_wp2_with fail
      go_roundw
      case rel => exact ⟨j + 1, v1, rfl, by go_num, by omega, HS5⟩
      case measure => simp [intOf]; omega
    · obtain rfl : j = l.length := by omega
      rw [List.take_length] at HS
      clear hj hlt
      go_wp2_with fail
      go_ret
      exact ⟨⟨_, rfl, HS.out.o⟩, HS.out.b⟩
set_option maxHeartbeats 1000000 in
set_option maxRecDepth 100000 in
theorem backs_is (l : List Ch) (A : Option Addr) (c : Nat) (w : World) (hl : l.length ≤ 100000) (hx : ∀ x ∈ l, x.dt.length ≤ 1000000) (hC : Kd.C kCh w A l.length l) :
    Calls Tryd.prog 22 #[.slice A l.length c] w fun e w' => (∃ v, e = .returned v ∧ Kd.N kCh 39 w' w.heap.size (fun k => w.heap.size ≤ k) v l) ∧ Below w.heap.size w w' := by
  have HX := Lib.hid hx; clear hx
  have HC := Lib.hid hC; clear hC
  go_enter Tryd.func22, Tryd.ntmps22
  go_wp2_with fail
  go_loopw [3, 4] (fun vo vi wr => ∃ (j : Nat) (sv : Value), sv = vo ∧ vi = .int .i64 j ∧ j ≤ l.length ∧ Hid (ChsSt 39 w (l.take j) sv wr)) (fun _ vi _ => l.length - (intOf vi).toNat)
  case atStart => exact ⟨0, _, rfl, rfl, Nat.zero_le _, ⟨Below.refl _ _, Kd.N_nil _ _ _ _ _⟩⟩
  case round =>
    obtain ⟨j, sv, hsv, rfl, hj, HS⟩ := hrel
    subst hsv
    by_cases hlt : j < l.length
    · have hltz : (j : Int) < (l.length : Int) := by omega
      obtain ⟨ad, A3, c3_, hA, hdt, hcell⟩ := at_Ch (Kd.C_below HC.out HS.out.b) j hlt
      subst hA
      obtain ⟨x, hx⟩ : ∃ x, l[j] = x := ⟨_, rfl⟩
      rw [hx] at hdt hcell
      have hok := HX.out x (by rw [← hx]; exact List.getElem_mem _)
      have htk : l.take (j + 1) = l.take j ++ [x] := by rw [List.take_succ_eq_append_getElem hlt, hx]
      have c0 := hcell 0 _ rfl
      have cf : ∀ i u, (chCells x (.slice A3 (byN x.dt).length c3_))[i + 1]? = some u → wr.cell? ⟨(ad.add (j * 10)).block, (ad.add (j * 10)).off + (i + 1), none⟩ = some u := fun i u hu => by
        rw [← add_field _ _ (i + 1) (by omega)]; exact hcell (i + 1) u hu
      have c1 := cf 0 _ rfl
      have c2 := cf 1 _ rfl
      have c3 := cf 2 _ rfl
      have c4 := cf 3 _ rfl
      have c5 := cf 4 _ rfl
      have c6 := cf 5 _ rfl
      have c7 := cf 6 _ rfl
      have c8 := cf 7 _ rfl
      have c9 := cf 8 _ rfl
      rw [Nat.add_zero] at c0
      have HTK := Lib.hid htk; clear htk
      clear hcell cf hx
      simp only [Nat.zero_add] at c1
      have hl2 : ((l.take j).length + 1) * 128 ≤ 140737488355328 := by rw [List.length_take]; omega
      have HOW : Hid (∀ k, sv.ownBlock = some k → k < wr.heap.size) := Kd.N_lt HS.out.o
      have HCC : Hid (Calls Tryd.prog 16 #[.agg (chCells x (.slice A3 (byN x.dt).length c3_)).toArray] wr fun e w' => (∃ v, e = .returned (.agg (chCells x v).toArray) ∧ Dt w' (fun k => wr.heap.size ≤ k) v x.dt) ∧ Below wr.heap.size wr w') := back8_is x A3 c3_ wr hok hdt
      go_wp2_with (first
        | (go_at_call 16; refine (HCC.out).mono ?_; rintro e w3 ⟨⟨v, he, hdv⟩, hb3⟩; unfold chCells at he; subst he; have hs3 := hb3.size; have hbs := HS.out.b.size; have HO3 : Hid (Kd.N kCh 39 w3 w.heap.size (fun j => w.heap.size ≤ j) sv (l.take j)) := Kd.N_below HS.out.o hb3; have HB3 : Hid (Below w.heap.size w w3) := HS.out.b.trans (hb3.mono hbs); have HFK : Hid (Kd.FK kCh w3 (fun k => wr.heap.size ≤ k) x (chCells x v)) := kCh_mkF hdv; clear hdv hb3)
        | (at_builtin; refine Kd.N_append kCh (w0 := w) w.heap.size rfl (.tmp 11) (.tmp 17) 22 39 (.agg (chCells (bareC 0) (.slice none 0 0)).toArray) 128 rfl Tryd.underlying22 info45 rfl (by decide) (by omega) sv (l.take j) x (chCells x v) (fun j => w.heap.size ≤ j) (fun k => wr.heap.size ≤ k) rfl rfl HFK.out (fun k hk => ⟨by omega, fun e => by have := HOW.out k e.symm; omega⟩) (fun k hk => by omega) HO3.out HB3.out HB3.out.size hl2 ?_; intro v1 w5 hN5 hb5 hg5 hat5))
      have HS5 : Hid (ChsSt 39 w (l.take (j + 1)) v1 w5) := ⟨hb5, by rw [HTK.out]; exact hN5⟩
      clear hN5 hb5 hg5 hat5
      go_wp2_with fail
      go_roundw
      case rel => exact ⟨j + 1, v1, rfl, by go_num, by omega, HS5⟩
      case measure => simp [intOf]; omega
    · obtain rfl : j = l.length := by omega
      rw [List.take_length] at HS
      clear hj hlt
      go_wp2_with fail
      go_ret
      exact ⟨⟨_, rfl, HS.out.o⟩, HS.out.b⟩
end Go.Proofs.YtghllfihmmlcnaaDoor
