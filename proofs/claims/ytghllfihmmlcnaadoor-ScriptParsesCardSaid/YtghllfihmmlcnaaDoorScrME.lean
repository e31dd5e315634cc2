/- numbers and Print of package script. -/
import Derived.Test.YtghllfihmmlcnaaDoorScrMD
import Derived.Deep.RegionHeld3
import Derived.Deep.DeepCutAuto
import Derived.BigRegion

namespace Go.Proofs.YtghllfihmmlcnaaDoor
open Go.RowKit Nam YtghllfihmmlcnaaDoorW.PrintWords

def numsB (ns : List Int) : List UInt8 := ns.flatMap fun n => 32 :: Lib.itoa n
theorem numsB_snoc (ns : List Int) (n : Int) : numsB (ns ++ [n]) = numsB ns ++ 32 :: Lib.itoa n := by unfold numsB; rw [List.flatMap_append]; simp
theorem numsB_le (ns : List Int) (h : ∀ n ∈ ns, -9223372036854775808 ≤ n ∧ n ≤ 9223372036854775807) : (numsB ns).length ≤ ns.length * 22 := by
  induction ns with
  | nil => exact Nat.zero_le _
  | cons n t ih =>
    have h1 := Lib.itoa_length_le n (h n (by simp)).1 (h n (by simp)).2
    have h2 := ih (fun x hx => h x (by simp [hx]))
    unfold numsB at h2 ⊢
    rw [List.flatMap_cons, List.length_append, List.length_cons, List.length_cons, Nat.add_mul]
    omega

set_option maxHeartbeats 1000000 in
set_option maxRecDepth 100000 in
theorem numbers_is (ns : List Int) (A : Option Addr) (c : Nat) (w : World) (hn : ns.length ≤ 100) (hr : ∀ n ∈ ns, -9223372036854775808 ≤ n ∧ n ≤ 9223372036854775807) (hC : (Kd.int .i64).C w A ns.length ns) (hE : Env w) :
    Calls Tryd.prog 33 #[.slice A ns.length c] w fun e w' => e = .returned (.string (mkS (numsB ns))) ∧ Below w.heap.size w w' := by
  have HE := Lib.hid hE; clear hE
  have HR := Lib.hid hr; clear hr
  have HC := Lib.hid hC; clear hC
  go_enter Tryd.func33, Tryd.ntmps33
  go_wp2_with fail
  go_loopw [3, 8] (fun vs vi wr => ∃ k : Nat, vi = .int .i64 k ∧ k ≤ ns.length ∧ vs = .string (mkS (numsB (ns.take k))) ∧ Hid (Below w.heap.size w wr)) (fun _ vi _ => ns.length - (intOf vi).toNat)
  case atStart => exact ⟨0, rfl, Nat.zero_le _, rfl, Below.refl _ _⟩
  case round =>
    obtain ⟨k, rfl, hk, rfl, HB⟩ := hrel
    by_cases hlt : k < ns.length
    · have hltz : (k : Int) < (ns.length : Int) := by omega
      obtain ⟨n, hnk⟩ : ∃ n, ns[k] = n := ⟨_, rfl⟩
      have hrn := HR.out n (by rw [← hnk]; exact List.getElem_mem _)
      obtain ⟨ad, hA, hcell⟩ := Kd.at_int (Kd.C_below HC.out HB.out) (k : Int) (by omega) (by omega)
      subst hA
      have hrd : rd ns (k : Int) = n := by
        unfold rd
        rw [Int.toNat_natCast, List.getD_eq_getElem?_getD, List.getElem?_eq_getElem hlt, hnk]
        rfl
      rw [hrd, Int.toNat_natCast] at hcell
      have htk : ns.take (k + 1) = ns.take k ++ [n] := by rw [List.take_succ_eq_append_getElem hlt, hnk]
      have hz1 : (mkS (numsB (ns.take k))).size ≤ 2200 := by
        rw [mkS_size]
        have h1 := numsB_le (ns.take k) (fun x hx => HR.out x (List.mem_of_mem_take hx))
        have h2 : (ns.take k).length ≤ 100 := by rw [List.length_take]; omega
        omega
      have hz2 : (mkS (Lib.itoa n)).size ≤ 21 := by rw [mkS_size]; exact Lib.itoa_length_le n hrn.1 hrn.2
      have hfin : Hid (mkS (numsB (ns.take k)) ++ (⟨#[32]⟩ ++ mkS (Lib.itoa n)) = mkS (numsB (ns.take (k + 1)))) := by
        show _ = _
        rw [htk, numsB_snoc]
        apply ByteArray.ext
        apply Array.toList_inj.1
        simp [mkS]
      clear hrd hnk htk
      go_wp2_with (go_at_call 41; refine (itoa_is n wr hrn.1 hrn.2 (HE.out.below HB.out)).mono ?_; rintro e w2 ⟨rfl, hb2⟩)
      have HB2 : Hid (Below w.heap.size w w2) := HB.out.trans (hb2.mono HB.out.size)
      clear hb2
      go_roundw
      case rel => exact ⟨k + 1, by go_num, by omega, by rw [hfin.out], HB2⟩
      case measure => simp [intOf]; omega
    · obtain rfl : k = ns.length := by omega
      rw [List.take_length]
      clear hk hlt
      go_wp2_with fail
      go_ret
      exact ⟨rfl, HB.out⟩

/-- A life's text; the error: 1: a choice has none; 3: it is too long. -/
def headC (h : List Int) : List UInt8 := [97, 114, 114, 97, 121] ++ numsB h ++ [10]
def bodyC (l : List Ch) : List UInt8 := l.flatMap fun x => (textC x).getD [] ++ [10]
def printC (h : List Int) (l : List Ch) : List UInt8 × Int :=
  if l.any (fun x => (textC x).isNone) then ([], 1) else if 65536 < (headC h ++ bodyC l).length ∨ 2000 ≤ l.length then ([], 3) else (headC h ++ bodyC l, 0)
theorem bodyC_snoc (l : List Ch) (x : Ch) : bodyC (l ++ [x]) = bodyC l ++ ((textC x).getD [] ++ [10]) := by unfold bodyC; rw [List.flatMap_append]; simp
theorem bodyC_app (l m : List Ch) : bodyC (l ++ m) = bodyC l ++ bodyC m := by unfold bodyC; rw [List.flatMap_append]
theorem textC_le (x : Ch) (m : Nat) (hx : x.Ok m) (t : List UInt8) (h : textC x = some t) : t.length ≤ 10 * m + 130 := by
  unfold textC at h
  split at h
  · cases h
  · split at h
    · injection h with h
      subst h
      have h1 := form_len x.d
      have h2 := lineC_le x m hx (formC x.d).2
      have h3 := Nat.mul_le_mul_right (2 * m + 22) h1.1
      rw [List.length_append]
      omega
    · cases h

/-- An element of a row of choices, as it is loaded. -/
theorem at_Ch {w : World} {A : Option Addr} {n : Nat} {xs : List Ch} (h : Kd.C kCh w A n xs) (k : Nat) (hk : k < xs.length) : ∃ ad A3 c3, A = some ad ∧ Dt w (fun _ => True) (.slice A3 (byN xs[k].dt).length c3) xs[k].dt ∧
    ∀ j u, (chCells xs[k] (.slice A3 (byN xs[k].dt).length c3))[j]? = some u → w.cell? (ad.add (k * 10 + j)) = some u := by
  have hn := h.1
  obtain ⟨ad, c, e, _, hK, hc0⟩ := Kd.C_get h xs[k] (k : Int) (by omega) (by omega)
  rw [List.getD_eq_getElem?_getD, Int.toNat_natCast, List.getElem?_eq_getElem hk, Option.getD_some] at hK
  obtain ⟨A3, c3, rfl, l3, g3⟩ := kCh_open hK
  refine ⟨ad, A3, c3, e, ⟨A3, c3, rfl, l3, fun W' hW => ?_⟩, fun j u hu => ?_⟩
  · exact Kd.Heap.C (Kd.heap_int .u8) (fun j hj => hW j trivial hj) g3
  · have := hc0 j u hu
    rwa [Int.toNat_natCast] at this

theorem bu_below {T e : TypeId} {B b : Nat} {bs : List Value} {w w' : World} (h : Lib.IsBuilder T e B b bs w) (hb : Below w.heap.size w w') : Lib.IsBuilder T e B b bs w' := by
  have key : ∀ p, Lib.BuilderAt T e B b p bs w → Lib.BuilderAt T e B b p bs w' := fun p ⟨hB, v, hk, ho, hne⟩ => ⟨hB, v, blk_below hk hb, pw_own_below ho hb, hne⟩
  exact h.imp (key _) (key _)
theorem strCells_mkS (l : List UInt8) : Lib.strCells (mkS l) = Lib.byteCells l := rfl

structure PrSt (w : World) (bs : List UInt8) (wr : World) : Prop where
  b : Below w.heap.size w wr
  u : Lib.IsBuilder 77 5 (w.heap.size + 1) (w.heap.size + 1) (Lib.byteCells bs) wr
  s : w.heap.size + 1 ≤ wr.heap.size
theorem PrSt.below {w : World} {bs : List UInt8} {wr w2 : World} (h : PrSt w bs wr) (hb : Below wr.heap.size wr w2) : PrSt w bs w2 :=
  ⟨h.b.trans (hb.mono h.b.size), bu_below h.u hb, Nat.le_trans h.s hb.size⟩
theorem pr_write {w : World} {bs : List UInt8} {wr : World} (h : PrSt w bs wr) (t : List UInt8) (hl : bs.length + t.length ≤ 1000000) :
    Calls Tryd.prog 32 #[.pointer (some ⟨w.heap.size + 1, 0, none⟩), .string (mkS t)] wr fun e w' => e = .returned (.tuple #[.int .i64 (mkS t).size, .nilIface]) ∧ PrSt w (bs ++ t) w' := by
  refine (write_is _ _ _ (mkS t) wr h.u (by rw [Lib.byteCells_length, mkS_size]; omega) h.s).mono ?_
  rintro e w' ⟨he, hu, hb⟩
  refine ⟨he, h.b.trans (hb.mono (by omega)), ?_, Nat.le_trans h.s hb.size⟩
  rw [strCells_mkS, ← Lib.byteCells_append] at hu
  exact hu
theorem pr_len {w : World} {bs : List UInt8} {wr : World} (h : PrSt w bs wr) :
    Calls Tryd.prog 34 #[.pointer (some ⟨w.heap.size + 1, 0, none⟩)] wr fun e w' => e = .returned (.int .i64 (bs.length : Int)) ∧ wr = w' := by
  have := blen_is _ _ _ wr h.u
  rw [Lib.byteCells_length] at this
  exact this
theorem pr_string {w : World} {bs : List UInt8} {wr : World} (h : PrSt w bs wr) :
    Calls Tryd.prog 35 #[.pointer (some ⟨w.heap.size + 1, 0, none⟩)] wr fun e w' => e = .returned (.string (mkS bs)) ∧ Below w.heap.size w w' :=
  (bstring_is _ _ bs wr h.u h.s).mono fun e w' ⟨he, hb⟩ => ⟨he, h.b.trans (hb.mono (by omega))⟩

/-- What has been written after some choices: all, or so much that it is too long. -/
def Wrote (hd : List UInt8) (l : List Ch) (bs : List UInt8) : Prop := bs = hd ++ bodyC l ∨ (65536 < bs.length ∧ 65536 < (hd ++ bodyC l).length)

set_option maxHeartbeats 2000000 in
set_option maxRecDepth 100000 in
theorem print_is (k m b o : Int) (l : List Ch) (A : Option Addr) (c : Nat) (w : World) (hh : ∀ n ∈ [k, m, b, o], -9223372036854775808 ≤ n ∧ n ≤ 9223372036854775807) (hl : l.length ≤ 100000) (hx : ∀ x ∈ l, x.Ok 20000) (hC : Kd.C kCh w A l.length l) (hE : Env w) :
    Calls Tryd.prog 18 #[.agg #[.int .i64 k, .int .i64 m, .int .i64 b], .int .i64 o, .slice A l.length c] w fun e w' => e = .returned (.tuple #[.string (mkS (printC [k, m, b, o] l).1), .int .i64 (printC [k, m, b, o] l).2]) ∧ Below w.heap.size w w' := by
  have HE := Lib.hid hE; clear hE
  have HH := Lib.hid hh; clear hh
  have HX := Lib.hid hx; clear hx
  have HC := Lib.hid hC; clear hC
  have hnb := numsB_le [k, m, b, o] HH.out
  simp only [List.length_cons, List.length_nil] at hnb
  have hhd : (headC [k, m, b, o]).length ≤ 100 := by
    unfold headC
    simp only [List.length_append, List.length_cons, List.length_nil]
    omega
  go_enter Tryd.func18, Tryd.ntmps18
  go_wp2_with fail
  have hb3 : ∀ o1 o2 o3, Below w.heap.size w (((w.alloc o1).alloc o2).alloc o3) := fun o1 o2 o3 => (((Below.refl _ _).alloc (Nat.le_refl _) _).alloc (by simp) _).alloc (by simp; omega) _
  refine (numbers_is [k, m, b, o] (some ⟨w.heap.size + 1 + 1, 0, none⟩) 4 _ (by simp) HH.out ?_ (HE.out.below (hb3 _ _ _))).mono ?_
  · refine Kd.C_of_reads (enc := Value.int .i64) (d := (0 : Int)) (h1 := fun _ => rfl) ⟨rfl, by simp, fun _ => ⟨_, rfl, fun j hj => ?_⟩⟩
    rw [add_plain]
    have hblk : (((w.alloc (Obj.cells #[.int .i64 k, .int .i64 m, .int .i64 b] 26)).alloc (Obj.cells #[.pointer none, .slice none 0 0] 77)).alloc (Obj.cells #[.int .i64 k, .int .i64 m, .int .i64 b, .int .i64 o] 3)).heap[w.heap.size + 1 + 1]? = some (Obj.cells #[.int .i64 k, .int .i64 m, .int .i64 b, .int .i64 o] 3) := by
      have := blk_new ((w.alloc (Obj.cells #[.int .i64 k, .int .i64 m, .int .i64 b] 26)).alloc (Obj.cells #[.pointer none, .slice none 0 0] 77)) (Obj.cells #[.int .i64 k, .int .i64 m, .int .i64 b, .int .i64 o] 3)
      simpa using this
    rw [blk_cell hblk j]
    simp only [List.length_cons, List.length_nil] at hj
    match j, hj with
    | 0, _ => rfl
    | 1, _ => rfl
    | 2, _ => rfl
    | 3, _ => rfl
  rintro e w1 ⟨rfl, hb1⟩
  have hPS : Hid (PrSt w [] w1) := by
    have hu := Lib.fresh_isBuilder 77 5 (w.alloc (Obj.cells #[.int .i64 k, .int .i64 m, .int .i64 b] 26))
    have hs1 : (w.alloc (Obj.cells #[.int .i64 k, .int .i64 m, .int .i64 b] 26)).heap.size = w.heap.size + 1 := by simp
    rw [hs1] at hu
    refine ⟨(hb3 _ _ _).trans (hb1.mono (by simp; omega)), bu_below (bu_below hu ((Below.refl _ _).alloc (Nat.le_refl _) _)) hb1, by have := hb1.size; simp at this; omega⟩
  have hz1 : (mkS (numsB [k, m, b, o])).size ≤ 88 := by rw [mkS_size]; omega
  clear hb1 hb3
  have hfin : (⟨#[97, 114, 114, 97, 121]⟩ ++ mkS (numsB [k, m, b, o])) ++ ⟨#[10]⟩ = mkS (headC [k, m, b, o]) := by
    unfold headC
    rw [← mkS_app, ← mkS_app]
    rfl
  have HF := Lib.hid hfin; clear hfin
  go_wp2_with fail
  rw [HF.out]
  refine (pr_write hPS.out _ (by simp; omega)).mono ?_
  rintro e w2 ⟨rfl, hPS2⟩
  rw [List.nil_append] at hPS2
  have HP2 := Lib.hid hPS2; clear hPS2 hPS
  go_wp2_with fail
  go_loopw [27] (fun vi wr => ∃ (j : Nat) (bs : List UInt8), vi = .int .i64 j ∧ j ≤ l.length ∧ bs.length ≤ 400000 ∧ Hid (Wrote (headC [k, m, b, o]) (l.take j) bs) ∧ Hid ((l.take j).any (fun x => (textC x).isNone) = false) ∧ Hid (PrSt w bs wr)) (fun vi _ => l.length - (intOf vi).toNat)
  case atStart => exact ⟨0, _, rfl, Nat.zero_le _, by omega, .inl (by simp [bodyC]), rfl, HP2⟩
  case round =>
    obtain ⟨j, bs, rfl, hj, hbs, HW, HA, HS⟩ := hrel
    by_cases hlt : j < l.length
    · have hltz : (j : Int) < (l.length : Int) := by omega
      obtain ⟨ad, A3, c3_, hA, hdt, hcell⟩ := at_Ch (Kd.C_below HC.out HS.out.b) j hlt
      subst hA
      obtain ⟨x, hx⟩ : ∃ x, l[j] = x := ⟨_, rfl⟩
      rw [hx] at hdt hcell
      have hok := HX.out x (by rw [← hx]; exact List.getElem_mem _)
      have htk : l.take (j + 1) = l.take j ++ [x] := by rw [List.take_succ_eq_append_getElem hlt, hx]
      have c0 := hcell 0 _ rfl
      have cf : ∀ i u, (chCells x (.slice A3 (byN x.dt).length c3_))[i + 1]? = some u → wr.cell? ⟨(ad.add (j * 10)).block, (ad.add (j * 10)).off + (i + 1), none⟩ = some u := fun i u hu => by
        rw [← add_field _ _ (i + 1) (by omega)]; exact hcell (i + 1) u hu
      have c1 := cf 0 _ rfl
      have c2 := cf 1 _ rfl
      have c3 := cf 2 _ rfl
      have c4 := cf 3 _ rfl
      have c5 := cf 4 _ rfl
      have c6 := cf 5 _ rfl
      have c7 := cf 6 _ rfl
      have c8 := cf 7 _ rfl
      have c9 := cf 8 _ rfl
      rw [Nat.add_zero] at c0
      have HTK := Lib.hid htk; clear htk
      clear hcell cf hx
      simp only [Nat.zero_add] at c1
      go_wp2_with fail
      refine (ptext2_is x _ _ hok (Kd.V_alloc hdt _) (HE.out.below (HS.out.b.alloc HS.out.b.size _))).mono ?_
      rintro e w3 ⟨rfl, hb3⟩
      have HS3 : Hid (PrSt w bs w3) := (HS.out.below ((Below.refl _ _).alloc (Nat.le_refl _) _)).below hb3
      clear hb3 c0 c1 c2 c3 c4 c5 c6 c7 c8 c9 hdt
      cases ht : textC x with
      | none =>
        have hR : Hid (printC [k, m, b, o] l = ([], 1)) := by
          show _ = _
          unfold printC
          rw [if_pos]
          rw [List.any_eq_true]
          exact ⟨x, List.mem_of_mem_take (show x ∈ l.take (j + 1) by rw [HTK.out]; simp), by rw [ht]; rfl⟩
        clear ht
        go_wp2_with fail
        go_ret2
        exact ⟨by rw [hR.out]; rfl, HS3.out.b⟩
      | some t =>
        have htl := textC_le x 20000 hok t ht
        have hWs : Hid (∀ bs', bs' = bs ++ (t ++ [10]) ∧ bs.length ≤ 65536 ∨ bs' = bs ∧ 65536 < bs.length → Wrote (headC [k, m, b, o]) (l.take (j + 1)) bs') := by
          intro bs' h
          unfold Wrote
          rw [HTK.out, bodyC_snoc, ht, Option.getD_some, ← List.append_assoc]
          rcases HW.out with hw | ⟨hw1, hw2⟩
          · rcases h with ⟨rfl, h2⟩ | ⟨rfl, h2⟩
            · exact .inl (by rw [hw])
            · exact .inr ⟨h2, by rw [← hw, List.length_append]; omega⟩
          · rcases h with ⟨rfl, h2⟩ | ⟨rfl, h2⟩
            · omega
            · exact .inr ⟨h2, by rw [List.length_append]; omega⟩
        have hA2 : Hid ((l.take (j + 1)).any (fun x => (textC x).isNone) = false) := by
          show _ = _
          rw [HTK.out, List.any_append, HA.out]
          simp [ht]
        have hz2 : (mkS t).size ≤ 200130 := by rw [mkS_size]; omega
        have hfin : Hid (mkS t ++ ⟨#[10]⟩ = mkS (t ++ [10])) := by show _ = _; rw [← mkS_app]; rfl
        clear ht HA
        simp only [Option.getD_some, Option.isSome_some]
        by_cases hlong : bs.length ≤ 65536
        · have hlz : (bs.length : Int) ≤ 65536 := by omega
          have HW2 := Lib.hid (hWs.out _ (.inl ⟨rfl, hlong⟩))
          clear hlong hWs
          go_wp2_with (go_at_call 34; refine (pr_len HS3.out).mono ?_; rintro e w4 ⟨rfl, rfl⟩)
          rw [hfin.out]
          refine (pr_write HS3.out _ (by simp; omega)).mono ?_
          rintro e w5 ⟨rfl, hPS5⟩
          have HP5 := Lib.hid hPS5; clear hPS5
          go_wp2_with fail
          go_roundw
          case rel => exact ⟨j + 1, _, by go_num, by omega, by simp; omega, HW2, hA2, HP5⟩
          case measure => simp [intOf]; omega
        · have hlz : (65536 : Int) < (bs.length : Int) := by omega
          have HW2 := Lib.hid (hWs.out _ (.inr ⟨rfl, by omega⟩))
          clear hlong hWs
          go_wp2_with (go_at_call 34; refine (pr_len HS3.out).mono ?_; rintro e w4 ⟨rfl, rfl⟩)
          go_roundw
          case rel => exact ⟨j + 1, bs, by go_num, by omega, by omega, HW2, hA2, HS3⟩
          case measure => simp [intOf]; omega
    · obtain rfl : j = l.length := by omega
      rw [List.take_length] at HW HA
      have hR : Hid (printC [k, m, b, o] l = if 65536 < bs.length ∨ 2000 ≤ l.length then ([], 3) else (bs, 0)) := by
        show _ = _
        unfold printC
        rw [HA.out, if_neg (by simp)]
        rcases HW.out with hw | ⟨hw1, hw2⟩
        · rw [hw]
        · rw [if_pos (.inl hw2), if_pos (.inl hw1)]
      clear HW HA hj hlt
      by_cases h1 : 65536 < bs.length
      · have hlz : (65536 : Int) < (bs.length : Int) := by omega
        rw [if_pos (.inl h1)] at hR
        clear h1
        go_wp2_with (go_at_call 34; refine (pr_len HS.out).mono ?_; rintro e w4 ⟨rfl, rfl⟩)
        go_ret2
        exact ⟨by rw [hR.out]; rfl, HS.out.b⟩
      · have hlz : (bs.length : Int) ≤ 65536 := by omega
        have hlz2 : decide ((65536 : Int) < (bs.length : Int)) = false := decide_eq_false (by omega)
        by_cases h2 : 2000 ≤ l.length
        · have hl2 : (2000 : Int) ≤ (l.length : Int) := by omega
          rw [if_pos (.inr h2)] at hR
          clear h1 h2
          go_wp2_with (go_at_call 34; refine (pr_len HS.out).mono ?_; rintro e w4 ⟨rfl, rfl⟩)
          go_ret2
          exact ⟨by rw [hR.out]; rfl, HS.out.b⟩
        · have hl2 : (l.length : Int) < 2000 := by omega
          have hl3 : decide ((2000 : Int) ≤ (l.length : Int)) = false := decide_eq_false (by omega)
          rw [if_neg (by omega)] at hR
          clear h1 h2
          go_wp2_with (first | (go_at_call 34; refine (pr_len HS.out).mono ?_; rintro e w4 ⟨rfl, rfl⟩) | (go_at_call 35; refine (pr_string HS.out).mono ?_; rintro e w5 ⟨rfl, hb5⟩))
          go_ret2
          exact ⟨by rw [hR.out]; rfl, hb5⟩
end Go.Proofs.YtghllfihmmlcnaaDoor

/- The statements' own bridge: a choice as the program has it, and back. -/
namespace Go.Proofs.YtghllfihmmlcnaaDoor
open Go.RowKit Nam YtghllfihmmlcnaaDoorW.PrintWords

theorem ret_agg {P : Program} {fn : Func} {p : Tmp} {ty : TypeId} (h : fn.results = #[.cell p ty]) (tmps : Array Value) (w : World) (g : Nat) (t : TypeId) (cs : Array Value) (fr : Nat × Nat) (d : TypeDesc)
    (hp : tmps.getD p undef = .pointer (some ⟨g, 0, none⟩)) (hg : w.heap[g]? = some (.cells cs t fr))
    (hu : P.underlying ty = some d) (hd : (match d with | .struct _ | .array _ _ => true | _ => false) = true) (hi : (P.info? ty).map (·.size) = some cs.size) :
    (results fn tmps).run P w = .ok (.agg cs) w := by
  have hp' : tmps[p]?.getD undef = .pointer (some ⟨g, 0, none⟩) := by simpa using hp
  simp [results, h, hp', asAddr, run_loadVar_row w g t ty cs fr d hg hu hd hi]

set_option maxHeartbeats 1000000 in
theorem ask8_is (a b : ByteArray) (c d : Int) (w : World) :
    Calls Tryd.prog 30 #[.agg #[.string a, .string b, .int .i64 c, .int .i64 d]] w fun e w' => e = .returned (.agg #[.string a, .string b, .int .i64 c, .int .i64 d]) ∧ Below w.heap.size w w' := by
  have h31 : ∀ o, ((w.alloc o).alloc (.cells #[.string a, .string b, .int .i64 c, .int .i64 d] 42)).heap[w.heap.size + 1]? = some (.cells #[.string a, .string b, .int .i64 c, .int .i64 d] 42 (0, 0)) := fun o => by
    have := heap_alloc_new (w.alloc o) (.cells #[.string a, .string b, .int .i64 c, .int .i64 d] 42)
    simpa using this
  have H31 := Lib.hid h31; clear h31
  go_enter Tryd.func30, Tryd.ntmps30
  go_wp2
  refine bodyPost_ret (ret_agg rfl _ _ (w.heap.size + 1) _ _ _ _ rfl (H31.out _) Tryd.underlying42 rfl (by kernel_rfl)) rfl ?_
  exact ⟨rfl, ((Below.refl _ _).alloc (Nat.le_refl _) _).alloc (by simp) _⟩

theorem info5b : (Tryd.prog.info? 5).map (fun i => (i.zero, i.size, i.bytes)) = some (some (.int .u8 0), 1, 1) := by kernel_rfl

/-- The cells of a choice in a block. -/
theorem ch_cells {W : World} {g : Nat} {T : TypeId} {x : Ch} {v : Value} (h : W.heap[g]? = some (.cells (chCells x v).toArray T (0, 0))) :
    W.cell? ⟨g, 0, none⟩ = some (.int .i64 x.d) ∧ W.cell? ⟨g, 1, none⟩ = some (.string (mkS x.bk)) ∧ W.cell? ⟨g, 2, none⟩ = some (.string (mkS x.ky)) ∧ W.cell? ⟨g, 3, none⟩ = some v ∧ W.cell? ⟨g, 4, none⟩ = some (.int .i64 x.n) ∧ W.cell? ⟨g, 5, none⟩ = some (.int .i64 x.a) ∧
    W.cell? ⟨g, 6, none⟩ = some (.string (mkS x.pf)) ∧ W.cell? ⟨g, 7, none⟩ = some (.string (mkS x.fr)) ∧ W.cell? ⟨g, 8, none⟩ = some (.int .i64 x.fi) ∧ W.cell? ⟨g, 9, none⟩ = some (.int .i64 x.mo) :=
  ⟨(blk_cell h 0).trans rfl, (blk_cell h 1).trans rfl, (blk_cell h 2).trans rfl, (blk_cell h 3).trans rfl, (blk_cell h 4).trans rfl, (blk_cell h 5).trans rfl, (blk_cell h 6).trans rfl, (blk_cell h 7).trans rfl, (blk_cell h 8).trans rfl, (blk_cell h 9).trans rfl⟩
theorem ch_free {W : World} {g : Nat} {T : TypeId} {cs : Array Value} (h : W.heap[g]? = some (.cells cs T (0, 0))) :
    W.frozen? ⟨g, 0, none⟩ = false ∧ W.frozen? ⟨g, 1, none⟩ = false ∧ W.frozen? ⟨g, 2, none⟩ = false ∧ W.frozen? ⟨g, 3, none⟩ = false ∧ W.frozen? ⟨g, 4, none⟩ = false ∧ W.frozen? ⟨g, 5, none⟩ = false ∧ W.frozen? ⟨g, 6, none⟩ = false ∧ W.frozen? ⟨g, 7, none⟩ = false ∧ W.frozen? ⟨g, 8, none⟩ = false ∧ W.frozen? ⟨g, 9, none⟩ = false :=
  ⟨blk_frozen h 0, blk_frozen h 1, blk_frozen h 2, blk_frozen h 3, blk_frozen h 4, blk_frozen h 5, blk_frozen h 6, blk_frozen h 7, blk_frozen h 8, blk_frozen h 9⟩

/-- A choice stored into a block. -/
abbrev chPut (W : World) (g : Nat) (x : Ch) (v : Value) : World :=
  (((((((((W.setCell ⟨g, 0, none⟩ (.int .i64 x.d)).setCell ⟨g, 1, none⟩ (.string (mkS x.bk))).setCell ⟨g, 2, none⟩ (.string (mkS x.ky))).setCell ⟨g, 3, none⟩ v).setCell ⟨g, 4, none⟩ (.int .i64 x.n)).setCell ⟨g, 5, none⟩ (.int .i64 x.a)).setCell ⟨g, 6, none⟩ (.string (mkS x.pf))).setCell ⟨g, 7, none⟩ (.string (mkS x.fr))).setCell ⟨g, 8, none⟩ (.int .i64 x.fi)).setCell ⟨g, 9, none⟩ (.int .i64 x.mo)
theorem chPut_heap {W : World} {g : Nat} {T : TypeId} {y : Ch} {v0 : Value} (h : W.heap[g]? = some (.cells (chCells y v0).toArray T (0, 0))) (x : Ch) (v : Value) : (chPut W g x v).heap[g]? = some (.cells (chCells x v).toArray T (0, 0)) := by
  have h9 := blk_set (blk_set (blk_set (blk_set (blk_set (blk_set (blk_set (blk_set (blk_set (blk_set h 0 (.int .i64 x.d)) 1 (.string (mkS x.bk))) 2 (.string (mkS x.ky))) 3 v) 4 (.int .i64 x.n)) 5 (.int .i64 x.a)) 6 (.string (mkS x.pf))) 7 (.string (mkS x.fr))) 8 (.int .i64 x.fi)) 9 (.int .i64 x.mo)
  exact h9.trans (by simp [chCells])
theorem chPut_below {B : Nat} {a W : World} {g : Nat} (h : Below B a W) (hg : B ≤ g) (x : Ch) (v : Value) : Below B a (chPut W g x v) :=
  (((((((((h.setCell (p := ⟨g, 0, none⟩) hg _).setCell (p := ⟨g, 1, none⟩) hg _).setCell (p := ⟨g, 2, none⟩) hg _).setCell (p := ⟨g, 3, none⟩) hg _).setCell (p := ⟨g, 4, none⟩) hg _).setCell (p := ⟨g, 5, none⟩) hg _).setCell (p := ⟨g, 6, none⟩) hg _).setCell (p := ⟨g, 7, none⟩) hg _).setCell (p := ⟨g, 8, none⟩) hg _).setCell (p := ⟨g, 9, none⟩) hg _
theorem chPut_dt {W : World} {g : Nat} {ok : Nat → Prop} {u : Value} {l : List UInt8} (h : Dt W ok u l) (hg : ∀ k, ok k → k ≠ g) (x : Ch) (v : Value) : Dt (chPut W g x v) ok u l :=
  Kd.V_far (p := ⟨g, 9, none⟩) (Kd.V_far (p := ⟨g, 8, none⟩) (Kd.V_far (p := ⟨g, 7, none⟩) (Kd.V_far (p := ⟨g, 6, none⟩) (Kd.V_far (p := ⟨g, 5, none⟩) (Kd.V_far (p := ⟨g, 4, none⟩) (Kd.V_far (p := ⟨g, 3, none⟩) (Kd.V_far (p := ⟨g, 2, none⟩) (Kd.V_far (p := ⟨g, 1, none⟩) (Kd.V_far (p := ⟨g, 0, none⟩) h hg _) hg _) hg _) hg _) hg _) hg _) hg _) hg _) hg _) hg _

set_option maxHeartbeats 1000000 in
set_option maxRecDepth 100000 in
theorem choice8_is (x : Ch) (A : Option Addr) (c : Nat) (w : World) (hx : x.dt.length ≤ 1000000) (hv : Dt w (fun _ => True) (.slice A (byN x.dt).length c) x.dt) :
    Calls Tryd.prog 13 #[.agg (chCells x (.slice A (byN x.dt).length c)).toArray] w fun e w' => (∃ v, e = .returned (.agg (chCells x v).toArray) ∧ Dt w' (fun k => w.heap.size ≤ k) v x.dt) ∧ Below w.heap.size w w' := by
  have HV := Lib.hid hv; clear hv
  have hbl := byN_length x.dt
  have HBL : Hid ((byN x.dt).length ≤ 1000000) := by show _ ≤ _; omega
  clear hbl
  unfold chCells
  go_enter Tryd.func13, Tryd.ntmps13
  go_wp2_with fail
  obtain ⟨W2, hW2⟩ : ∃ W2, (w.alloc (.cells (chCells x (.slice A (byN x.dt).length c)).toArray 39)).alloc (.cells (chCells (bareC 0) (.slice none 0 0)).toArray 44) = W2 := ⟨_, rfl⟩
  have hs2 : W2.heap.size = w.heap.size + 2 := by rw [← hW2]; simp
  have hb2 : Below w.heap.size w W2 := by rw [← hW2]; exact ((Below.refl _ _).alloc (Nat.le_refl _) _).alloc (by simp) _
  have h20 : W2.heap[w.heap.size]? = some (.cells (chCells x (.slice A (byN x.dt).length c)).toArray 39 (0, 0)) := by
    rw [← hW2]; exact blk_alloc (blk_new _ _) _
  have h21 : W2.heap[w.heap.size + 1]? = some (.cells (chCells (bareC 0) (.slice none 0 0)).toArray 44 (0, 0)) := by
    rw [← hW2]
    have := blk_new (w.alloc (.cells (chCells x (.slice A (byN x.dt).length c)).toArray 39)) (.cells (chCells (bareC 0) (.slice none 0 0)).toArray 44)
    simpa using this
  have HW2 := Lib.hid hW2; clear hW2
  have HS2 := Lib.hid hs2; clear hs2
  have HB2 := Lib.hid hb2; clear hb2
  have H20 := Lib.hid h20; clear h20
  have H21 := Lib.hid h21; clear h21
  have hSf : ∀ V, Below W2.heap.size W2 V → (V.cell? ⟨w.heap.size, 0, none⟩ = some (.int .i64 x.d) ∧ V.cell? ⟨w.heap.size, 1, none⟩ = some (.string (mkS x.bk)) ∧ V.cell? ⟨w.heap.size, 2, none⟩ = some (.string (mkS x.ky)) ∧ V.cell? ⟨w.heap.size, 3, none⟩ = some (.slice A (byN x.dt).length c) ∧ V.cell? ⟨w.heap.size, 4, none⟩ = some (.int .i64 x.n) ∧ V.cell? ⟨w.heap.size, 5, none⟩ = some (.int .i64 x.a) ∧
    V.cell? ⟨w.heap.size, 6, none⟩ = some (.string (mkS x.pf)) ∧ V.cell? ⟨w.heap.size, 7, none⟩ = some (.string (mkS x.fr)) ∧ V.cell? ⟨w.heap.size, 8, none⟩ = some (.int .i64 x.fi) ∧ V.cell? ⟨w.heap.size, 9, none⟩ = some (.int .i64 x.mo)) ∧
    (V.cell? ⟨w.heap.size + 1, 0, none⟩ = some (.int .i64 0) ∧ V.cell? ⟨w.heap.size + 1, 1, none⟩ = some (.string (mkS [])) ∧ V.cell? ⟨w.heap.size + 1, 2, none⟩ = some (.string (mkS [])) ∧ V.cell? ⟨w.heap.size + 1, 3, none⟩ = some (.slice none 0 0) ∧ V.cell? ⟨w.heap.size + 1, 4, none⟩ = some (.int .i64 0) ∧ V.cell? ⟨w.heap.size + 1, 5, none⟩ = some (.int .i64 0) ∧
    V.cell? ⟨w.heap.size + 1, 6, none⟩ = some (.string (mkS [])) ∧ V.cell? ⟨w.heap.size + 1, 7, none⟩ = some (.string (mkS [])) ∧ V.cell? ⟨w.heap.size + 1, 8, none⟩ = some (.int .i64 0) ∧ V.cell? ⟨w.heap.size + 1, 9, none⟩ = some (.int .i64 0)) ∧
    (V.frozen? ⟨w.heap.size + 1, 0, none⟩ = false ∧ V.frozen? ⟨w.heap.size + 1, 1, none⟩ = false ∧ V.frozen? ⟨w.heap.size + 1, 2, none⟩ = false ∧ V.frozen? ⟨w.heap.size + 1, 3, none⟩ = false ∧ V.frozen? ⟨w.heap.size + 1, 4, none⟩ = false ∧ V.frozen? ⟨w.heap.size + 1, 5, none⟩ = false ∧ V.frozen? ⟨w.heap.size + 1, 6, none⟩ = false ∧ V.frozen? ⟨w.heap.size + 1, 7, none⟩ = false ∧ V.frozen? ⟨w.heap.size + 1, 8, none⟩ = false ∧ V.frozen? ⟨w.heap.size + 1, 9, none⟩ = false) := fun V hV =>
    ⟨ch_cells (blk_below H20.out hV), ch_cells (x := bareC 0) (blk_below H21.out hV), ch_free (blk_below H21.out hV)⟩
  have HSF := Lib.hid hSf; clear hSf
  have hAsk : ∀ V, Below W2.heap.size W2 V → Calls Tryd.prog 30 #[.agg #[.string (mkS x.pf), .string (mkS x.fr), .int .i64 x.fi, .int .i64 x.mo]] V fun e w' => e = .returned (.agg #[.string (mkS x.pf), .string (mkS x.fr), .int .i64 x.fi, .int .i64 x.mo]) ∧ Below V.heap.size V w' ∧ Below W2.heap.size W2 w' := fun V hV =>
    (ask8_is _ _ _ _ V).mono fun e w' ⟨he, hb⟩ => ⟨he, hb, hV.trans (hb.mono hV.size)⟩
  have HAsk := Lib.hid hAsk; clear hAsk
  have hRd : ∀ V, Below W2.heap.size W2 V → ReadsRow ((Kd.int .u8).K V) 1 V A (byN x.dt).length (byN x.dt) := fun V hV =>
    (Kd.V_reads' (Kd.V_below (Kd.V_below HV.out HB2.out) hV)).2.2
  have HRd := Lib.hid hRd; clear hRd
  have hSz : ∀ V, Below W2.heap.size W2 V → W2.heap.size ≤ V.heap.size := fun V hV => hV.size
  have HSz := Lib.hid hSz; clear hSz
  have hB0 : Below W2.heap.size W2 W2.drew := (Below.refl _ _).drew
  change Code.wp _ _ _ _ ((w.alloc (.cells (chCells x (.slice A (byN x.dt).length c)).toArray 39)).alloc (.cells (chCells (bareC 0) (.slice none 0 0)).toArray 44))
  rw [HW2.out]
  have hlim : ([] : List Int).length + (byN x.dt).length ≤ 140737488355328 := by have := HBL.out; simp; omega
  have HLim := Lib.hid hlim; clear hlim
  clear HW2
  go_region_held3 (fun V => V.cell? ⟨w.heap.size, 0, none⟩ = some (.int .i64 x.d) ∧ V.cell? ⟨w.heap.size, 1, none⟩ = some (.string (mkS x.bk)) ∧ V.cell? ⟨w.heap.size, 2, none⟩ = some (.string (mkS x.ky)) ∧ V.cell? ⟨w.heap.size, 3, none⟩ = some (.slice A (byN x.dt).length c) ∧ V.cell? ⟨w.heap.size, 4, none⟩ = some (.int .i64 x.n) ∧ V.cell? ⟨w.heap.size, 5, none⟩ = some (.int .i64 x.a) ∧
    V.cell? ⟨w.heap.size, 6, none⟩ = some (.string (mkS x.pf)) ∧ V.cell? ⟨w.heap.size, 7, none⟩ = some (.string (mkS x.fr)) ∧ V.cell? ⟨w.heap.size, 8, none⟩ = some (.int .i64 x.fi) ∧ V.cell? ⟨w.heap.size, 9, none⟩ = some (.int .i64 x.mo))
    (first | (with_reducible exact (HSF.out _ (by with_reducible assumption)).1) | go_keep)
    (first
      | (go_at_call 30; refine (HAsk.out _ (by with_reducible assumption)).mono ?_; rintro e w' ⟨rfl, hba, hbn⟩; obtain ⟨r0, r1, r2, r3, r4, r5, r6, r7, r8, r9⟩ := (HSF.out _ hbn).2.1; obtain ⟨z0, z1, z2, z3, z4, z5, z6, z7, z8, z9⟩ := (HSF.out _ hbn).2.2)
      | (refine Kd.R_append_rows_step (Kd.int .u8) (w0 := W2) W2.heap.size (by rfl) (.const (.slice none 0 0)) (.tmp 10) 35 5 (.int .u8 0) 1 rfl Tryd.underlying35 info5b rfl (by decide) (by decide) (.slice none 0 0) [] (byN x.dt) A (byN x.dt).length c (fun _ => True) (fun _ => False) (by rfl) (by rfl) (Kd.R_nil _ _ _ _ _) (HRd.out _ (by with_reducible assumption)) (fun _ _ h => h) (fun _ h => h.elim) (fun _ _ => trivial) (by with_reducible assumption) (HSz.out _ (by with_reducible assumption)) (by rw [Nat.mul_one]; exact HLim.out) ?_; intro v1 w1 hR1 hB1 hg1 hat1; obtain ⟨A1, c1, rfl⟩ := Kd.R_slice hR1; have HR1 := Lib.hid hR1; clear hR1 hg1 hat1; obtain ⟨r0, r1, r2, r3, r4, r5, r6, r7, r8, r9⟩ := (HSF.out _ hB1).2.1; obtain ⟨z0, z1, z2, z3, z4, z5, z6, z7, z8, z9⟩ := (HSF.out _ hB1).2.2))
  · clear r0 r1 r2 r3 r4 r5 r6 r7 r8 r9 z0 z1 z2 z3 z4 z5 z6 z7 z8 z9
    go_wp2
    refine bodyPost_ret (ret_agg rfl _ _ (w.heap.size + 1) 44 (chCells x (.slice A1 (byN x.dt).length c1)).toArray (0, 0) _ rfl (chPut_heap (blk_below H21.out hbn) x (.slice A1 (byN x.dt).length c1)) Tryd.underlying44 rfl (by kernel_rfl)) rfl ?_
    have hs2 := HS2.out
    refine ⟨⟨.slice A1 (byN x.dt).length c1, rfl, ?_⟩, chPut_below (HB2.out.trans (Below.mono hbn (by omega))) (by omega) x _⟩
    exact Kd.V_mono (chPut_dt (Kd.V_mono (Kd.R_V (base' := 0) (Kd.R_bound (Kd.R_below HR1.out hba))) (fun k hk => (hk.2.1 : W2.heap.size ≤ k))) (fun k hk => by omega) x _) (fun k hk => by omega)
end Go.Proofs.YtghllfihmmlcnaaDoor

/- The statements' own bridge: a choice back. -/
namespace Go.Proofs.YtghllfihmmlcnaaDoor
open Go.RowKit Nam YtghllfihmmlcnaaDoorW.PrintWords

/-- A choice without its question. -/
def noAsk (x : Ch) : Ch := { x with pf := [], fr := [], fi := 0, mo := 0 }
structure BkSt (W3 : World) (x : Ch) (A1 : Option Addr) (c1 : Nat) (g : Nat) (V : World) : Prop where
  b : Below W3.heap.size W3 V
  n : W3.heap.size ≤ g
  h : V.heap[g]? = some (.cells (chCells (noAsk x) (.slice A1 (byN x.dt).length c1)).toArray 39 (0, 0))
  d : Dt V (fun k => W3.heap.size ≤ k ∧ k ≠ g) (.slice A1 (byN x.dt).length c1) x.dt

set_option maxHeartbeats 1000000 in
set_option maxRecDepth 100000 in
theorem back8_is (x : Ch) (A : Option Addr) (c : Nat) (w : World) (hx : x.dt.length ≤ 1000000) (hv : Dt w (fun _ => True) (.slice A (byN x.dt).length c) x.dt) :
    Calls Tryd.prog 16 #[.agg (chCells x (.slice A (byN x.dt).length c)).toArray] w fun e w' => (∃ v, e = .returned (.agg (chCells x v).toArray) ∧ Dt w' (fun k => w.heap.size ≤ k) v x.dt) ∧ Below w.heap.size w w' := by
  have HV := Lib.hid hv; clear hv
  have hbl := byN_length x.dt
  have HBL : Hid ((byN x.dt).length ≤ 1000000) := by show _ ≤ _; omega
  clear hbl
  unfold chCells
  go_enter Tryd.func16, Tryd.ntmps16
  go_wp2_with fail
  obtain ⟨W3, hW3⟩ : ∃ W3, (((w.alloc (.cells (chCells x (.slice A (byN x.dt).length c)).toArray 44)).alloc (.cells (chCells (bareC 0) (.slice none 0 0)).toArray 39)).alloc (.cells #[.string (mkS x.pf), .string (mkS x.fr), .int .i64 x.fi, .int .i64 x.mo] 42)) = W3 := ⟨_, rfl⟩
  have hs3 : W3.heap.size = w.heap.size + 3 := by rw [← hW3]; simp
  have hb3 : Below w.heap.size w W3 := by rw [← hW3]; exact (((Below.refl _ _).alloc (Nat.le_refl _) _).alloc (by simp) _).alloc (by simp; omega) _
  have h30 : W3.heap[w.heap.size]? = some (.cells (chCells x (.slice A (byN x.dt).length c)).toArray 44 (0, 0)) := by
    rw [← hW3]; exact blk_alloc (blk_alloc (blk_new _ _) _) _
  have h31 : W3.heap[w.heap.size + 1]? = some (.cells (chCells (bareC 0) (.slice none 0 0)).toArray 39 (0, 0)) := by
    rw [← hW3]
    have := blk_alloc (blk_new (w.alloc (.cells (chCells x (.slice A (byN x.dt).length c)).toArray 44)) (.cells (chCells (bareC 0) (.slice none 0 0)).toArray 39)) (.cells #[.string (mkS x.pf), .string (mkS x.fr), .int .i64 x.fi, .int .i64 x.mo] 42)
    simpa using this
  have h32 : W3.heap[w.heap.size + 2]? = some (.cells #[.string (mkS x.pf), .string (mkS x.fr), .int .i64 x.fi, .int .i64 x.mo] 42 (0, 0)) := by
    rw [← hW3]
    have := blk_new ((w.alloc (.cells (chCells x (.slice A (byN x.dt).length c)).toArray 44)).alloc (.cells (chCells (bareC 0) (.slice none 0 0)).toArray 39)) (.cells #[.string (mkS x.pf), .string (mkS x.fr), .int .i64 x.fi, .int .i64 x.mo] 42)
    simpa using this
  change Code.wp _ _ _ _ (((w.alloc (.cells (chCells x (.slice A (byN x.dt).length c)).toArray 44)).alloc (.cells (chCells (bareC 0) (.slice none 0 0)).toArray 39)).alloc (.cells #[.string (mkS x.pf), .string (mkS x.fr), .int .i64 x.fi, .int .i64 x.mo] 42))
  rw [hW3]
  have hlim : ([] : List Int).length + (byN x.dt).length ≤ 140737488355328 := by have := HBL.out; simp; omega
  have HLim := Lib.hid hlim; clear hlim
  have HSf : Hid (∀ V, Below W3.heap.size W3 V → V.cell? ⟨w.heap.size, 0, none⟩ = some (.int .i64 x.d) ∧ V.cell? ⟨w.heap.size, 1, none⟩ = some (.string (mkS x.bk)) ∧ V.cell? ⟨w.heap.size, 2, none⟩ = some (.string (mkS x.ky)) ∧ V.cell? ⟨w.heap.size, 3, none⟩ = some (.slice A (byN x.dt).length c) ∧ V.cell? ⟨w.heap.size, 4, none⟩ = some (.int .i64 x.n) ∧ V.cell? ⟨w.heap.size, 5, none⟩ = some (.int .i64 x.a)) := fun V hV => by
    obtain ⟨a, b, c, d, e, f, _⟩ := ch_cells (blk_below h30 hV)
    exact ⟨a, b, c, d, e, f⟩
  have HRd : Hid (∀ V, Below W3.heap.size W3 V → ReadsRow ((Kd.int .u8).K V) 1 V A (byN x.dt).length (byN x.dt)) := fun V hV => (Kd.V_reads' (Kd.V_below (Kd.V_below HV.out hb3) hV)).2.2
  have HSz : Hid (∀ V, Below W3.heap.size W3 V → W3.heap.size ≤ V.heap.size) := fun V hV => hV.size
  have hB0 : Below W3.heap.size W3 W3.drew := (Below.refl _ _).drew
  have hA0 : ∀ o, Below W3.heap.size W3 (W3.alloc o) := fun o => (Below.refl _ _).alloc (Nat.le_refl _) o
  have HA0 := Lib.hid hA0; clear hA0
  have HA2 : Hid (∀ o, Below W3.heap.size W3 (W3.alloc o).drew) := fun o => ((Below.refl _ _).alloc (Nat.le_refl _) o).drew
  have H30 := Lib.hid h30; clear h30
  have H31 := Lib.hid h31; clear h31
  have H32 := Lib.hid h32; clear h32
  have HS3 := Lib.hid hs3; clear hs3
  have HB3 := Lib.hid hb3; clear hb3
  have HW3 := Lib.hid hW3; clear hW3
  go_cut [4] (fun v4 wx => ∃ (g : Nat) (A1 : Option Addr) (c1 : Nat), v4 = .pointer (some ⟨g, 0, none⟩) ∧ Hid (BkSt W3 x A1 c1 g wx))
  case first =>
    go_region_held3 (fun V => V.cell? ⟨w.heap.size, 0, none⟩ = some (.int .i64 x.d) ∧ V.cell? ⟨w.heap.size, 1, none⟩ = some (.string (mkS x.bk)) ∧ V.cell? ⟨w.heap.size, 2, none⟩ = some (.string (mkS x.ky)) ∧ V.cell? ⟨w.heap.size, 3, none⟩ = some (.slice A (byN x.dt).length c) ∧ V.cell? ⟨w.heap.size, 4, none⟩ = some (.int .i64 x.n) ∧ V.cell? ⟨w.heap.size, 5, none⟩ = some (.int .i64 x.a))
      (first | (with_reducible exact (HSf.out _ (by with_reducible assumption))) | (with_reducible exact (HSf.out _ (HA0.out _))) | (with_reducible exact (HSf.out _ (HA2.out _))) | (with_reducible exact (HSf.out _ (HA1.out _))) | (exact (HSf.out _ HA3.out)) | go_keep)
      (first
        | (refine Kd.R_append_rows_step (Kd.int .u8) (w0 := W3) W3.heap.size (by rfl) (.const (.slice none 0 0)) (.tmp 14) 35 5 (.int .u8 0) 1 rfl Tryd.underlying35 info5b rfl (by decide) (by decide) (.slice none 0 0) [] (byN x.dt) A (byN x.dt).length c (fun _ => True) (fun _ => False) (by rfl) (by rfl) (Kd.R_nil _ _ _ _ _) (HRd.out _ (by with_reducible assumption)) (fun _ _ h => h) (fun _ h => h.elim) (fun _ _ => trivial) (by with_reducible assumption) (HSz.out _ (by with_reducible assumption)) (by rw [Nat.mul_one]; exact HLim.out) ?_; intro v1 w1 hR1 hB1 hg1 hat1; obtain ⟨A1, c1, rfl⟩ := Kd.R_slice hR1; have HR1 := Lib.hid hR1; have HA1 : Hid (∀ o, Below W3.heap.size W3 (w1.alloc o)) := fun o => hB1.alloc hB1.size o; clear hR1 hat1)
        | (refine Kd.R_append_rows_step (Kd.int .u8) (w0 := W3) W3.heap.size (by rfl) (.const (.slice none 0 0)) (.tmp 14) 35 5 (.int .u8 0) 1 rfl Tryd.underlying35 info5b rfl (by decide) (by decide) (.slice none 0 0) [] (byN x.dt) A (byN x.dt).length c (fun _ => True) (fun _ => False) (by rfl) (by rfl) (Kd.R_nil _ _ _ _ _) (HRd.out _ (HA2.out _)) (fun _ _ h => h) (fun _ h => h.elim) (fun _ _ => trivial) (HA2.out _) (HSz.out _ (HA2.out _)) (by rw [Nat.mul_one]; exact HLim.out) ?_; intro v1 w1 hR1 hB1 hg1 hat1; obtain ⟨A1, c1, rfl⟩ := Kd.R_slice hR1; have HR1 := Lib.hid hR1; have HA1 : Hid (∀ o, Below W3.heap.size W3 (w1.alloc o)) := fun o => hB1.alloc hB1.size o; have hq : w1.heap[W3.heap.size]? = some (.cells (chCells (bareC 0) (.slice none 0 0)).toArray 39 (0, 0)) := blk_grown (blk_drew (blk_new W3 _)) hg1 (by simp [Value.ownBlock]); obtain ⟨r0, r1, r2, r3, r4, r5, r6, r7, r8, r9⟩ := ch_cells (x := bareC 0) hq; obtain ⟨z0, z1, z2, z3, z4, z5, z6, z7, z8, z9⟩ := ch_free hq; have HQ := Lib.hid hq; have HA3 : Hid (Below W3.heap.size W3 (chPut w1 W3.heap.size (noAsk x) (.slice A1 (byN x.dt).length c1))) := chPut_below hB1 (Nat.le_refl _) _ _; clear hR1 hat1 hq))
    · have e2 : ∀ o, Dt (w1.alloc o) (fun k => W3.heap.size ≤ k ∧ k ≠ w1.heap.size) (.slice A1 (byN x.dt).length c1) x.dt := fun o => Kd.V_mono (Kd.V_alloc (Kd.R_V (base' := 0) (Kd.R_bound HR1.out)) o) (fun k hk => ⟨hk.2.1, by have := hk.2.2.1; omega⟩)
      have e3 : BkSt W3 x A1 c1 w1.heap.size (w1.alloc (.cells (chCells (noAsk x) (.slice A1 (byN x.dt).length c1)).toArray 39)) := ⟨HA1.out _, hB1.size, blk_new w1 _, e2 _⟩
      have E3 := Lib.hid e3
      clear e2 e3
      go_wp2
      go_meet
      case rel => exact ⟨_, _, _, rfl, E3⟩
    · have e3 : BkSt W3 x A1 c1 W3.heap.size (chPut w1 W3.heap.size (noAsk x) (.slice A1 (byN x.dt).length c1)) := ⟨HA3.out, Nat.le_refl _, chPut_heap HQ.out _ _, chPut_dt (Kd.V_mono (Kd.R_V (base' := 0) (Kd.R_bound (Kd.R_types HR1.out HQ.out (by decide)))) (fun k hk => ⟨hk.2.1, hk.1.2⟩)) (fun k hk => hk.2) _ _⟩
      have E3 := Lib.hid e3
      clear e3
      go_wp2
      go_meet
      case rel => exact ⟨_, _, _, rfl, E3⟩
  case rest =>
    obtain ⟨g, A1, c1, rfl, HK⟩ := hcut
    have hs3 := HS3.out
    have hgn := HK.out.n
    obtain ⟨d0, d1, d2, d3, d4, d5, d6, d7, d8, d9⟩ := ch_cells HK.out.h
    obtain ⟨z0, z1, z2, z3, z4, z5, z6, z7, z8, z9⟩ := ch_free HK.out.h
    have hq := blk_below H32.out HK.out.b
    have q0 := (blk_cell hq 0).trans (rfl : _ = some (Value.string (mkS x.pf)))
    have q1 := (blk_cell hq 1).trans (rfl : _ = some (Value.string (mkS x.fr)))
    have q2 := (blk_cell hq 2).trans (rfl : _ = some (Value.int .i64 x.fi))
    have q3 := (blk_cell hq 3).trans (rfl : _ = some (Value.int .i64 x.mo))
    have hne : w.heap.size + 2 ≠ g := by omega
    have hne2 : g ≠ w.heap.size + 2 := by omega
    simp only [noAsk] at d0 d1 d2 d3 d4 d5 d6 d7 d8 d9
    clear hq hs3
    go_wp2_with fail
    go_region
    have hs3 := HS3.out
    obtain ⟨W4, hW4⟩ : ∃ W4, ((((wc.setCell ⟨g, 6, none⟩ (.string (mkS x.pf))).setCell ⟨g, 7, none⟩ (.string (mkS x.fr))).setCell ⟨g, 8, none⟩ (.int .i64 x.fi)).setCell ⟨g, 9, none⟩ (.int .i64 x.mo)).drew = W4 := ⟨_, rfl⟩
    have h4 : W4.heap[g]? = some (.cells (chCells x (.slice A1 (byN x.dt).length c1)).toArray 39 (0, 0)) := by
      rw [← hW4]
      exact (blk_set (blk_set (blk_set (blk_set HK.out.h 6 (.string (mkS x.pf))) 7 (.string (mkS x.fr))) 8 (.int .i64 x.fi)) 9 (.int .i64 x.mo)).trans (by simp [chCells, noAsk])
    have r4 : W4.heap[w.heap.size + 1]? = some (.cells (chCells (bareC 0) (.slice none 0 0)).toArray 39 (0, 0)) := by
      rw [← hW4]
      have hne1 : w.heap.size + 1 ≠ g := by omega
      exact blk_far (p := ⟨g, 9, none⟩) (blk_far (p := ⟨g, 8, none⟩) (blk_far (p := ⟨g, 7, none⟩) (blk_far (p := ⟨g, 6, none⟩) (blk_below H31.out HK.out.b) hne1 _) hne1 _) hne1 _) hne1 _
    have dD : Dt W4 (fun k => W3.heap.size ≤ k ∧ k ≠ g) (.slice A1 (byN x.dt).length c1) x.dt := by
      rw [← hW4]
      exact Kd.V_drew (Kd.V_far (p := ⟨g, 9, none⟩) (Kd.V_far (p := ⟨g, 8, none⟩) (Kd.V_far (p := ⟨g, 7, none⟩) (Kd.V_far (p := ⟨g, 6, none⟩) HK.out.d (fun _ hk => hk.2) _) (fun _ hk => hk.2) _) (fun _ hk => hk.2) _) (fun _ hk => hk.2) _)
    have b4 : Below w.heap.size w W4 := by
      rw [← hW4]
      have hg : w.heap.size ≤ g := by omega
      exact (((((HB3.out.trans (HK.out.b.mono (by omega))).setCell (p := ⟨g, 6, none⟩) hg _).setCell (p := ⟨g, 7, none⟩) hg _).setCell (p := ⟨g, 8, none⟩) hg _).setCell (p := ⟨g, 9, none⟩) hg _).drew
    rw [hW4]
    obtain ⟨e0, e1, e2, e3, e4, e5, e6, e7, e8, e9⟩ := ch_cells h4
    have R4 := Lib.hid r4
    have D4 := Lib.hid dD
    have B4 := Lib.hid b4
    clear hW4 h4 r4 dD b4 hs3 d0 d1 d2 d3 d4 d5 d6 d7 d8 d9 z0 z1 z2 z3 z4 z5 z6 z7 z8 z9 q0 q1 q2 q3
    go_wp2_with (refine wpList_store_row rfl 39 (.tmp 2) (.tmp 37) rfl (w.heap.size + 1) (chCells x (.slice A1 (byN x.dt).length c1)).toArray rfl rfl 39 _ R4.out (by kernel_rfl) rfl (chCells_all _ _ _ _) ?_)
    refine bodyPost_ret (ret_agg rfl _ _ (w.heap.size + 1) 39 (chCells x (.slice A1 (byN x.dt).length c1)).toArray (0, 0) _ rfl (setRow_heap _ _ _ _ _ _ R4.out) Tryd.underlying39 rfl (by kernel_rfl)) rfl ?_
    have hs3 := HS3.out
    refine ⟨⟨.slice A1 (byN x.dt).length c1, rfl, ?_⟩, below_setRow B4.out (by omega) _⟩
    exact Kd.V_mono (Kd.V_step D4.out (fun k hk _ => setRow_other _ _ _ _ (by omega))) (fun k hk => by omega)
end Go.Proofs.YtghllfihmmlcnaaDoor

/- The statements' own rows of choices. -/
namespace Go.Proofs.YtghllfihmmlcnaaDoor
open Go.RowKit Nam YtghllfihmmlcnaaDoorW.PrintWords

theorem info45 : (Tryd.prog.info? 39).map (fun i => (i.zero, i.size, i.bytes)) = some (some (.agg (chCells (bareC 0) (.slice none 0 0)).toArray), 10, 128) := by kernel_rfl

structure ChsSt (T : TypeId) (w : World) (l : List Ch) (sv : Value) (wr : World) : Prop where
  b : Below w.heap.size w wr
  o : Kd.N kCh T wr w.heap.size (fun j => w.heap.size ≤ j) sv l

set_option maxHeartbeats 1000000 in
set_option maxRecDepth 100000 in
theorem choices_is (l : List Ch) (A : Option Addr) (c : Nat) (w : World) (hl : l.length ≤ 100000) (hx : ∀ x ∈ l, x.dt.length ≤ 1000000) (hC : Kd.C kCh w A l.length l) :
    Calls Tryd.prog 19 #[.slice A l.length c] w fun e w' => (∃ v, e = .returned v ∧ Kd.N kCh 44 w' w.heap.size (fun k => w.heap.size ≤ k) v l) ∧ Below w.heap.size w w' := by
  have HX := Lib.hid hx; clear hx
  have HC := Lib.hid hC; clear hC
  go_enter Tryd.func19, Tryd.ntmps19
  go_wp2_with fail
  go_loopw [3, 4] (fun vo vi wr => ∃ (j : Nat) (sv : Value), sv = vo ∧ vi = .int .i64 j ∧ j ≤ l.length ∧ Hid (ChsSt 44 w (l.take j) sv wr)) (fun _ vi _ => l.length - (intOf vi).toNat)
  case atStart => exact ⟨0, _, rfl, rfl, Nat.zero_le _, ⟨Below.refl _ _, Kd.N_nil _ _ _ _ _⟩⟩
  case round =>
    obtain ⟨j, sv, hsv, rfl, hj, HS⟩ := hrel
    subst hsv
    by_cases hlt : j < l.length
    · have hltz : (j : Int) < (l.length : Int) := by omega
      obtain ⟨ad, A3, c3_, hA, hdt, hcell⟩ := at_Ch (Kd.C_below HC.out HS.out.b) j hlt
      subst hA
      obtain ⟨x, hx⟩ : ∃ x, l[j] = x := ⟨_, rfl⟩
      rw [hx] at hdt hcell
      have hok := HX.out x (by rw [← hx]; exact List.getElem_mem _)
      have htk : l.take (j + 1) = l.take j ++ [x] := by rw [List.take_succ_eq_append_getElem hlt, hx]
      have c0 := hcell 0 _ rfl
      have cf : ∀ i u, (chCells x (.slice A3 (byN x.dt).length c3_))[i + 1]? = some u → wr.cell? ⟨(ad.add (j * 10)).block, (ad.add (j * 10)).off + (i + 1), none⟩ = some u := fun i u hu => by
        rw [← add_field _ _ (i + 1) (by omega)]; exact hcell (i + 1) u hu
      have c1 := cf 0 _ rfl
      have c2 := cf 1 _ rfl
      have c3 := cf 2 _ rfl
      have c4 := cf 3 _ rfl
      have c5 := cf 4 _ rfl
      have c6 := cf 5 _ rfl
      have c7 := cf 6 _ rfl
      have c8 := cf 7 _ rfl
      have c9 := cf 8 _ rfl
      rw [Nat.add_zero] at c0
      have HTK := Lib.hid htk; clear htk
      clear hcell cf hx
      simp only [Nat.zero_add] at c1
      have hl2 : ((l.take j).length + 1) * 128 ≤ 140737488355328 := by rw [List.length_take]; omega
      have HOW : Hid (∀ k, sv.ownBlock = some k → k < wr.heap.size) := Kd.N_lt HS.out.o
      have HCC : Hid (Calls Tryd.prog 13 #[.agg (chCells x (.slice A3 (byN x.dt).length c3_)).toArray] wr fun e w' => (∃ v, e = .returned (.agg (chCells x v).toArray) ∧ Dt w' (fun k => wr.heap.size ≤ k) v x.dt) ∧ Below wr.heap.size wr w') := choice8_is x A3 c3_ wr hok hdt
      go_wp2_with (first
        | (go_at_call 13; refine (HCC.out).mono ?_; rintro e w3 ⟨⟨v, he, hdv⟩, hb3⟩; unfold chCells at he; subst he; have hs3 := hb3.size; have hbs := HS.out.b.size; have HO3 : Hid (Kd.N kCh 44 w3 w.heap.size (fun j => w.heap.size ≤ j) sv (l.take j)) := Kd.N_below HS.out.o hb3; have HB3 : Hid (Below w.heap.size w w3) := HS.out.b.trans (hb3.mono hbs); have HFK : Hid (Kd.FK kCh w3 (fun k => wr.heap.size ≤ k) x (chCells x v)) := kCh_mkF hdv; clear hdv hb3)
        | (at_builtin; refine Kd.N_append kCh (w0 := w) w.heap.size rfl (.tmp 11) (.tmp 17) 30 44 (.agg (chCells (bareC 0) (.slice none 0 0)).toArray) 128 rfl Tryd.underlying30 info44 rfl (by decide) (by omega) sv (l.take j) x (chCells x v) (fun j => w.heap.size ≤ j) (fun k => wr.heap.size ≤ k) rfl rfl HFK.out (fun k hk => ⟨by omega, fun e => by have := HOW.out k e.symm; omega⟩) (fun k hk => by omega) HO3.out HB3.out HB3.out.size hl2 ?_; intro v1 w5 hN5 hb5 hg5 hat5))
      have HS5 : Hid (ChsSt 44 w (l.take (j + 1)) v1 w5) := ⟨hb5, by rw [HTK.out]; exact hN5⟩
      clear hN5 hb5 hg5 hat5
      go_wp2_with fail
      go_roundw
      case rel => exact ⟨j + 1, v1, rfl, by go_num, by omega, HS5⟩
      case measure => simp [intOf]; omega
    · obtain rfl : j = l.length := by omega
      rw [List.take_length] at HS
      clear hj hlt
      go_wp2_with fail
      go_ret
      exact ⟨⟨_, rfl, HS.out.o⟩, HS.out.b⟩
set_option maxHeartbeats 1000000 in
set_option maxRecDepth 100000 in
theorem backs_is (l : List Ch) (A : Option Addr) (c : Nat) (w : World) (hl : l.length ≤ 100000) (hx : ∀ x ∈ l, x.dt.length ≤ 1000000) (hC : Kd.C kCh w A l.length l) :
    Calls Tryd.prog 22 #[.slice A l.length c] w fun e w' => (∃ v, e = .returned v ∧ Kd.N kCh 39 w' w.heap.size (fun k => w.heap.size ≤ k) v l) ∧ Below w.heap.size w w' := by
  have HX := Lib.hid hx; clear hx
  have HC := Lib.hid hC; clear hC
  go_enter Tryd.func22, Tryd.ntmps22
  go_wp2_with fail
  go_loopw [3, 4] (fun vo vi wr => ∃ (j : Nat) (sv : Value), sv = vo ∧ vi = .int .i64 j ∧ j ≤ l.length ∧ Hid (ChsSt 39 w (l.take j) sv wr)) (fun _ vi _ => l.length - (intOf vi).toNat)
  case atStart => exact ⟨0, _, rfl, rfl, Nat.zero_le _, ⟨Below.refl _ _, Kd.N_nil _ _ _ _ _⟩⟩
  case round =>
    obtain ⟨j, sv, hsv, rfl, hj, HS⟩ := hrel
    subst hsv
    by_cases hlt : j < l.length
    · have hltz : (j : Int) < (l.length : Int) := by omega
      obtain ⟨ad, A3, c3_, hA, hdt, hcell⟩ := at_Ch (Kd.C_below HC.out HS.out.b) j hlt
      subst hA
      obtain ⟨x, hx⟩ : ∃ x, l[j] = x := ⟨_, rfl⟩
      rw [hx] at hdt hcell
      have hok := HX.out x (by rw [← hx]; exact List.getElem_mem _)
      have htk : l.take (j + 1) = l.take j ++ [x] := by rw [List.take_succ_eq_append_getElem hlt, hx]
      have c0 := hcell 0 _ rfl
      have cf : ∀ i u, (chCells x (.slice A3 (byN x.dt).length c3_))[i + 1]? = some u → wr.cell? ⟨(ad.add (j * 10)).block, (ad.add (j * 10)).off + (i + 1), none⟩ = some u := fun i u hu => by
        rw [← add_field _ _ (i + 1) (by omega)]; exact hcell (i + 1) u hu
      have c1 := cf 0 _ rfl
      have c2 := cf 1 _ rfl
      have c3 := cf 2 _ rfl
      have c4 := cf 3 _ rfl
      have c5 := cf 4 _ rfl
      have c6 := cf 5 _ rfl
      have c7 := cf 6 _ rfl
      have c8 := cf 7 _ rfl
      have c9 := cf 8 _ rfl
      rw [Nat.add_zero] at c0
      have HTK := Lib.hid htk; clear htk
      clear hcell cf hx
      simp only [Nat.zero_add] at c1
      have hl2 : ((l.take j).length + 1) * 128 ≤ 140737488355328 := by rw [List.length_take]; omega
      have HOW : Hid (∀ k, sv.ownBlock = some k → k < wr.heap.size) := Kd.N_lt HS.out.o
      have HCC : Hid (Calls Tryd.prog 16 #[.agg (chCells x (.slice A3 (byN x.dt).length c3_)).toArray] wr fun e w' => (∃ v, e = .returned (.agg (chCells x v).toArray) ∧ Dt w' (fun k => wr.heap.size ≤ k) v x.dt) ∧ Below wr.heap.size wr w') := back8_is x A3 c3_ wr hok hdt
      go_wp2_with (first
        | (go_at_call 16; refine (HCC.out).mono ?_; rintro e w3 ⟨⟨v, he, hdv⟩, hb3⟩; unfold chCells at he; subst he; have hs3 := hb3.size; have hbs := HS.out.b.size; have HO3 : Hid (Kd.N kCh 39 w3 w.heap.size (fun j => w.heap.size ≤ j) sv (l.take j)) := Kd.N_below HS.out.o hb3; have HB3 : Hid (Below w.heap.size w w3) := HS.out.b.trans (hb3.mono hbs); have HFK : Hid (Kd.FK kCh w3 (fun k => wr.heap.size ≤ k) x (chCells x v)) := kCh_mkF hdv; clear hdv hb3)
        | (at_builtin; refine Kd.N_append kCh (w0 := w) w.heap.size rfl (.tmp 11) (.tmp 17) 22 39 (.agg (chCells (bareC 0) (.slice none 0 0)).toArray) 128 rfl Tryd.underlying22 info45 rfl (by decide) (by omega) sv (l.take j) x (chCells x v) (fun j => w.heap.size ≤ j) (fun k => wr.heap.size ≤ k) rfl rfl HFK.out (fun k hk => ⟨by omega, fun e => by have := HOW.out k e.symm; omega⟩) (fun k hk => by omega) HO3.out HB3.out HB3.out.size hl2 ?_; intro v1 w5 hN5 hb5 hg5 hat5))
      have HS5 : Hid (ChsSt 39 w (l.take (j + 1)) v1 w5) := ⟨hb5, by rw [HTK.out]; exact hN5⟩
      clear hN5 hb5 hg5 hat5
      go_wp2_with fail
      go_roundw
      case rel => exact ⟨j + 1, v1, rfl, by go_num, by omega, HS5⟩
      case measure => simp [intOf]; omega
    · obtain rfl : j = l.length := by omega
      rw [List.take_length] at HS
      clear hj hlt
      go_wp2_with fail
      go_ret
      exact ⟨⟨_, rfl, HS.out.o⟩, HS.out.b⟩
end Go.Proofs.YtghllfihmmlcnaaDoor

/- The statements' rows of choices: how many, how long; are two the same? -/
namespace Go.Proofs.YtghllfihmmlcnaaDoor
open Go.RowKit Nam YtghllfihmmlcnaaDoorW.PrintWords PScriptPrints

/-- A choice as the printed texts have it. -/
def toS (x : Ch) : S39 := ⟨x.d, mkS x.bk, mkS x.ky, byN x.dt, x.n, x.a, ⟨mkS x.pf, mkS x.fr, x.fi, x.mo⟩⟩
theorem C_toS {w : World} {A : Option Addr} {n : Nat} {l : List Ch} (h : Kd.C kCh w A n l) : Kd.C k39 w A n (l.map toS) := by
  obtain ⟨h1, h2, h3⟩ := h
  refine ⟨by rw [List.length_map]; exact h1, h2, fun hn => ?_⟩
  obtain ⟨ad, e, hc⟩ := h3 hn
  refine ⟨ad, e, fun j p hp => ?_⟩
  rw [List.getElem?_map] at hp
  cases hx : l[j]? with
  | none => rw [hx] at hp; cases hp
  | some x =>
    rw [hx] at hp
    simp only [Option.map_some, Option.some.injEq] at hp
    subst hp
    obtain ⟨c, hl, hK, hcell⟩ := hc j x hx
    refine ⟨c, hl, ?_, hcell⟩
    obtain ⟨A3, c3, rfl, l3, g3⟩ := kCh_open hK
    exact k39_mk w (toS x) l3 g3

/-- Few choices, short texts. -/
def roomX (x : Ch) : Bool := decide (x.bk.length ≤ 300) && decide (x.ky.length ≤ 300) && decide (x.dt.length ≤ 3000) && decide (x.pf.length ≤ 300) && decide (x.fr.length ≤ 300)
def roomB (l : List Ch) (m : Nat) : Bool := decide (l.length ≤ m) && l.all roomX
theorem room_l0 (l : List Ch) (hl : l.length ≤ 1000000) : ∀ (k j : Nat), j ≤ l.length → l.length - j < k → strongboxlaw22_Room.l0 k (l.map toS) (j : Int) = some ((l.drop j).all roomX)
  | 0, j, _, h => by omega
  | k + 1, j, hj, h => by
    rw [strongboxlaw22_Room.l0, List.length_map]
    by_cases hlt : j < l.length
    · rw [if_pos (by omega), if_pos (by omega)]
      have hrd : rd_T39 (l.map toS) (j : Int) = toS l[j] := by
        unfold rd_T39
        rw [Int.toNat_natCast, List.getD_eq_getElem?_getD, List.getElem?_map, List.getElem?_eq_getElem hlt]
        rfl
      rw [hrd]
      have hw : wrap64 ((j : Int) + 1) = ((j + 1 : Nat) : Int) := by unfold wrap64; omega
      rw [hw, room_l0 l hl k (j + 1) (by omega) (by omega), List.drop_eq_getElem_cons hlt, List.all_cons]
      obtain ⟨x, hx⟩ : ∃ x, l[j] = x := ⟨_, rfl⟩
      rw [hx]
      unfold toS roomX
      simp only [mkS_size, byN_length]
      by_cases h1 : x.bk.length ≤ 300
      · rw [if_neg (by omega), decide_eq_true h1]
        by_cases h2 : x.ky.length ≤ 300
        · rw [if_neg (by omega), decide_eq_true h2]
          by_cases h3 : x.dt.length ≤ 3000
          · rw [if_neg (by omega), decide_eq_true h3]
            by_cases h4 : x.pf.length ≤ 300
            · rw [if_neg (by omega), decide_eq_true h4]
              by_cases h5 : x.fr.length ≤ 300
              · rw [if_neg (by omega), decide_eq_true h5]; simp
              · rw [if_pos (by omega), decide_eq_false h5]; simp
            · rw [if_pos (by omega), decide_eq_false h4]; simp
          · rw [if_pos (by omega), decide_eq_false h3]; simp
        · rw [if_pos (by omega), decide_eq_false h2]; simp
      · rw [if_pos (by omega), decide_eq_false h1]; simp
    · rw [if_neg (by omega), List.drop_eq_nil_of_le (by omega)]
      rfl
theorem room_is (l : List Ch) (m : Nat) (A : Option Addr) (c : Nat) (w : World) (hc : l.length ≤ c) (hm : m ≤ 1000000) (hC : Kd.C kCh w A l.length l) :
    Calls Tryd.prog 9 #[.slice A l.length c, .int .i64 (m : Int)] w fun e w' => e = .returned (.bool (roomB l m)) ∧ Below w.heap.size w w' := by
  have h := strongboxlaw22_Room.calls (l.length + 1) A c (l.map toS) (m : Int) (roomB l m) w (by rw [List.length_map]; exact C_toS hC) (by rw [List.length_map]; exact hc) (by
    unfold strongboxlaw22_Room.f roomB
    rw [List.length_map]
    by_cases h : l.length ≤ m
    · rw [if_neg (by omega), decide_eq_true h]
      have := room_l0 l (by omega) (l.length + 1) 0 (Nat.zero_le _) (by omega)
      rw [List.drop_zero] at this
      exact this
    · rw [if_pos (by omega), decide_eq_false h]; rfl)
  rw [List.length_map] at h
  exact h
theorem roomB_ok {l : List Ch} {m : Nat} (h : roomB l m = true) : l.length ≤ m ∧ ∀ x ∈ l, x.bk.length ≤ 300 ∧ x.ky.length ≤ 300 ∧ x.dt.length ≤ 3000 ∧ x.pf.length ≤ 300 ∧ x.fr.length ≤ 300 := by
  unfold roomB at h
  simp only [Bool.and_eq_true, decide_eq_true_eq, List.all_eq_true] at h
  refine ⟨h.1, fun x hx => ?_⟩
  have := h.2 x hx
  unfold roomX at this
  simp only [Bool.and_eq_true, decide_eq_true_eq] at this
  exact ⟨this.1.1.1.1, this.1.1.1.2, this.1.1.2, this.1.2, this.2⟩

theorem mkS_toList (l : List UInt8) : (mkS l).toList = l := by rw [ByteArray.toList_eq]; rfl
theorem same_f (x y : Ch) : strongboxref23_SameChoice.f x.d (mkS x.bk) (mkS x.ky) (byN x.dt) x.n x.a (mkS x.pf) (mkS x.fr) x.fi x.mo y.d (mkS y.bk) (mkS y.ky) (byN y.dt) y.n y.a (mkS y.pf) (mkS y.fr) y.fi y.mo = some (decide (x = y)) := by
  unfold strongboxref23_SameChoice.f
  simp only [mkS_toList, byN_str]
  obtain ⟨d1, b1, k1, t1, n1, a1, p1, r1, i1, m1⟩ := x
  obtain ⟨d2, b2, k2, t2, n2, a2, p2, r2, i2, m2⟩ := y
  simp only [Ch.mk.injEq]
  by_cases e1 : d1 = d2
  · rw [if_pos e1]
    by_cases e2 : b1 = b2
    · rw [if_pos e2]
      by_cases e3 : k1 = k2
      · rw [if_pos e3]
        by_cases e4 : t1 = t2
        · rw [if_pos e4]
          by_cases e5 : n1 = n2
          · rw [if_pos e5]
            by_cases e6 : a1 = a2
            · rw [if_pos e6]
              simp only [e1, e2, e3, e4, e5, e6, true_and, Option.some.injEq]
              rw [Bool.eq_iff_iff]
              simp
            · rw [if_neg e6]; simp [e6]
          · rw [if_neg e5]; simp [e5]
        · rw [if_neg e4]; simp [e4]
      · rw [if_neg e3]; simp [e3]
    · rw [if_neg e2]; simp [e2]
  · rw [if_neg e1]; simp [e1]

theorem same_is (x y : Ch) (v u : Value) (w : World) (hv : Dt w (fun _ => True) v x.dt) (hu : Dt w (fun _ => True) u y.dt) :
    Calls Tryd.prog 15 #[.agg (chCells x v).toArray, .agg (chCells y u).toArray] w fun e w' => e = .returned (.bool (decide (x = y))) ∧ Below w.heap.size w w' := by
  obtain ⟨A, c, rfl, l1, f1⟩ := hv
  obtain ⟨B, d, rfl, l2, f2⟩ := hu
  exact strongboxref23_SameChoice.calls x.d (mkS x.bk) (mkS x.ky) A c (byN x.dt) x.n x.a (mkS x.pf) (mkS x.fr) x.fi x.mo y.d (mkS y.bk) (mkS y.ky) B d (byN y.dt) y.n y.a (mkS y.pf) (mkS y.fr) y.fi y.mo _ w (Kd.F_now f1) l1 (Kd.F_now f2) l2 (same_f x y)

set_option maxHeartbeats 1000000 in
set_option maxRecDepth 100000 in
theorem sames_is (l m : List Ch) (A B : Option Addr) (c d : Nat) (w : World) (hl : l.length ≤ 100000) (hm : m.length ≤ 100000) (hC : Kd.C kCh w A l.length l) (hD : Kd.C kCh w B m.length m) :
    Calls Tryd.prog 21 #[.slice A l.length c, .slice B m.length d] w fun e w' => e = .returned (.bool (decide (l = m))) ∧ Below w.heap.size w w' := by
  obtain ⟨n, hn⟩ : ∃ n, l.length = n := ⟨_, rfl⟩
  obtain ⟨n2, hn2⟩ : ∃ n, m.length = n := ⟨_, rfl⟩
  rw [hn] at hC hl ⊢
  rw [hn2] at hD hm ⊢
  have HC := Lib.hid hC; clear hC
  have HD := Lib.hid hD; clear hD
  have HN := Lib.hid hn; clear hn
  have HN2 := Lib.hid hn2; clear hn2
  by_cases hlen : n = n2
  · subst hlen
    have hnn : ((n : Int) == (n : Int)) = true := by simp
    go_enter Tryd.func21, Tryd.ntmps21
    go_wp2_with fail
    go_loopw [5] (fun vi wr => ∃ (j : Nat), vi = .int .i64 j ∧ j ≤ n ∧ Hid (l.take j = m.take j) ∧ Hid (Below w.heap.size w wr)) (fun vi _ => n - (intOf vi).toNat)
    case atStart => exact ⟨0, rfl, Nat.zero_le _, rfl, Below.refl _ _⟩
    case round =>
      obtain ⟨j, rfl, hj, HT, HB⟩ := hrel
      by_cases hlt : j < n
      · have hltz : (j : Int) < (n : Int) := by omega
        have hlL : j < l.length := by rw [HN.out]; exact hlt
        have hlM : j < m.length := by rw [HN2.out]; exact hlt
        obtain ⟨ad, A3, c3_, hA, hdt, hcell⟩ := at_Ch (Kd.C_below HC.out HB.out) j hlL
        subst hA
        obtain ⟨be, A4, c4_, hA, hdu, hcelm⟩ := at_Ch (Kd.C_below HD.out HB.out) j hlM
        subst hA
        obtain ⟨x, hx⟩ : ∃ x, l[j] = x := ⟨_, rfl⟩
        obtain ⟨y, hy⟩ : ∃ y, m[j] = y := ⟨_, rfl⟩
        rw [hx] at hdt hcell
        rw [hy] at hdu hcelm
        have hne : x ≠ y → l ≠ m := fun h e => h (by subst e; rw [← hx, ← hy])
        have htk : x = y → l.take (j + 1) = m.take (j + 1) := fun e => by rw [List.take_succ_eq_append_getElem hlL, List.take_succ_eq_append_getElem hlM, hx, hy, e, HT.out]
        have HNE := Lib.hid hne
        have HTK := Lib.hid htk
        clear hne htk hx hy hlL hlM
        have hSf : ∀ V, Below wr.heap.size wr V → V.cell? (ad.add (j * 10)) = some (.int .i64 x.d) ∧ V.cell? ⟨(ad.add (j * 10)).block, (ad.add (j * 10)).off + 1, none⟩ = some (.string (mkS x.bk)) ∧ V.cell? ⟨(ad.add (j * 10)).block, (ad.add (j * 10)).off + 2, none⟩ = some (.string (mkS x.ky)) ∧ V.cell? ⟨(ad.add (j * 10)).block, (ad.add (j * 10)).off + 3, none⟩ = some (.slice A3 (byN x.dt).length c3_) ∧ V.cell? ⟨(ad.add (j * 10)).block, (ad.add (j * 10)).off + 4, none⟩ = some (.int .i64 x.n) ∧ V.cell? ⟨(ad.add (j * 10)).block, (ad.add (j * 10)).off + 5, none⟩ = some (.int .i64 x.a) ∧ V.cell? ⟨(ad.add (j * 10)).block, (ad.add (j * 10)).off + 6, none⟩ = some (.string (mkS x.pf)) ∧ V.cell? ⟨(ad.add (j * 10)).block, (ad.add (j * 10)).off + 7, none⟩ = some (.string (mkS x.fr)) ∧ V.cell? ⟨(ad.add (j * 10)).block, (ad.add (j * 10)).off + 8, none⟩ = some (.int .i64 x.fi) ∧ V.cell? ⟨(ad.add (j * 10)).block, (ad.add (j * 10)).off + 9, none⟩ = some (.int .i64 x.mo) ∧ V.cell? (be.add (j * 10)) = some (.int .i64 y.d) ∧ V.cell? ⟨(be.add (j * 10)).block, (be.add (j * 10)).off + 1, none⟩ = some (.string (mkS y.bk)) ∧ V.cell? ⟨(be.add (j * 10)).block, (be.add (j * 10)).off + 2, none⟩ = some (.string (mkS y.ky)) ∧ V.cell? ⟨(be.add (j * 10)).block, (be.add (j * 10)).off + 3, none⟩ = some (.slice A4 (byN y.dt).length c4_) ∧ V.cell? ⟨(be.add (j * 10)).block, (be.add (j * 10)).off + 4, none⟩ = some (.int .i64 y.n) ∧ V.cell? ⟨(be.add (j * 10)).block, (be.add (j * 10)).off + 5, none⟩ = some (.int .i64 y.a) ∧ V.cell? ⟨(be.add (j * 10)).block, (be.add (j * 10)).off + 6, none⟩ = some (.string (mkS y.pf)) ∧ V.cell? ⟨(be.add (j * 10)).block, (be.add (j * 10)).off + 7, none⟩ = some (.string (mkS y.fr)) ∧ V.cell? ⟨(be.add (j * 10)).block, (be.add (j * 10)).off + 8, none⟩ = some (.int .i64 y.fi) ∧ V.cell? ⟨(be.add (j * 10)).block, (be.add (j * 10)).off + 9, none⟩ = some (.int .i64 y.mo) := fun V hV => by
          have key : ∀ p u, wr.cell? p = some u → V.cell? p = some u := fun p u h => (hV.cell (World.block_lt_of_cell? wr _ h)).trans h
          have cf : ∀ i u, (chCells x (.slice A3 (byN x.dt).length c3_))[i + 1]? = some u → V.cell? ⟨(ad.add (j * 10)).block, (ad.add (j * 10)).off + (i + 1), none⟩ = some u := fun i u hu => by
            rw [← add_field _ _ (i + 1) (by omega)]; exact key _ _ (hcell (i + 1) u hu)
          have df : ∀ i u, (chCells y (.slice A4 (byN y.dt).length c4_))[i + 1]? = some u → V.cell? ⟨(be.add (j * 10)).block, (be.add (j * 10)).off + (i + 1), none⟩ = some u := fun i u hu => by
            rw [← add_field _ _ (i + 1) (by omega)]; exact key _ _ (hcelm (i + 1) u hu)
          exact ⟨key _ _ (hcell 0 _ rfl), cf 0 _ rfl, cf 1 _ rfl, cf 2 _ rfl, cf 3 _ rfl, cf 4 _ rfl, cf 5 _ rfl, cf 6 _ rfl, cf 7 _ rfl, cf 8 _ rfl, key _ _ (hcelm 0 _ rfl), df 0 _ rfl, df 1 _ rfl, df 2 _ rfl, df 3 _ rfl, df 4 _ rfl, df 5 _ rfl, df 6 _ rfl, df 7 _ rfl, df 8 _ rfl⟩
        have HSF := Lib.hid hSf; clear hSf
        have hSm : ∀ V, Below wr.heap.size wr V → Calls Tryd.prog 15 #[.agg (chCells x (.slice A3 (byN x.dt).length c3_)).toArray, .agg (chCells y (.slice A4 (byN y.dt).length c4_)).toArray] V fun e w' => e = .returned (.bool (decide (x = y))) ∧ Below wr.heap.size wr w' := fun V hV =>
          (same_is x y _ _ V (Kd.V_below hdt hV) (Kd.V_below hdu hV)).mono fun e w' ⟨he, hb⟩ => ⟨he, hV.trans (hb.mono hV.size)⟩
        have HSM := Lib.hid hSm; clear hSm hdt hdu hcell hcelm
        have hB0 : Below wr.heap.size wr wr.drew := (Below.refl _ _).drew
        have hB1 : Below wr.heap.size wr wr := Below.refl _ _
        go_wp2_with fail
        go_region_held3 (fun V => V.cell? (ad.add (j * 10)) = some (.int .i64 x.d) ∧ V.cell? ⟨(ad.add (j * 10)).block, (ad.add (j * 10)).off + 1, none⟩ = some (.string (mkS x.bk)) ∧ V.cell? ⟨(ad.add (j * 10)).block, (ad.add (j * 10)).off + 2, none⟩ = some (.string (mkS x.ky)) ∧ V.cell? ⟨(ad.add (j * 10)).block, (ad.add (j * 10)).off + 3, none⟩ = some (.slice A3 (byN x.dt).length c3_) ∧ V.cell? ⟨(ad.add (j * 10)).block, (ad.add (j * 10)).off + 4, none⟩ = some (.int .i64 x.n) ∧ V.cell? ⟨(ad.add (j * 10)).block, (ad.add (j * 10)).off + 5, none⟩ = some (.int .i64 x.a) ∧ V.cell? ⟨(ad.add (j * 10)).block, (ad.add (j * 10)).off + 6, none⟩ = some (.string (mkS x.pf)) ∧ V.cell? ⟨(ad.add (j * 10)).block, (ad.add (j * 10)).off + 7, none⟩ = some (.string (mkS x.fr)) ∧ V.cell? ⟨(ad.add (j * 10)).block, (ad.add (j * 10)).off + 8, none⟩ = some (.int .i64 x.fi) ∧ V.cell? ⟨(ad.add (j * 10)).block, (ad.add (j * 10)).off + 9, none⟩ = some (.int .i64 x.mo) ∧ V.cell? (be.add (j * 10)) = some (.int .i64 y.d) ∧ V.cell? ⟨(be.add (j * 10)).block, (be.add (j * 10)).off + 1, none⟩ = some (.string (mkS y.bk)) ∧ V.cell? ⟨(be.add (j * 10)).block, (be.add (j * 10)).off + 2, none⟩ = some (.string (mkS y.ky)) ∧ V.cell? ⟨(be.add (j * 10)).block, (be.add (j * 10)).off + 3, none⟩ = some (.slice A4 (byN y.dt).length c4_) ∧ V.cell? ⟨(be.add (j * 10)).block, (be.add (j * 10)).off + 4, none⟩ = some (.int .i64 y.n) ∧ V.cell? ⟨(be.add (j * 10)).block, (be.add (j * 10)).off + 5, none⟩ = some (.int .i64 y.a) ∧ V.cell? ⟨(be.add (j * 10)).block, (be.add (j * 10)).off + 6, none⟩ = some (.string (mkS y.pf)) ∧ V.cell? ⟨(be.add (j * 10)).block, (be.add (j * 10)).off + 7, none⟩ = some (.string (mkS y.fr)) ∧ V.cell? ⟨(be.add (j * 10)).block, (be.add (j * 10)).off + 8, none⟩ = some (.int .i64 y.fi) ∧ V.cell? ⟨(be.add (j * 10)).block, (be.add (j * 10)).off + 9, none⟩ = some (.int .i64 y.mo)) (first | (with_reducible exact (HSF.out _ (by with_reducible assumption))) | go_keep)
          (first
            | (go_at_call 15; refine (HSM.out _ (by with_reducible assumption)).mono ?_; rintro e w' ⟨rfl, hbn⟩))
        · by_cases hxy : x = y
          · have hr : decide (x = y) = true := decide_eq_true hxy
            have HT2 := Lib.hid (HTK.out hxy)
            have HBN : Hid (Below w.heap.size w w') := HB.out.trans (hbn.mono HB.out.size)
            rw [hr]
            clear hxy hr hbn
            go_wp2_with fail
            go_roundw
            case rel => exact ⟨j + 1, by go_num, by omega, HT2, HBN⟩
            case measure => simp [intOf]; omega
          · have hr : decide (x = y) = false := decide_eq_false hxy
            have HNQ := Lib.hid (HNE.out hxy)
            have HBN : Hid (Below w.heap.size w w') := HB.out.trans (hbn.mono HB.out.size)
            rw [hr]
            clear hxy hr hbn
            go_wp2_with fail
            go_ret
            exact ⟨by rw [decide_eq_false HNQ.out]; rfl, HBN.out⟩
      · obtain rfl : j = n := by omega
        have hz : decide ((j : Int) < (j : Int)) = false := decide_eq_false (by omega)
        have hlm : l = m := by
          have := HT.out
          rw [List.take_of_length_le (by rw [HN.out]; exact Nat.le_refl _), List.take_of_length_le (by rw [HN2.out]; exact Nat.le_refl _)] at this
          exact this
        have HLM := Lib.hid hlm
        clear hlt hlm HT
        go_wp2_with fail
        go_ret
        exact ⟨by rw [decide_eq_true HLM.out]; rfl, HB.out⟩
  · have hz : ((n : Int) == (n2 : Int)) = false := by rw [beq_eq_false_iff_ne]; omega
    have hr : decide (l = m) = false := decide_eq_false (fun e => hlen (by rw [← HN.out, ← HN2.out, e]))
    rw [hr]
    clear hr
    go_enter Tryd.func21, Tryd.ntmps21
    go_wp2_with fail
    go_ret
    exact ⟨rfl, Below.refl _ _⟩
end Go.Proofs.YtghllfihmmlcnaaDoor
