/- numbers and Print of package script. -/
import Derived.Test.YtghllfihmmlcnaaDoorScrI
import Derived.Test.YtghllfihmmlcnaaDoorScrL
namespace Go.Proofs.YtghllfihmmlcnaaDoor
open Go.RowKit Nam YtghllfihmmlcnaaDoorW.PrintWords

def numsB (ns : List Int) : List UInt8 := ns.flatMap fun n => 32 :: Lib.itoa n
theorem numsB_snoc (ns : List Int) (n : Int) : numsB (ns ++ [n]) = numsB ns ++ 32 :: Lib.itoa n := by unfold numsB; rw [List.flatMap_append]; simp
theorem numsB_le (ns : List Int) (h : ∀ n ∈ ns, -9223372036854775808 ≤ n ∧ n ≤ 9223372036854775807) : (numsB ns).length ≤ ns.length * 22 := by
  induction ns with
  | nil => exact Nat.zero_le _
  | cons n t ih =>
    have h1 := Lib.itoa_length_le n (h n (by simp)).1 (h n (by simp)).2
    have h2 := ih (fun x hx => h x (by simp [hx]))
    unfold numsB at h2 ⊢
    rw [List.flatMap_cons, List.length_append, List.length_cons, List.length_cons, Nat.add_mul]
    omega

set_option maxHeartbeats 1000000 in
set_option maxRecDepth 100000 in
theorem numbers_is (ns : List Int) (A : Option Addr) (c : Nat) (w : World) (hn : ns.length ≤ 100) (hr : ∀ n ∈ ns, -9223372036854775808 ≤ n ∧ n ≤ 9223372036854775807) (hC : (Kd.int .i64).C w A ns.length ns) (hE : Env w) :
    Calls Tryd.prog 33 #[.slice A ns.length c] w fun e w' => e = .returned (.string (mkS (numsB ns))) ∧ Below w.heap.size w w' := by
  have HE := Lib.hid hE; clear hE
  have HR := Lib.hid hr; clear hr
  have HC := Lib.hid hC; clear hC
  go_enter Tryd.func33, Tryd.ntmps33
  go_wp2_with fail
  go_loopw [3, 8] (fun vs vi wr => ∃ k : Nat, vi = .int .i64 k ∧ k ≤ ns.length ∧ vs = .string (mkS (numsB (ns.take k))) ∧ Hid (Below w.heap.size w wr)) (fun _ vi _ => ns.length - (intOf vi).toNat)
  case atStart => exact ⟨0, rfl, Nat.zero_le _, rfl, Below.refl _ _⟩
  case round =>
    obtain ⟨k, rfl, hk, rfl, HB⟩ := hrel
    by_cases hlt : k < ns.length
    · have hltz : (k : Int) < (ns.length : Int) := by omega
      obtain ⟨n, hnk⟩ : ∃ n, ns[k] = n := ⟨_, rfl⟩
      have hrn := HR.out n (by rw [← hnk]; exact List.getElem_mem _)
      obtain ⟨ad, hA, hcell⟩ := Kd.at_int (Kd.C_below HC.out HB.out) (k : Int) (by omega) (by omega)
      subst hA
      have hrd : rd ns (k : Int) = n := by
        unfold rd
        rw [Int.toNat_natCast, List.getD_eq_getElem?_getD, List.getElem?_eq_getElem hlt, hnk]
        rfl
      rw [hrd, Int.toNat_natCast] at hcell
      have htk : ns.take (k + 1) = ns.take k ++ [n] := by rw [List.take_succ_eq_append_getElem hlt, hnk]
      have hz1 : (mkS (numsB (ns.take k))).size ≤ 2200 := by
        rw [mkS_size]
        have h1 := numsB_le (ns.take k) (fun x hx => HR.out x (List.mem_of_mem_take hx))
        have h2 : (ns.take k).length ≤ 100 := by rw [List.length_take]; omega
        omega
      have hz2 : (mkS (Lib.itoa n)).size ≤ 21 := by rw [mkS_size]; exact Lib.itoa_length_le n hrn.1 hrn.2
      have hfin : Hid (mkS (numsB (ns.take k)) ++ (⟨#[32]⟩ ++ mkS (Lib.itoa n)) = mkS (numsB (ns.take (k + 1)))) := by
        show _ = _
        rw [htk, numsB_snoc]
        apply ByteArray.ext
        apply Array.toList_inj.1
        simp [mkS]
      clear hrd hnk htk
      go_wp2_with (go_at_call 41; refine (itoa_is n wr hrn.1 hrn.2 (HE.out.below HB.out)).mono ?_; rintro e w2 ⟨rfl, hb2⟩)
      have HB2 : Hid (Below w.heap.size w w2) := HB.out.trans (hb2.mono HB.out.size)
      clear hb2
      go_roundw
      case rel => exact ⟨k + 1, by go_num, by omega, by rw [hfin.out], HB2⟩
      case measure => simp [intOf]; omega
    · obtain rfl : k = ns.length := by omega
      rw [List.take_length]
      clear hk hlt
      go_wp2_with fail
      go_ret
      exact ⟨rfl, HB.out⟩

/-- A life's text; the error: 1: a choice has none; 3: it is too long. -/
def headC (h : List Int) : List UInt8 := [97, 114, 114, 97, 121] ++ numsB h ++ [10]
def bodyC (l : List Ch) : List UInt8 := l.flatMap fun x => (textC x).getD [] ++ [10]
def printC (h : List Int) (l : List Ch) : List UInt8 × Int :=
  if l.any (fun x => (textC x).isNone) then ([], 1) else if 65536 < (headC h ++ bodyC l).length ∨ 2000 ≤ l.length then ([], 3) else (headC h ++ bodyC l, 0)
theorem bodyC_snoc (l : List Ch) (x : Ch) : bodyC (l ++ [x]) = bodyC l ++ ((textC x).getD [] ++ [10]) := by unfold bodyC; rw [List.flatMap_append]; simp
theorem bodyC_app (l m : List Ch) : bodyC (l ++ m) = bodyC l ++ bodyC m := by unfold bodyC; rw [List.flatMap_append]
theorem textC_le (x : Ch) (m : Nat) (hx : x.Ok m) (t : List UInt8) (h : textC x = some t) : t.length ≤ 10 * m + 130 := by
  unfold textC at h
  split at h
  · cases h
  · split at h
    · injection h with h
      subst h
      have h1 := form_len x.d
      have h2 := lineC_le x m hx (formC x.d).2
      have h3 := Nat.mul_le_mul_right (2 * m + 22) h1.1
      rw [List.length_append]
      omega
    · cases h

/-- An element of a row of choices, as it is loaded. -/
theorem at_Ch {w : World} {A : Option Addr} {n : Nat} {xs : List Ch} (h : Kd.C kCh w A n xs) (k : Nat) (hk : k < xs.length) : ∃ ad A3 c3, A = some ad ∧ Dt w (fun _ => True) (.slice A3 (byN xs[k].dt).length c3) xs[k].dt ∧
    ∀ j u, (chCells xs[k] (.slice A3 (byN xs[k].dt).length c3))[j]? = some u → w.cell? (ad.add (k * 10 + j)) = some u := by
  have hn := h.1
  obtain ⟨ad, c, e, _, hK, hc0⟩ := Kd.C_get h xs[k] (k : Int) (by omega) (by omega)
  rw [List.getD_eq_getElem?_getD, Int.toNat_natCast, List.getElem?_eq_getElem hk, Option.getD_some] at hK
  obtain ⟨A3, c3, rfl, l3, g3⟩ := kCh_open hK
  refine ⟨ad, A3, c3, e, ⟨A3, c3, rfl, l3, fun W' hW => ?_⟩, fun j u hu => ?_⟩
  · exact Kd.Heap.C (Kd.heap_int .u8) (fun j hj => hW j trivial hj) g3
  · have := hc0 j u hu
    rwa [Int.toNat_natCast] at this

theorem bu_below {T e : TypeId} {B b : Nat} {bs : List Value} {w w' : World} (h : Lib.IsBuilder T e B b bs w) (hb : Below w.heap.size w w') : Lib.IsBuilder T e B b bs w' := by
  have key : ∀ p, Lib.BuilderAt T e B b p bs w → Lib.BuilderAt T e B b p bs w' := fun p ⟨hB, v, hk, ho, hne⟩ => ⟨hB, v, blk_below hk hb, pw_own_below ho hb, hne⟩
  exact h.imp (key _) (key _)
theorem strCells_mkS (l : List UInt8) : Lib.strCells (mkS l) = Lib.byteCells l := rfl

structure PrSt (w : World) (bs : List UInt8) (wr : World) : Prop where
  b : Below w.heap.size w wr
  u : Lib.IsBuilder 77 5 (w.heap.size + 1) (w.heap.size + 1) (Lib.byteCells bs) wr
  s : w.heap.size + 1 ≤ wr.heap.size
theorem PrSt.below {w : World} {bs : List UInt8} {wr w2 : World} (h : PrSt w bs wr) (hb : Below wr.heap.size wr w2) : PrSt w bs w2 :=
  ⟨h.b.trans (hb.mono h.b.size), bu_below h.u hb, Nat.le_trans h.s hb.size⟩
theorem pr_write {w : World} {bs : List UInt8} {wr : World} (h : PrSt w bs wr) (t : List UInt8) (hl : bs.length + t.length ≤ 1000000) :
    Calls Tryd.prog 32 #[.pointer (some ⟨w.heap.size + 1, 0, none⟩), .string (mkS t)] wr fun e w' => e = .returned (.tuple #[.int .i64 (mkS t).size, .nilIface]) ∧ PrSt w (bs ++ t) w' := by
  refine (write_is _ _ _ (mkS t) wr h.u (by rw [Lib.byteCells_length, mkS_size]; omega) h.s).mono ?_
  rintro e w' ⟨he, hu, hb⟩
  refine ⟨he, h.b.trans (hb.mono (by omega)), ?_, Nat.le_trans h.s hb.size⟩
  rw [strCells_mkS, ← Lib.byteCells_append] at hu
  exact hu
theorem pr_len {w : World} {bs : List UInt8} {wr : World} (h : PrSt w bs wr) :
    Calls Tryd.prog 34 #[.pointer (some ⟨w.heap.size + 1, 0, none⟩)] wr fun e w' => e = .returned (.int .i64 (bs.length : Int)) ∧ wr = w' := by
  have := blen_is _ _ _ wr h.u
  rw [Lib.byteCells_length] at this
  exact this
theorem pr_string {w : World} {bs : List UInt8} {wr : World} (h : PrSt w bs wr) :
    Calls Tryd.prog 35 #[.pointer (some ⟨w.heap.size + 1, 0, none⟩)] wr fun e w' => e = .returned (.string (mkS bs)) ∧ Below w.heap.size w w' :=
  (bstring_is _ _ bs wr h.u h.s).mono fun e w' ⟨he, hb⟩ => ⟨he, h.b.trans (hb.mono (by omega))⟩

/-- What has been written after some choices: all, or so much that it is too long. -/
def Wrote (hd : List UInt8) (l : List Ch) (bs : List UInt8) : Prop := bs = hd ++ bodyC l ∨ (65536 < bs.length ∧ 65536 < (hd ++ bodyC l).length)

set_option maxHeartbeats 2000000 in
set_option maxRecDepth 100000 in
theorem print_is (k m b o : Int) (l : List Ch) (A : Option Addr) (c : Nat) (w : World) (hh : ∀ n ∈ [k, m, b, o], -9223372036854775808 ≤ n ∧ n ≤ 9223372036854775807) (hl : l.length ≤ 100000) (hx : ∀ x ∈ l, x.Ok 20000) (hC : Kd.C kCh w A l.length l) (hE : Env w) :
    Calls Tryd.prog 18 #[.agg #[.int .i64 k, .int .i64 m, .int .i64 b], .int .i64 o, .slice A l.length c] w fun e w' => e = .returned (.tuple #[.string (mkS (printC [k, m, b, o] l).1), .int .i64 (printC [k, m, b, o] l).2]) ∧ Below w.heap.size w w' := by
  have HE := Lib.hid hE; clear hE
  have HH := Lib.hid hh; clear hh
  have HX := Lib.hid hx; clear hx
  have HC := Lib.hid hC; clear hC
  have hnb := numsB_le [k, m, b, o] HH.out
  simp only [List.length_cons, List.length_nil] at hnb
  have hhd : (headC [k, m, b, o]).length ≤ 100 := by
    unfold headC
    simp only [List.length_append, List.length_cons, List.length_nil]
    omega
  go_enter Tryd.func18, Tryd.ntmps18
  go_wp2_with fail
  have hb3 : ∀ o1 o2 o3, Below w.heap.size w (((w.alloc o1).alloc o2).alloc o3) := fun o1 o2 o3 => (((Below.refl _ _).alloc (Nat.le_refl _) _).alloc (by simp) _).alloc (by simp; omega) _
  refine (numbers_is [k, m, b, o] (some ⟨w.heap.size + 1 + 1, 0, none⟩) 4 _ (by simp) HH.out ?_ (HE.out.below (hb3 _ _ _))).mono ?_
  · refine Kd.C_of_reads (enc := Value.int .i64) (d := (0 : Int)) (h1 := fun _ => rfl) ⟨rfl, by simp, fun _ => ⟨_, rfl, fun j hj => ?_⟩⟩
    rw [add_plain]
    have hblk : (((w.alloc (Obj.cells #[.int .i64 k, .int .i64 m, .int .i64 b] 26)).alloc (Obj.cells #[.pointer none, .slice none 0 0] 77)).alloc (Obj.cells #[.int .i64 k, .int .i64 m, .int .i64 b, .int .i64 o] 3)).heap[w.heap.size + 1 + 1]? = some (Obj.cells #[.int .i64 k, .int .i64 m, .int .i64 b, .int .i64 o] 3) := by
      have := blk_new ((w.alloc (Obj.cells #[.int .i64 k, .int .i64 m, .int .i64 b] 26)).alloc (Obj.cells #[.pointer none, .slice none 0 0] 77)) (Obj.cells #[.int .i64 k, .int .i64 m, .int .i64 b, .int .i64 o] 3)
      simpa using this
    rw [blk_cell hblk j]
    simp only [List.length_cons, List.length_nil] at hj
    match j, hj with
    | 0, _ => rfl
    | 1, _ => rfl
    | 2, _ => rfl
    | 3, _ => rfl
  rintro e w1 ⟨rfl, hb1⟩
  have hPS : Hid (PrSt w [] w1) := by
    have hu := Lib.fresh_isBuilder 77 5 (w.alloc (Obj.cells #[.int .i64 k, .int .i64 m, .int .i64 b] 26))
    have hs1 : (w.alloc (Obj.cells #[.int .i64 k, .int .i64 m, .int .i64 b] 26)).heap.size = w.heap.size + 1 := by simp
    rw [hs1] at hu
    refine ⟨(hb3 _ _ _).trans (hb1.mono (by simp; omega)), bu_below (bu_below hu ((Below.refl _ _).alloc (Nat.le_refl _) _)) hb1, by have := hb1.size; simp at this; omega⟩
  have hz1 : (mkS (numsB [k, m, b, o])).size ≤ 88 := by rw [mkS_size]; omega
  clear hb1 hb3
  have hfin : (⟨#[97, 114, 114, 97, 121]⟩ ++ mkS (numsB [k, m, b, o])) ++ ⟨#[10]⟩ = mkS (headC [k, m, b, o]) := by
    unfold headC
    rw [← mkS_app, ← mkS_app]
    rfl
  have HF := Lib.hid hfin; clear hfin
  go_wp2_with fail
  rw [HF.out]
  refine (pr_write hPS.out _ (by simp; omega)).mono ?_
  rintro e w2 ⟨rfl, hPS2⟩
  rw [List.nil_append] at hPS2
  have HP2 := Lib.hid hPS2; clear hPS2 hPS
  go_wp2_with fail
  go_loopw [27] (fun vi wr => ∃ (j : Nat) (bs : List UInt8), vi = .int .i64 j ∧ j ≤ l.length ∧ bs.length ≤ 400000 ∧ Hid (Wrote (headC [k, m, b, o]) (l.take j) bs) ∧ Hid ((l.take j).any (fun x => (textC x).isNone) = false) ∧ Hid (PrSt w bs wr)) (fun vi _ => l.length - (intOf vi).toNat)
  case atStart => exact ⟨0, _, rfl, Nat.zero_le _, by omega, .inl (by simp [bodyC]), rfl, HP2⟩
  case round =>
    obtain ⟨j, bs, rfl, hj, hbs, HW, HA, HS⟩ := hrel
    by_cases hlt : j < l.length
    · have hltz : (j : Int) < (l.length : Int) := by omega
      obtain ⟨ad, A3, c3_, hA, hdt, hcell⟩ := at_Ch (Kd.C_below HC.out HS.out.b) j hlt
      subst hA
      obtain ⟨x, hx⟩ : ∃ x, l[j] = x := ⟨_, rfl⟩
      rw [hx] at hdt hcell
      have hok := HX.out x (by rw [← hx]; exact List.getElem_mem _)
      have htk : l.take (j + 1) = l.take j ++ [x] := by rw [List.take_succ_eq_append_getElem hlt, hx]
      have c0 := hcell 0 _ rfl
      have cf : ∀ i u, (chCells x (.slice A3 (byN x.dt).length c3_))[i + 1]? = some u → wr.cell? ⟨(ad.add (j * 10)).block, (ad.add (j * 10)).off + (i + 1), none⟩ = some u := fun i u hu => by
        rw [← add_field _ _ (i + 1) (by omega)]; exact hcell (i + 1) u hu
      have c1 := cf 0 _ rfl
      have c2 := cf 1 _ rfl
      have c3 := cf 2 _ rfl
      have c4 := cf 3 _ rfl
      have c5 := cf 4 _ rfl
      have c6 := cf 5 _ rfl
      have c7 := cf 6 _ rfl
      have c8 := cf 7 _ rfl
      have c9 := cf 8 _ rfl
      rw [Nat.add_zero] at c0
      have HTK := Lib.hid htk; clear htk
      clear hcell cf hx
      simp only [Nat.zero_add] at c1
      go_wp2_with fail
      refine (ptext2_is x _ _ hok (Kd.V_alloc hdt _) (HE.out.below (HS.out.b.alloc HS.out.b.size _))).mono ?_
      rintro e w3 ⟨rfl, hb3⟩
      have HS3 : Hid (PrSt w bs w3) := (HS.out.below ((Below.refl _ _).alloc (Nat.le_refl _) _)).below hb3
      clear hb3 c0 c1 c2 c3 c4 c5 c6 c7 c8 c9 hdt
      cases ht : textC x with
      | none =>
        have hR : Hid (printC [k, m, b, o] l = ([], 1)) := by
          show _ = _
          unfold printC
          rw [if_pos]
          rw [List.any_eq_true]
          exact ⟨x, List.mem_of_mem_take (show x ∈ l.take (j + 1) by rw [HTK.out]; simp), by rw [ht]; rfl⟩
        clear ht
        go_wp2_with fail
        go_ret2
        exact ⟨by rw [hR.out]; rfl, HS3.out.b⟩
      | some t =>
        have htl := textC_le x 20000 hok t ht
        have hWs : Hid (∀ bs', bs' = bs ++ (t ++ [10]) ∧ bs.length ≤ 65536 ∨ bs' = bs ∧ 65536 < bs.length → Wrote (headC [k, m, b, o]) (l.take (j + 1)) bs') := by
          intro bs' h
          unfold Wrote
          rw [HTK.out, bodyC_snoc, ht, Option.getD_some, ← List.append_assoc]
          rcases HW.out with hw | ⟨hw1, hw2⟩
          · rcases h with ⟨rfl, h2⟩ | ⟨rfl, h2⟩
            · exact .inl (by rw [hw])
            · exact .inr ⟨h2, by rw [← hw, List.length_append]; omega⟩
          · rcases h with ⟨rfl, h2⟩ | ⟨rfl, h2⟩
            · omega
            · exact .inr ⟨h2, by rw [List.length_append]; omega⟩
        have hA2 : Hid ((l.take (j + 1)).any (fun x => (textC x).isNone) = false) := by
          show _ = _
          rw [HTK.out, List.any_append, HA.out]
          simp [ht]
        have hz2 : (mkS t).size ≤ 200130 := by rw [mkS_size]; omega
        have hfin : Hid (mkS t ++ ⟨#[10]⟩ = mkS (t ++ [10])) := by show _ = _; rw [← mkS_app]; rfl
        clear ht HA
        simp only [Option.getD_some, Option.isSome_some]
        by_cases hlong : bs.length ≤ 65536
        · have hlz : (bs.length : Int) ≤ 65536 := by omega
          have HW2 := Lib.hid (hWs.out _ (.inl ⟨rfl, hlong⟩))
          clear hlong hWs
          go_wp2_with (go_at_call 34; refine (pr_len HS3.out).mono ?_; rintro e w4 ⟨rfl, rfl⟩)
          rw [hfin.out]
          refine (pr_write HS3.out _ (by simp; omega)).mono ?_
          rintro e w5 ⟨rfl, hPS5⟩
          have HP5 := Lib.hid hPS5; clear hPS5
          go_wp2_with fail
          go_roundw
          case rel => exact ⟨j + 1, _, by go_num, by omega, by simp; omega, HW2, hA2, HP5⟩
          case measure => simp [intOf]; omega
        · have hlz : (65536 : Int) < (bs.length : Int) := by omega
          have HW2 := Lib.hid (hWs.out _ (.inr ⟨rfl, by omega⟩))
          clear hlong hWs
          go_wp2_with (go_at_call 34; refine (pr_len HS3.out).mono ?_; rintro e w4 ⟨rfl, rfl⟩)
          go_roundw
          case rel => exact ⟨j + 1, bs, by go_num, by omega, by omega, HW2, hA2, HS3⟩
          case measure => simp [intOf]; omega
    · obtain rfl : j = l.length := by omega
      rw [List.take_length] at HW HA
      have hR : Hid (printC [k, m, b, o] l = if 65536 < bs.length ∨ 2000 ≤ l.length then ([], 3) else (bs, 0)) := by
        show _ = _
        unfold printC
        rw [HA.out, if_neg (by simp)]
        rcases HW.out with hw | ⟨hw1, hw2⟩
        · rw [hw]
        · rw [if_pos (.inl hw2), if_pos (.inl hw1)]
      clear HW HA hj hlt
      by_cases h1 : 65536 < bs.length
      · have hlz : (65536 : Int) < (bs.length : Int) := by omega
        rw [if_pos (.inl h1)] at hR
        clear h1
        go_wp2_with (go_at_call 34; refine (pr_len HS.out).mono ?_; rintro e w4 ⟨rfl, rfl⟩)
        go_ret2
        exact ⟨by rw [hR.out]; rfl, HS.out.b⟩
      · have hlz : (bs.length : Int) ≤ 65536 := by omega
        have hlz2 : decide ((65536 : Int) < (bs.length : Int)) = false := decide_eq_false (by omega)
        by_cases h2 : 2000 ≤ l.length
        · have hl2 : (2000 : Int) ≤ (l.length : Int) := by omega
          rw [if_pos (.inr h2)] at hR
          clear h1 h2
          go_wp2_with (go_at_call 34; refine (pr_len HS.out).mono ?_; rintro e w4 ⟨rfl, rfl⟩)
          go_ret2
          exact ⟨by rw [hR.out]; rfl, HS.out.b⟩
        · have hl2 : (l.length : Int) < 2000 := by omega
          have hl3 : decide ((2000 : Int) ≤ (l.length : Int)) = false := decide_eq_false (by omega)
          rw [if_neg (by omega)] at hR
          clear h1 h2
          go_wp2_with (first | (go_at_call 34; refine (pr_len HS.out).mono ?_; rintro e w4 ⟨rfl, rfl⟩) | (go_at_call 35; refine (pr_string HS.out).mono ?_; rintro e w5 ⟨rfl, hb5⟩))
          go_ret2
          exact ⟨by rw [hR.out]; rfl, hb5⟩
end Go.Proofs.YtghllfihmmlcnaaDoor
