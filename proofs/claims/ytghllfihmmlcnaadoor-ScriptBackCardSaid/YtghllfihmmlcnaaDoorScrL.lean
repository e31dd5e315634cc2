/- shape of package script: the first line read. -/
import Derived.Test.YtghllfihmmlcnaaDoorScrK
import Derived.RegionTactic
import Derived.BigRegion
import Derived.ChangeAlike
namespace Go.Proofs.YtghllfihmmlcnaaDoor
open Go.RowKit Nam YtghllfihmmlcnaaDoorW.PrintWords

def mapN : List (List UInt8) → Option (List Int)
  | [] => some []
  | a :: r => (numOf a).bind fun n => (mapN r).map (n :: ·)
/-- The array of a line: K, M, Block, the room of a disk. -/
def shapeC (s : List UInt8) : Option (List Int) :=
  if (splitB 32 s).length = 5 ∧ (splitB 32 s).headD [] = [97, 114, 114, 97, 121] then mapN (splitB 32 s).tail else none
def ShapeIs (l : List UInt8) (w : World) (e : Ending) (w' : World) : Prop :=
  (∃ k m b o : Int, e = .returned (.tuple #[.agg #[.int .i64 k, .int .i64 m, .int .i64 b], .int .i64 o, .bool (shapeC l).isSome]) ∧ (∀ z, shapeC l = some z → [k, m, b, o] = z)) ∧ Below w.heap.size w w'
theorem shape_none {l : List UInt8} {w w' : World} (h : shapeC l = none) (hb : Below w.heap.size w w') : ShapeIs l w (.returned (.tuple #[.agg #[.int .i64 0, .int .i64 0, .int .i64 0], .int .i64 0, .bool false])) w' :=
  ⟨⟨0, 0, 0, 0, by rw [h]; rfl, (fun z hz => by rw [h] at hz; cases hz)⟩, hb⟩
theorem shape_some {l : List UInt8} {w w' : World} {k m b o : Int} (h : shapeC l = some [k, m, b, o]) (hb : Below w.heap.size w w') : ShapeIs l w (.returned (.tuple #[.agg #[.int .i64 k, .int .i64 m, .int .i64 b], .int .i64 o, .bool true])) w' :=
  ⟨⟨k, m, b, o, by rw [h]; rfl, (fun z hz => by rw [h] at hz; injection hz)⟩, hb⟩
theorem mapN_some : ∀ (ws : List (List UInt8)) (ns : List Int), mapN ws = some ns → ns.length = ws.length
  | [], ns, h => by simp only [mapN, Option.some.injEq] at h; subst h; rfl
  | a :: r, ns, h => by
    simp only [mapN] at h
    cases ha : numOf a with
    | none => rw [ha] at h; cases h
    | some n =>
      rw [ha] at h
      simp only [Option.bind_some] at h
      cases hr : mapN r with
      | none => rw [hr] at h; cases h
      | some m =>
        rw [hr] at h
        simp only [Option.map_some, Option.some.injEq] at h
        subst h
        simp [mapN_some r m hr]

theorem three_all (a b c : Int) : ((#[.int .i64 a, .int .i64 b, .int .i64 c] : Array Value).all fun x => x.oneCell') = true := by simp [Value.oneCell']
structure ShSt (w : World) (ws : List (List UInt8)) (lv : Value) (acc : List Int) (nv : Value) (wr : World) : Prop where
  b : Below w.heap.size w wr
  r : wr.heap[w.heap.size]? = some (.cells #[.int .i64 0, .int .i64 0, .int .i64 0] 26 (0, 0))
  s : Kd.R Kd.string 9 wr w.heap.size (fun k => w.heap.size < k) lv (ws.map mkS)
  n : Kd.R (Kd.int .i64) 3 wr w.heap.size (fun k => w.heap.size < k ∧ some k ≠ lv.ownBlock) nv acc
theorem ShSt.below {w : World} {ws : List (List UInt8)} {lv : Value} {acc : List Int} {nv : Value} {wr w2 : World} (h : ShSt w ws lv acc nv wr) (hb : Below wr.heap.size wr w2) : ShSt w ws lv acc nv w2 :=
  ⟨h.b.trans (hb.mono h.b.size), blk_below h.r hb, Kd.R_below h.s hb, Kd.R_below h.n hb⟩

theorem info3 : (Tryd.prog.info? 3).map (fun i => (i.zero, i.size, i.bytes)) = some (some (.int .i64 0), 1, 8) := by kernel_rfl
theorem fresh_ok {w w2 : World} {o : Obj} {v : Value} {ok : Nat → Prop} {base : Nat} {E : List Nat} (h : w2.heap[w.heap.size]? = some o) (hv : ∀ k, v.ownBlock = some k → ok k ∧ base ≤ k ∧ k < w2.heap.size ∧ ∃ q, q ∈ E ∧ ∃ cells, w2.heap[k]? = some (.cells cells q (0, 0))) :
    ∀ k, w2.heap.size ≤ k → w.heap.size < k ∧ some k ≠ v.ownBlock := by
  intro k hk
  have := blk_lt h
  exact ⟨by omega, fun e => by have := (hv k e.symm).2.2.1; omega⟩

set_option maxHeartbeats 2000000 in
set_option maxRecDepth 100000 in
theorem shape_is (l : List UInt8) (w : World) (hs : l.length ≤ 20000) (hE : Env w) : Calls Tryd.prog 25 #[.string (mkS l)] w (ShapeIs l w) := by
  have HE := Lib.hid hE; clear hE
  obtain ⟨ws, hws⟩ : ∃ ws, splitB 32 l = ws := ⟨_, rfl⟩
  obtain ⟨h0, hh0⟩ : ∃ h0, ws.headD [] = h0 := ⟨_, rfl⟩
  have hSC : Hid (shapeC l = if ws.length = 5 ∧ h0 = [97, 114, 114, 97, 121] then mapN ws.tail else none) := by
    show _ = _
    unfold shapeC
    rw [hws, hh0]
  have hne : 0 < ws.length := by rw [← hws]; exact List.length_pos_iff.2 (splitB_ne 32 l)
  have HWL : Hid (∀ x ∈ ws, x.length ≤ l.length) := by
    intro x hx
    exact split_le 32 l x (by rw [hws]; exact hx)
  have HC := fun W => cut_is l 32 (by decide) W (by omega)
  rw [hws] at HC
  have HCU := Lib.hid HC; clear HC
  have HWS := Lib.hid hws; clear hws
  have HH0 := Lib.hid hh0; clear hh0
  obtain ⟨o0, ho0⟩ : ∃ o0, Obj.cells #[.int .i64 0, .int .i64 0, .int .i64 0] 26 (0, 0) = o0 := ⟨_, rfl⟩
  have hk0 : (w.alloc o0).heap[w.heap.size]? = some o0 := blk_new w o0
  have hb0 : Below w.heap.size w (w.alloc o0) := (Below.refl _ _).alloc (Nat.le_refl _) _
  rw [← ho0] at hk0 hb0
  clear ho0 o0
  have HK0 := Lib.hid hk0; clear hk0
  have HB0 := Lib.hid hb0; clear hb0
  go_enter Tryd.func25, Tryd.ntmps25
  go_wp2_with fail
  refine (HCU.out _).mono ?_
  rintro e w1 ⟨⟨lv, rfl, hR1⟩, hb1⟩
  obtain ⟨g0, cap0, rfl, hg0, hg1, -⟩ := Kd.R_form hR1 (by rw [List.length_map]; exact hne)
  rw [List.length_map] at hR1 ⊢
  have hcap : ws.length ≤ cap0 := by have := (Kd.R_reads' hR1).2.1; exact this
  have hS : Hid (ShSt w ws (.slice (some ⟨g0, 0, none⟩) ws.length cap0) [] (.slice none 0 0) w1) := ⟨HB0.out.trans (hb1.mono (by simp)), blk_below HK0.out hb1, Kd.R_mono (Kd.R_lower hR1 (by simp)) (fun k hk => by simp at hk; omega), Kd.R_nil _ _ _ _ _⟩
  have hc0 : w1.cell? ⟨g0, 0, none⟩ = some (.string (mkS h0)) := by
    obtain ⟨ad, hA, hcell⟩ := Kd.at_string (Kd.R_reads' hS.out.s).2.2 0 (by omega) (by rw [List.length_map]; omega)
    injection hA with hA
    subst hA
    rw [show rdOf ByteArray.empty (ws.map mkS) 0 = mkS h0 by rw [← HH0.out]; cases ws with | nil => simp at hne | cons a t => rfl] at hcell
    exact hcell
  have hnez : (0 : Int) < (ws.length : Int) := by omega
  clear hR1 hb1
  by_cases hm : ws.length = 5 ∧ h0 = [97, 114, 114, 97, 121]
  · rw [if_pos hm] at hSC
    obtain ⟨h5, hh⟩ := hm
    have e3 : ((mkS h0).toList == [97, 114, 114, 97, 121]) = true := by
      rw [ByteArray.toList_eq, mkS_list]; simpa using hh
    have e4 : ((mkS h0).toList != [97, 114, 114, 97, 121]) = false := by rw [bne, e3]; rfl
    have e5 : (mkS h0).toList = [97, 114, 114, 97, 121] := by rw [ByteArray.toList_eq, mkS_list]; exact hh
    rw [h5] at hS hcap ⊢
    have H5 := Lib.hid h5; clear h5 hh hnez
    have HMN : Hid ((mapN (ws.drop (0 + 1))).map ([] ++ ·) = shapeC l) := by
      show _ = _
      rw [hSC.out, Nat.zero_add, List.drop_one]
      cases mapN ws.tail <;> rfl
    have hcap1 : ¬ cap0 = 1 := by omega
    go_wp2_with fail
    clear e3 e4 e5 hc0
    go_loopw [6, 26] (fun vn vi wr => ∃ (k : Nat) (acc : List Int) (nv : Value), nv = vn ∧ vi = .int .i64 k ∧ k ≤ 4 ∧ acc.length = k ∧ Hid ((mapN (ws.drop (k + 1))).map (acc ++ ·) = shapeC l) ∧ Hid (ShSt w ws (.slice (some ⟨g0, 0, none⟩) 5 cap0) acc nv wr)) (fun _ vi _ => 4 - (intOf vi).toNat)
    case atStart => exact ⟨0, [], _, rfl, rfl, by omega, rfl, HMN, hS⟩
    case round =>
      clear HMN hS
      obtain ⟨k, acc, nv, hnv, rfl, hk, hal, HM, HS⟩ := hrel
      subst hnv
      by_cases hlt : k < 4
      · have hltz : (k : Int) < 4 := by omega
        have h5 := H5.out
        obtain ⟨x, hx⟩ : ∃ x, ws[k + 1]'(by omega) = x := ⟨_, rfl⟩
        have hcw : wr.cell? ⟨g0, 1 + k, none⟩ = some (.string (mkS x)) := by
          obtain ⟨ad, hA, hcell⟩ := Kd.at_string (Kd.R_reads' HS.out.s).2.2 ((1 + k : Nat) : Int) (by omega) (by rw [List.length_map]; omega)
          injection hA with hA
          subst hA
          rw [Int.toNat_natCast, add_plain] at hcell
          rw [hcell]
          unfold rdOf
          rw [Int.toNat_natCast, List.getD_eq_getElem?_getD, List.getElem?_map, Nat.add_comm 1 k, List.getElem?_eq_getElem (show k + 1 < ws.length by omega), hx]
          rfl
        have hxl : x.length ≤ l.length := by rw [← hx]; exact HWL.out _ (List.getElem_mem _)
        have hm := HM.out
        rw [List.drop_eq_getElem_cons (show k + 1 < ws.length by omega), hx, mapN] at hm
        have HM2 := Lib.hid hm; clear hm hx HM h5
        go_wp2_with fail
        refine (preadnumber_is x wr (by omega) (HE.out.below HS.out.b)).mono ?_
        rintro e w2 ⟨⟨n, rfl, hn, -, -⟩, hb2⟩
        have HS2 := Lib.hid (HS.out.below hb2)
        clear hb2 HS hcw
        cases hnum : numOf x with
        | none =>
          have hR0 : Hid (shapeC l = none) := by
            show _ = _
            rw [← HM2.out, hnum]
            rfl
          clear hn hnum HM2
          go_wp2_with (refine wpList_store_row rfl 26 (.tmp 2) (.tmp 37) rfl w.heap.size #[.int .i64 0, .int .i64 0, .int .i64 0] rfl rfl 26 _ HS2.out.r (by kernel_rfl) rfl (three_all _ _ _) ?_)
          refine bodyPost_ret (results_ctt rfl _ _ w.heap.size 26 #[.int .i64 0, .int .i64 0, .int .i64 0] (0, 0) _ rfl (setRow_heap _ _ _ _ _ _ HS2.out.r) Tryd.underlying26 rfl (by kernel_rfl)) rfl ?_
          exact shape_none hR0.out (below_setRow HS2.out.b (Nat.le_refl _) _)
        | some n2 =>
          obtain rfl := hn _ hnum
          have HM3 : Hid ((mapN (ws.drop (k + 1 + 1))).map ((acc ++ [n]) ++ ·) = shapeC l) := by
            show _ = _
            rw [← HM2.out, hnum]
            cases mapN (ws.drop (k + 1 + 1)) with
            | none => rfl
            | some m => simp
          clear hn hnum HM2
          go_wp2_with (at_builtin; refine Kd.R_append (Kd.int .i64) (w0 := w) w.heap.size rfl (.tmp 38) (.tmp 40) 67 3 (.int .i64 0) 8 rfl Tryd.underlying67 info3 rfl (by decide) (by omega) nv acc n [.int .i64 n] (fun k => w.heap.size < k ∧ some k ≠ (Value.slice (some ⟨g0, 0, none⟩) 5 cap0).ownBlock) (fun _ => False) rfl rfl rfl (fun _ hk => hk.elim) (fresh_ok HS2.out.r (Kd.R_bound HS2.out.s).1) HS2.out.n HS2.out.b HS2.out.b.size (by omega) ?_; intro v1 w3 hR3 hb3 hg3 hat3)
          have HS3 : Hid (ShSt w ws (.slice (some ⟨g0, 0, none⟩) 5 cap0) (acc ++ [n]) v1 w3) :=
            ⟨hb3, blk_grown HS2.out.r hg3 (fun e => by have := (HS2.out.n.1 _ e.symm).1; omega), Kd.R_grown2 HS2.out.s rfl hg3 (fun j hj e => (HS2.out.n.1 j hj).2 e), hR3⟩
          clear hR3 hb3 hg3 hat3 HS2
          go_wp2_with fail
          go_roundw
          case rel => exact ⟨k + 1, acc ++ [n], v1, rfl, by go_num, by omega, by simp [hal], HM3, HS3⟩
          case measure => simp [intOf]; omega
      · obtain rfl : k = 4 := by omega
        have hR0 : Hid (shapeC l = some acc) := by
          have h5 := H5.out
          show _ = _
          rw [← HM.out, List.drop_eq_nil_of_le (by omega)]
          simp [mapN]
        match acc, hal with
        | [i0, i1, i2, i3], _ =>
        obtain ⟨gn, capn, rfl, hgn, hgn2, -⟩ := Kd.R_form HS.out.n (by simp)
        have hcell : ∀ (j : Nat) (z : Int), [i0, i1, i2, i3][j]? = some z → wr.cell? ⟨gn, j, none⟩ = some (.int .i64 z) := by
          intro j z hz
          have hj : j < 4 := (List.getElem?_eq_some_iff.1 hz).1
          obtain ⟨ad, hA, hcell⟩ := Kd.at_int (Kd.R_reads' HS.out.n).2.2 (j : Int) (by omega) (by simp; omega)
          injection hA with hA
          subst hA
          rw [Int.toNat_natCast, add_plain] at hcell
          rw [hcell]
          unfold rd
          rw [Int.toNat_natCast, List.getD_eq_getElem?_getD, hz]
          rfl
        have n0 := hcell 0 i0 rfl
        have n1 := hcell 1 i1 rfl
        have n2 := hcell 2 i2 rfl
        have n3 := hcell 3 i3 rfl
        have z0 := (blk_cell HS.out.r 0).trans (rfl : _ = some (Value.int .i64 0))
        have z1 := (blk_cell HS.out.r 1).trans (rfl : _ = some (Value.int .i64 0))
        have z2 := (blk_cell HS.out.r 2).trans (rfl : _ = some (Value.int .i64 0))
        have q0 := blk_frozen HS.out.r 0
        have q1 := blk_frozen HS.out.r 1
        have q2 := blk_frozen HS.out.r 2
        have hgne : gn ≠ w.heap.size := by have := (HS.out.n.1 gn rfl).1; omega
        clear hcell HM
        go_wp2_with fail
        go_region
        go_wp2
        refine bodyPost_ret (results_ctt rfl _ _ w.heap.size 26 #[.int .i64 i0, .int .i64 i1, .int .i64 i2] (0, 0) _ rfl (blk_drew (blk_put (blk_put (blk_put HS.out.r 0 _ rfl) 1 _ rfl) 2 _ rfl)) Tryd.underlying26 rfl (by kernel_rfl)) rfl ?_
        exact shape_some hR0.out ((((HS.out.b.setCell (p := ⟨w.heap.size, 0, none⟩) (Nat.le_refl _) _).setCell (p := ⟨w.heap.size, 1, none⟩) (Nat.le_refl _) _).setCell (p := ⟨w.heap.size, 2, none⟩) (Nat.le_refl _) _).drew)
  · rw [if_neg hm] at hSC
    by_cases h5 : ws.length = 5
    · have e1 : ((ws.length : Int) == 5) = true := by rw [beq_iff_eq]; omega
      have e2 : ((ws.length : Int) != 5) = false := by rw [bne, e1]; rfl
      have hh : h0 ≠ [97, 114, 114, 97, 121] := fun e => hm ⟨h5, e⟩
      have e3 : ((mkS h0).toList == [97, 114, 114, 97, 121]) = false := by
        rw [ByteArray.toList_eq, mkS_list]; simpa using hh
      have e4 : ((mkS h0).toList != [97, 114, 114, 97, 121]) = true := by rw [bne, e3]; rfl
      have e5 : (mkS h0).toList ≠ [97, 114, 114, 97, 121] := by rw [ByteArray.toList_eq, mkS_list]; exact hh
      clear hh hm h5
      go_wp2_with (refine wpList_store_row rfl 26 (.tmp 2) (.tmp 22) rfl w.heap.size #[.int .i64 0, .int .i64 0, .int .i64 0] rfl rfl 26 _ hS.out.r (by kernel_rfl) rfl (three_all _ _ _) ?_)
      refine bodyPost_ret (results_ctt rfl _ _ w.heap.size 26 #[.int .i64 0, .int .i64 0, .int .i64 0] (0, 0) _ rfl (setRow_heap _ _ _ _ _ _ hS.out.r) Tryd.underlying26 rfl (by kernel_rfl)) rfl ?_
      exact shape_none hSC.out (below_setRow hS.out.b (Nat.le_refl _) _)
    · have e1 : ((ws.length : Int) == 5) = false := by rw [beq_eq_false_iff_ne]; omega
      have e2 : ((ws.length : Int) != 5) = true := by rw [bne, e1]; rfl
      clear hm h5
      go_wp2_with (refine wpList_store_row rfl 26 (.tmp 2) (.tmp 22) rfl w.heap.size #[.int .i64 0, .int .i64 0, .int .i64 0] rfl rfl 26 _ hS.out.r (by kernel_rfl) rfl (three_all _ _ _) ?_)
      refine bodyPost_ret (results_ctt rfl _ _ w.heap.size 26 #[.int .i64 0, .int .i64 0, .int .i64 0] (0, 0) _ rfl (setRow_heap _ _ _ _ _ _ hS.out.r) Tryd.underlying26 rfl (by kernel_rfl)) rfl ?_
      exact shape_none hSC.out (below_setRow hS.out.b (Nat.le_refl _) _)
end Go.Proofs.YtghllfihmmlcnaaDoor
