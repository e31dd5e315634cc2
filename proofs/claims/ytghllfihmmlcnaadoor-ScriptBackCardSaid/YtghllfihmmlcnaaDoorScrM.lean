/- Parse of package script: what a text says. -/
import Derived.Test.YtghllfihmmlcnaaDoorScrL
namespace Go.Proofs.YtghllfihmmlcnaaDoor
open Go.RowKit Nam YtghllfihmmlcnaaDoorW.PrintWords

/-- What a text says: the array and the room of a disk; the choices; the line that is none; the error. -/
structure PR where
  h : List Int
  l : List Ch
  at_ : Nat
  e : Int
deriving DecidableEq
def PR.no (n : Nat) (e : Int) : PR := ⟨[0, 0, 0, 0], [], n, e⟩
/-- Lines read one behind the other; the first that is none. -/
def readL (i : Nat) (h : List Int) (acc : List Ch) : List (List UInt8) → Nat ⊕ (List Int × List Ch)
  | [] => .inr (h, acc)
  | a :: r => if i = 0 then (match shapeC a with
      | none => .inl i
      | some h => readL (i + 1) h acc r)
    else (match choiceC a with
      | none => .inl i
      | some c => readL (i + 1) h (acc ++ [c]) r)
def parseL (L : List (List UInt8)) (last : List UInt8) : PR :=
  match readL 0 [0, 0, 0, 0] [] L with
  | .inl i => .no (i + 1) 19
  | .inr (h, l) => if L = [] ∨ last ≠ [] then .no (L.length + 1) 19 else ⟨h, l, 0, 0⟩
def parseC (s : List UInt8) : PR :=
  if 65536 < s.length ∨ 2000 < (splitB 10 s).length - 1 + (if (splitB 10 s).getLastD [] = [] then 0 else 1) then .no 0 3
  else parseL (splitB 10 s).dropLast ((splitB 10 s).getLastD [])

def ParseIs (s : List UInt8) (w : World) (e : Ending) (w' : World) : Prop :=
  (∃ (k m b o : Int) (v : Value), e = .returned (.tuple #[.agg #[.int .i64 k, .int .i64 m, .int .i64 b], .int .i64 o, v, .int .i64 ((parseC s).at_ : Int), .int .i64 (parseC s).e]) ∧ (parseC s).h = [k, m, b, o] ∧ Kd.N kCh 44 w' w.heap.size (fun k => w.heap.size ≤ k) v (parseC s).l ∧ (∀ c ∈ (parseC s).l, c.Ok 20000)) ∧ Below w.heap.size w w'
theorem parse_none {s : List UInt8} {w w' : World} {n : Nat} {e : Int} (h : parseC s = .no n e) (hb : Below w.heap.size w w') :
    ParseIs s w (.returned (.tuple #[.agg #[.int .i64 0, .int .i64 0, .int .i64 0], .int .i64 0, .slice none 0 0, .int .i64 (n : Int), .int .i64 e])) w' :=
  ⟨⟨0, 0, 0, 0, .slice none 0 0, by rw [h]; rfl, by rw [h]; rfl, by rw [h]; exact Kd.N_nil _ _ _ _ _, by rw [h]; exact fun c hc => by cases hc⟩, hb⟩

theorem splitB_length (c : UInt8) : ∀ l : List UInt8, (splitB c l).length ≤ l.length + 1
  | [] => Nat.le_refl _
  | y :: t => by
    have ih := splitB_length c t
    rw [splitB_cons]
    split
    · simp only [List.length_cons]; omega
    · rw [List.length_modifyHead, List.length_cons]; omega

theorem results_c5 {P : Program} {fn : Func} {p u v x y : Tmp} {ty : TypeId} (h : fn.results = #[.cell p ty, .tmp u, .tmp v, .tmp x, .tmp y]) (tmps : Array Value) (w : World) (g : Nat) (t : TypeId) (cs : Array Value) (fr : Nat × Nat) (d : TypeDesc)
    (hp : tmps.getD p undef = .pointer (some ⟨g, 0, none⟩)) (hg : w.heap[g]? = some (.cells cs t fr))
    (hu : P.underlying ty = some d) (hd : (match d with | .struct _ | .array _ _ => true | _ => false) = true) (hi : (P.info? ty).map (·.size) = some cs.size) :
    (results fn tmps).run P w = .ok (.tuple #[.agg cs, tmps.getD u undef, tmps.getD v undef, tmps.getD x undef, tmps.getD y undef]) w := by
  have hp' : tmps[p]?.getD undef = .pointer (some ⟨g, 0, none⟩) := by simpa using hp
  simp [results, h, hp', asAddr, run_loadVar_row w g t ty cs fr d hg hu hd hi]

structure PaSt (w : World) (L : List (List UInt8)) (lv : Value) (gh : Nat) (i0 i1 i2 : Int) (acc : List Ch) (sv : Value) (wr : World) : Prop where
  b : Below w.heap.size w wr
  r : wr.heap[w.heap.size]? = some (.cells #[.int .i64 0, .int .i64 0, .int .i64 0] 26 (0, 0))
  s : Kd.R Kd.string 9 wr w.heap.size (fun j => w.heap.size < j ∧ j < gh) lv (L.map mkS)
  p : wr.heap[gh]? = some (.cells #[.int .i64 i0, .int .i64 i1, .int .i64 i2] 26 (0, 0))
  o : Kd.N kCh 44 wr w.heap.size (fun j => gh < j) sv acc
  k : ∀ c ∈ acc, c.Ok 20000
theorem PaSt.below {w : World} {L : List (List UInt8)} {lv : Value} {gh : Nat} {k m b : Int} {acc : List Ch} {sv : Value} {wr w2 : World} (h : PaSt w L lv gh k m b acc sv wr) (hb : Below wr.heap.size wr w2) : PaSt w L lv gh k m b acc sv w2 :=
  ⟨h.b.trans (hb.mono h.b.size), blk_below h.r hb, Kd.R_below h.s hb, blk_below h.p hb, Kd.N_below h.o hb, h.k⟩

theorem PaSt.shape {w : World} {L : List (List UInt8)} {lv : Value} {gh : Nat} {i0 i1 i2 : Int} {acc : List Ch} {sv : Value} {wr : World} (h : PaSt w L lv gh i0 i1 i2 acc sv wr) (hgo : w.heap.size < gh) (j0 j1 j2 : Int) : PaSt w L lv gh j0 j1 j2 acc sv (wr.setRow gh #[.int .i64 j0, .int .i64 j1, .int .i64 j2]) :=
  ⟨below_setRow h.b (by omega) _, (setRow_other _ _ _ _ (by omega)).trans h.r, Kd.R_step h.s (fun j hj _ => setRow_other _ _ _ _ (by omega)), setRow_heap _ _ _ _ _ _ h.p, Kd.N_step h.o (fun j hj _ => setRow_other _ _ _ _ (by omega)), h.k⟩

theorem info44 : (Tryd.prog.info? 44).map (fun i => (i.zero, i.size, i.bytes)) = some (some (.agg (chCells (bareC 0) (.slice none 0 0)).toArray), 10, 128) := by kernel_rfl

set_option maxHeartbeats 4000000 in
set_option maxRecDepth 100000 in
theorem parse_is (s : List UInt8) (w : World) (hs : s.length ≤ 100000) (hll : ∀ x ∈ splitB 10 s, x.length ≤ 20000) (hE : Env w) : Calls Tryd.prog 11 #[.string (mkS s)] w (ParseIs s w) := by
  have HE := Lib.hid hE; clear hE
  obtain ⟨L, hL⟩ : ∃ L, splitB 10 s = L := ⟨_, rfl⟩
  obtain ⟨la, hla⟩ : ∃ la, L.getLastD [] = la := ⟨_, rfl⟩
  obtain ⟨n, hn⟩ : ∃ n, L.length = n + 1 := ⟨L.length - 1, by have := List.length_pos_iff.2 (splitB_ne 10 s); rw [hL] at this; omega⟩
  obtain ⟨F, hF⟩ : ∃ F, L.dropLast = F := ⟨_, rfl⟩
  have hFl : F.length = n := by rw [← hF, List.length_dropLast]; omega
  have hP : Hid (parseC s = if 65536 < s.length ∨ 2000 < n + (if la = [] then 0 else 1) then .no 0 3 else parseL F la) := by
    show _ = _
    unfold parseC
    rw [hL, hla, hF, hn, Nat.add_sub_cancel]
  rw [hL] at hll
  have HLL := Lib.hid hll; clear hll
  have hLF : L = F ++ [la] := by
    rw [← hF, ← hla]
    have hne : L ≠ [] := by rw [← hL]; exact splitB_ne 10 s
    rw [List.getLastD_eq_getLast?, List.getLast?_eq_some_getLast hne]
    simp [List.dropLast_concat_getLast]
  have HLF := Lib.hid hLF; clear hLF
  have HC := fun W => cut_is s 10 (by decide) W hs
  rw [hL] at HC
  have HCU := Lib.hid HC; clear HC
  have hnb : n ≤ 100000 := by have := splitB_length 10 s; rw [hL] at this; omega
  clear hL hla hF
  obtain ⟨o0, ho0⟩ : ∃ o0, Obj.cells #[.int .i64 0, .int .i64 0, .int .i64 0] 26 (0, 0) = o0 := ⟨_, rfl⟩
  have hk0 : (w.alloc o0).heap[w.heap.size]? = some o0 := blk_new w o0
  have hb0 : Below w.heap.size w (w.alloc o0) := (Below.refl _ _).alloc (Nat.le_refl _) _
  rw [← ho0] at hk0 hb0
  clear ho0 o0
  have HK0 := Lib.hid hk0; clear hk0
  have HB0 := Lib.hid hb0; clear hb0
  have hsz : (mkS s).size ≤ 100000 := by rw [mkS_size]; exact hs
  go_enter Tryd.func11, Tryd.ntmps11
  go_wp2_with fail
  refine (HCU.out _).mono ?_
  rintro e w1 ⟨⟨lv, rfl, hR1⟩, hb1⟩
  obtain ⟨g0, cap0, rfl, hg0, hg1, -⟩ := Kd.R_form hR1 (by rw [List.length_map]; omega)
  rw [List.length_map, hn] at hR1 ⊢
  have hcap : n + 1 ≤ cap0 := by have := (Kd.R_reads' hR1).2.1; exact this
  have hlc : w1.cell? ⟨g0, n, none⟩ = some (.string (mkS la)) := by
    obtain ⟨ad, hA, hcell⟩ := Kd.at_string (Kd.R_reads' hR1).2.2 (n : Int) (by omega) (by rw [List.length_map]; omega)
    injection hA with hA
    subst hA
    rw [Int.toNat_natCast, add_plain] at hcell
    rw [hcell]
    unfold rdOf
    rw [Int.toNat_natCast, List.getD_eq_getElem?_getD, List.getElem?_map, HLF.out, List.getElem?_append_right (by omega), hFl, Nat.sub_self]
    rfl
  have hr0 := blk_below HK0.out hb1
  have HR0 := Lib.hid hr0; clear hr0
  have HR1 := Lib.hid hR1; clear hR1
  have hw1 : w.heap.size < w1.heap.size := by have := hb1.size; simp at this; omega
  have HB1 := Lib.hid (HB0.out.trans (hb1.mono (by simp)))
  have HN := Lib.hid hn; clear hn
  have HFL := Lib.hid hFl; clear hFl
  clear hb1
  obtain ⟨B, hB⟩ : ∃ B, (mkS la).toList.isEmpty = B := ⟨_, rfl⟩
  have HBL : Hid (B = decide (la = [])) := by show _ = _; rw [← hB, isEmpty_mkS]
  go_upto_if 27 with (fail)
  go_cut [9] (fun v9 wx => ∃ q : Nat, v9 = .int .i64 q ∧ q ≤ 100001 ∧ Hid (q = n + (if la = [] then 0 else 1)) ∧ wx = w1)
  case first =>
    cases B
    · have hla : la ≠ [] := of_decide_eq_false HBL.out.symm
      have HLA := Lib.hid hla; clear hla
      go_wp2_with fail
      go_meet
      case rel => exact ⟨n + 1, by go_num, by omega, by show _ = _; rw [if_neg HLA.out], rfl⟩
    · have hla : la = [] := of_decide_eq_true HBL.out.symm
      have HLA := Lib.hid hla; clear hla
      go_wp2_with fail
      go_meet
      case rel => exact ⟨n, rfl, by omega, by show _ = _; rw [if_pos HLA.out]; rfl, rfl⟩
  case rest =>
  obtain ⟨q, rfl, hq, HQ, rfl⟩ := hcut
  by_cases hlong : 65536 < s.length ∨ 2000 < q
  · rw [← HQ.out, if_pos hlong] at hP
    have hlz : (65536 : Int) < ((mkS s).size : Int) ∨ (((mkS s).size : Int) ≤ 65536 ∧ (2000 : Int) < (q : Int)) := by rw [mkS_size]; omega
    clear hlong
    rcases hlz with h1 | ⟨h1, h2⟩
    all_goals
      go_wp2_with (refine wpList_store_row rfl 26 (.tmp 2) (.tmp 37) rfl w.heap.size #[.int .i64 0, .int .i64 0, .int .i64 0] rfl rfl 26 _ HR0.out (by kernel_rfl) rfl (three_all _ _ _) ?_)
      refine bodyPost_ret (results_c5 rfl _ _ w.heap.size 26 #[.int .i64 0, .int .i64 0, .int .i64 0] (0, 0) _ rfl (setRow_heap _ _ _ _ _ _ HR0.out) Tryd.underlying26 rfl (by kernel_rfl)) rfl ?_
      exact parse_none (n := 0) hP.out (below_setRow HB1.out (Nat.le_refl _) _)
  · rw [← HQ.out, if_neg hlong] at hP
    have h1 : ((mkS s).size : Int) ≤ 65536 := by rw [mkS_size]; omega
    have h2 : (q : Int) ≤ 2000 := by omega
    have h2b : decide ((2000 : Int) < (q : Int)) = false := decide_eq_false (by omega)
    clear hlong HQ
    obtain ⟨o1, ho1⟩ : ∃ o1, Obj.cells #[.int .i64 0, .int .i64 0, .int .i64 0] 26 (0, 0) = o1 := ⟨_, rfl⟩
    obtain ⟨gh, hgh⟩ : ∃ gh, wc.heap.size = gh := ⟨_, rfl⟩
    have hb12 : Below wc.heap.size wc (wc.alloc o1) := (Below.refl _ _).alloc (Nat.le_refl _) _
    have hgo : w.heap.size < gh := by have := blk_lt HR0.out; omega
    have ST : Hid (PaSt w L (.slice (some ⟨g0, 0, none⟩) (n + 1) cap0) gh 0 0 0 [] (.slice none 0 0) (wc.alloc o1)) :=
      ⟨HB1.out.trans (hb12.mono HB1.out.size), blk_below HR0.out hb12, Kd.R_mono (Kd.R_below (Kd.R_bound (Kd.R_lower HR1.out (by simp))) hb12) (fun k hk => ⟨by have := hk.1; simp at this; omega, by have := hk.2.2.1; omega⟩), by rw [← hgh, blk_new wc o1, ← ho1], Kd.N_nil _ _ _ _ _, (fun c hc => by cases hc)⟩
    have HGH := Lib.hid hgh; clear hgh
    rw [← ho1] at ST
    clear ho1 hb12 HR1 HR0 HB1
    have HRE : Hid (readL 0 [0, 0, 0, 0] [] (F.drop 0) = readL 0 [0, 0, 0, 0] [] F) := by show _ = _; rw [List.drop_zero]
    obtain ⟨R, hR⟩ : ∃ R, readL 0 [0, 0, 0, 0] [] F = R := ⟨_, rfl⟩
    rw [hR] at HRE
    have HRR := Lib.hid hR; clear hR
    go_wp2_with fail
    rw [show wc.heap.size = gh from HGH.out]
    clear h2b hlc
    go_loopw [11, 12, 42] (fun vo vr vi wr => ∃ (k : Nat) (i0 i1 i2 i3 : Int) (acc : List Ch) (sv : Value), sv = vo ∧ vr = .int .i64 i3 ∧ vi = .int .i64 k ∧ k ≤ n ∧ acc.length ≤ k ∧ Hid (readL k [i0, i1, i2, i3] acc (F.drop k) = R) ∧ Hid (PaSt w L (.slice (some ⟨g0, 0, none⟩) (n + 1) cap0) gh i0 i1 i2 acc sv wr)) (fun _ _ vi _ => n - (intOf vi).toNat)
    case atStart => exact ⟨0, 0, 0, 0, 0, [], _, rfl, rfl, rfl, Nat.zero_le _, Nat.le_refl _, HRE, ST⟩
    case round =>
      clear ST HRE
      obtain ⟨k, i0, i1, i2, i3, acc, sv, hsv, rfl, rfl, hk, hal, HRE, HS⟩ := hrel
      subst hsv
      by_cases hlt : k < n
      · have hltz : (k : Int) < (n : Int) := by omega
        obtain ⟨x, hx⟩ : ∃ x, F[k]'(by rw [HFL.out]; omega) = x := ⟨_, rfl⟩
        have hLk : L[k]? = some x := by
          rw [HLF.out, List.getElem?_append_left (by rw [HFL.out]; omega), List.getElem?_eq_getElem (by rw [HFL.out]; omega), hx]
        have hcw : wr.cell? ⟨g0, k, none⟩ = some (.string (mkS x)) := by
          obtain ⟨ad, hA, hcell⟩ := Kd.at_string (Kd.R_reads' HS.out.s).2.2 (k : Int) (by omega) (by rw [List.length_map, HN.out]; omega)
          injection hA with hA
          subst hA
          rw [Int.toNat_natCast, add_plain] at hcell
          rw [hcell]
          unfold rdOf
          rw [Int.toNat_natCast, List.getD_eq_getElem?_getD, List.getElem?_map, hLk]
          rfl
        have hxl : x.length ≤ 20000 := HLL.out x (List.mem_of_getElem? hLk)
        have hre := HRE.out
        rw [List.drop_eq_getElem_cons (by rw [HFL.out]; omega), hx, readL] at hre
        have HR2 := Lib.hid hre; clear hre HRE hx hLk
        by_cases hk0 : k = 0
        · subst hk0
          have hacc : acc = [] := List.length_eq_zero_iff.1 (by omega)
          subst hacc
          go_wp2_with fail
          refine (shape_is x _ hxl (HE.out.below (HS.out.below ((Below.refl _ _).alloc (Nat.le_refl _) _)).b)).mono ?_
          rintro e w3 ⟨⟨j0, j1, j2, j3, rfl, hy⟩, hb3⟩
          have hb4 : Below wr.heap.size wr w3 := ((Below.refl _ _).alloc (Nat.le_refl _) _).trans (hb3.mono (by simp))
          have HS3 := Lib.hid (HS.out.below hb4)
          obtain ⟨W4, hW4⟩ : ∃ W4, w3.setRow gh #[.int .i64 j0, .int .i64 j1, .int .i64 j2] = W4 := ⟨_, rfl⟩
          have HS4 : Hid (PaSt w L (.slice (some ⟨g0, 0, none⟩) (n + 1) cap0) gh j0 j1 j2 [] sv W4) := by
            show PaSt _ _ _ _ _ _ _ _ _ _
            rw [← hW4]
            exact HS3.out.shape hgo _ _ _
          have HW4 := Lib.hid hW4; clear hW4
          clear hb3 hb4 hcw HS
          cases hch : shapeC x with
          | none =>
            have hR0 : Hid (parseC s = .no (0 + 1) 19) := by
              show _ = _
              have h2 := HR2.out
              rw [hch] at h2
              simp only [if_true] at h2
              rw [hP.out, parseL, HRR.out, ← h2]
            clear hch hy HR2
            go_wp2_with (first | (refine wpList_store_row rfl 26 (.tmp 10) (.tmp 52) rfl gh #[.int .i64 j0, .int .i64 j1, .int .i64 j2] rfl rfl 26 _ HS3.out.p (by kernel_rfl) rfl (three_all _ _ _) ?_; rw [HW4.out]) | (refine wpList_store_row rfl 26 (.tmp 2) (.tmp 67) rfl w.heap.size #[.int .i64 0, .int .i64 0, .int .i64 0] rfl rfl 26 _ HS4.out.r (by kernel_rfl) rfl (three_all _ _ _) ?_))
            refine bodyPost_ret (results_c5 rfl _ _ w.heap.size 26 #[.int .i64 0, .int .i64 0, .int .i64 0] (0, 0) _ rfl (setRow_heap _ _ _ _ _ _ HS4.out.r) Tryd.underlying26 rfl (by kernel_rfl)) rfl ?_
            exact parse_none hR0.out (below_setRow HS4.out.b (Nat.le_refl _) _)
          | some z =>
            have hz := hy _ hch
            have HR3 : Hid (readL (0 + 1) [j0, j1, j2, j3] [] (F.drop (0 + 1)) = R) := by
              show _ = _
              have h2 := HR2.out
              rw [hch] at h2
              simp only [if_true] at h2
              rw [hz]
              exact h2
            clear hch hy HR2 hz
            go_wp2_with (refine wpList_store_row rfl 26 (.tmp 10) (.tmp 52) rfl gh #[.int .i64 j0, .int .i64 j1, .int .i64 j2] rfl rfl 26 _ HS3.out.p (by kernel_rfl) rfl (three_all _ _ _) ?_; rw [HW4.out])
            go_roundw
            case rel => exact ⟨0 + 1, j0, j1, j2, j3, [], sv, rfl, rfl, by go_num, by omega, by simp, HR3, HS4⟩
            case measure => simp [intOf]; omega
        · have hkz : ((k : Int) == 0) = false := by rw [beq_eq_false_iff_ne]; omega
          rw [if_neg hk0] at HR2
          have hk1 : 1 ≤ k := by omega
          clear hk0
          go_wp2_with fail
          refine (choice_is x _ hxl (HE.out.below (HS.out.below ((Below.refl _ _).alloc (Nat.le_refl _) _)).b)).mono ?_
          rintro e w3 ⟨⟨y, v, rfl, hy, hdt, hok⟩, hb3⟩
          obtain ⟨Ay, cy, rfl, hly, hfy⟩ := hdt
          have hb4 : Below wr.heap.size wr w3 := ((Below.refl _ _).alloc (Nat.le_refl _) _).trans (hb3.mono (by simp))
          have hgc := blk_below (blk_new wr _) hb3
          obtain ⟨W4, hW4⟩ : ∃ W4, w3.setRow wr.heap.size (chCells y (.slice Ay (byN y.dt).length cy)).toArray = W4 := ⟨_, rfl⟩
          have hb14 : Below wr.heap.size wr W4 := by rw [← hW4]; exact below_setRow hb4 (Nat.le_refl _) _
          have hrow : W4.heap[wr.heap.size]? = some (.cells (chCells y (.slice Ay (byN y.dt).length cy)).toArray 44 (0, 0)) := by rw [← hW4]; exact setRow_heap _ _ _ _ _ _ hgc
          have hfy4 : Kd.F (Kd.int .u8) W4 (fun j => wr.heap.size + 1 ≤ j) Ay (byN y.dt).length (byN y.dt) := by
            rw [← hW4]
            exact Kd.F_mono (Kd.F_step hfy (fun j hj _ => setRow_other _ _ _ _ (by simp at hj; omega))) (fun j hj => by simp at hj; omega)
          have HS4 := Lib.hid (HS.out.below hb14)
          have hown : ∀ j, sv.ownBlock = some j → j < wr.heap.size := Kd.N_lt HS.out.o
          have HOW := Lib.hid hown; clear hown
          have HFY := Lib.hid hfy4; clear hfy4 hfy
          have HGC := Lib.hid hgc; clear hgc
          have HW4 := Lib.hid hW4; clear hW4
          have hgw : gh < wr.heap.size := blk_lt HS.out.p
          have hw4s : wr.heap.size ≤ W4.heap.size := hb14.size
          clear hb3 hb4 hb14 hcw
          cases hch : choiceC x with
          | none =>
            have hR0 : Hid (parseC s = .no (k + 1) 19) := by
              show _ = _
              have h2 := HR2.out
              rw [hch] at h2
              simp only [] at h2
              rw [hP.out, parseL, HRR.out, ← h2]
            clear hch hy HR2
            go_wp2_with (first | (refine wpList_store_row rfl 44 (.tmp 15) (.tmp 58) rfl wr.heap.size (chCells y (.slice Ay (byN y.dt).length cy)).toArray rfl rfl 44 _ HGC.out (by kernel_rfl) rfl (chCells_all _ _ _ _) ?_; rw [HW4.out]) | (refine wpList_store_row rfl 26 (.tmp 2) (.tmp 67) rfl w.heap.size #[.int .i64 0, .int .i64 0, .int .i64 0] rfl rfl 26 _ HS4.out.r (by kernel_rfl) rfl (three_all _ _ _) ?_))
            refine bodyPost_ret (results_c5 rfl _ _ w.heap.size 26 #[.int .i64 0, .int .i64 0, .int .i64 0] (0, 0) _ rfl (setRow_heap _ _ _ _ _ _ HS4.out.r) Tryd.underlying26 rfl (by kernel_rfl)) rfl ?_
            exact parse_none hR0.out (below_setRow HS4.out.b (Nat.le_refl _) _)
          | some z =>
            obtain rfl := hy _ hch
            have HR3 : Hid (readL (k + 1) [i0, i1, i2, i3] (acc ++ [y]) (F.drop (k + 1)) = R) := by
              show _ = _
              have h2 := HR2.out
              rw [hch] at h2
              exact h2
            clear hch hy HR2
            have hr4 := hrow
            unfold chCells at hr4
            have c0 := (blk_cell hr4 0).trans (rfl : _ = some (Value.int .i64 y.d))
            have c1 := (blk_cell hr4 1).trans (rfl : _ = some (Value.string (mkS y.bk)))
            have c2 := (blk_cell hr4 2).trans (rfl : _ = some (Value.string (mkS y.ky)))
            have c3 := (blk_cell hr4 3).trans (rfl : _ = some (Value.slice Ay (byN y.dt).length cy))
            have c4 := (blk_cell hr4 4).trans (rfl : _ = some (Value.int .i64 y.n))
            have c5 := (blk_cell hr4 5).trans (rfl : _ = some (Value.int .i64 y.a))
            have c6 := (blk_cell hr4 6).trans (rfl : _ = some (Value.string (mkS y.pf)))
            have c7 := (blk_cell hr4 7).trans (rfl : _ = some (Value.string (mkS y.fr)))
            have c8 := (blk_cell hr4 8).trans (rfl : _ = some (Value.int .i64 y.fi))
            have c9 := (blk_cell hr4 9).trans (rfl : _ = some (Value.int .i64 y.mo))
            have HRW := Lib.hid hrow; clear hrow hr4
            have HFK : Hid (Kd.FK kCh W4 (fun j => wr.heap.size + 1 ≤ j) y (chCells y (.slice Ay (byN y.dt).length cy))) := kCh_mkF ⟨Ay, cy, rfl, hly, HFY.out⟩
            go_wp2_with (first | (refine wpList_store_row rfl 44 (.tmp 15) (.tmp 58) rfl wr.heap.size (chCells y (.slice Ay (byN y.dt).length cy)).toArray rfl rfl 44 _ HGC.out (by kernel_rfl) rfl (chCells_all _ _ _ _) ?_; rw [HW4.out]) | (at_builtin; refine Kd.N_append kCh (w0 := w) w.heap.size rfl (.tmp 61) (.tmp 63) 30 44 (.agg (chCells (bareC 0) (.slice none 0 0)).toArray) 128 rfl Tryd.underlying30 info44 rfl (by decide) (by omega) sv acc y (chCells y (.slice Ay (byN y.dt).length cy)) (fun j => gh < j) (fun j => wr.heap.size + 1 ≤ j) rfl rfl HFK.out (fun j hj => ⟨by omega, fun e => by have := HOW.out j e.symm; omega⟩) (fun j hj => by omega) HS4.out.o HS4.out.b HS4.out.b.size (by omega) ?_; intro v1 w5 hN5 hb5 hg5 hat5))
            have HS5 : Hid (PaSt w L (.slice (some ⟨g0, 0, none⟩) (n + 1) cap0) gh i0 i1 i2 (acc ++ [y]) v1 w5) :=
              ⟨hb5, blk_grown HS4.out.r hg5 (fun e => by have := HS4.out.o.1 _ e.symm; omega), Kd.R_grown2 HS4.out.s rfl hg5 (fun j hj e => by have h1 := HS4.out.o.1 j hj; have h2 := (HS4.out.s.1 j e.symm).2; omega), blk_grown HS4.out.p hg5 (fun e => by have := HS4.out.o.1 _ e.symm; omega), hN5, fun c hc => by
                rcases List.mem_append.1 hc with hc | hc
                · exact HS4.out.k c hc
                · rw [List.mem_singleton.1 hc]; exact hok.mono hxl⟩
            clear hN5 hb5 hg5 hat5 c0 c1 c2 c3 c4 c5 c6 c7 c8 c9
            go_wp2_with fail
            go_roundw
            case rel => exact ⟨k + 1, i0, i1, i2, i3, acc ++ [y], v1, rfl, rfl, by go_num, by omega, by simp; omega, HR3, HS5⟩
            case measure => simp [intOf]; omega
      · obtain rfl : k = n := by omega
        have hlc : wr.cell? ⟨g0, k, none⟩ = some (.string (mkS la)) := by
          obtain ⟨ad, hA, hcell⟩ := Kd.at_string (Kd.R_reads' HS.out.s).2.2 (k : Int) (by omega) (by rw [List.length_map, HN.out]; omega)
          injection hA with hA
          subst hA
          rw [Int.toNat_natCast, add_plain] at hcell
          rw [hcell]
          unfold rdOf
          rw [Int.toNat_natCast, List.getD_eq_getElem?_getD, List.getElem?_map, HLF.out, List.getElem?_append_right (by rw [HFL.out]; omega), HFL.out, Nat.sub_self]
          rfl
        have hR0 : Hid (parseC s = if F = [] ∨ la ≠ [] then .no (k + 1) 19 else ⟨[i0, i1, i2, i3], acc, 0, 0⟩) := by
          show _ = _
          have h2 := HRE.out
          rw [List.drop_eq_nil_of_le (by rw [HFL.out]; omega), readL] at h2
          rw [hP.out, parseL, HRR.out, ← h2, HFL.out]
        clear HRE hlt
        by_cases hk0 : k = 0
        · subst hk0
          have hR1 : Hid (parseC s = .no (0 + 1) 19) := by
            show _ = _
            rw [hR0.out, if_pos (.inl (List.length_eq_zero_iff.1 HFL.out))]
          go_wp2_with (refine wpList_store_row rfl 26 (.tmp 2) (.tmp 80) rfl w.heap.size #[.int .i64 0, .int .i64 0, .int .i64 0] rfl rfl 26 _ HS.out.r (by kernel_rfl) rfl (three_all _ _ _) ?_)
          refine bodyPost_ret (results_c5 rfl _ _ w.heap.size 26 #[.int .i64 0, .int .i64 0, .int .i64 0] (0, 0) _ rfl (setRow_heap _ _ _ _ _ _ HS.out.r) Tryd.underlying26 rfl (by kernel_rfl)) rfl ?_
          exact parse_none hR1.out (below_setRow HS.out.b (Nat.le_refl _) _)
        · have hkz : ((k : Int) == 0) = false := by rw [beq_eq_false_iff_ne]; omega
          have hFn : F ≠ [] := fun e => hk0 (by rw [← HFL.out, e]; rfl)
          have HFN := Lib.hid hFn; clear hFn hk0
          cases B
          · have hR1 : Hid (parseC s = .no (k + 1) 19) := by
              show _ = _
              rw [hR0.out, if_pos (.inr (of_decide_eq_false HBL.out.symm))]
            go_wp2_with (refine wpList_store_row rfl 26 (.tmp 2) (.tmp 80) rfl w.heap.size #[.int .i64 0, .int .i64 0, .int .i64 0] rfl rfl 26 _ HS.out.r (by kernel_rfl) rfl (three_all _ _ _) ?_)
            refine bodyPost_ret (results_c5 rfl _ _ w.heap.size 26 #[.int .i64 0, .int .i64 0, .int .i64 0] (0, 0) _ rfl (setRow_heap _ _ _ _ _ _ HS.out.r) Tryd.underlying26 rfl (by kernel_rfl)) rfl ?_
            exact parse_none hR1.out (below_setRow HS.out.b (Nat.le_refl _) _)
          · have hR1 : Hid (parseC s = ⟨[i0, i1, i2, i3], acc, 0, 0⟩) := by
              show _ = _
              have hl0 : la = [] := of_decide_eq_true HBL.out.symm
              rw [hR0.out, if_neg (fun h => h.elim HFN.out (fun h => h hl0))]
            have p0 := (blk_cell HS.out.p 0).trans (rfl : _ = some (Value.int .i64 i0))
            have p1 := (blk_cell HS.out.p 1).trans (rfl : _ = some (Value.int .i64 i1))
            have p2 := (blk_cell HS.out.p 2).trans (rfl : _ = some (Value.int .i64 i2))
            go_wp2_with (refine wpList_store_row rfl 26 (.tmp 2) (.tmp 83) rfl w.heap.size #[.int .i64 i0, .int .i64 i1, .int .i64 i2] rfl rfl 26 _ HS.out.r (by kernel_rfl) rfl (three_all _ _ _) ?_)
            refine bodyPost_ret (results_c5 rfl _ _ w.heap.size 26 #[.int .i64 i0, .int .i64 i1, .int .i64 i2] (0, 0) _ rfl (setRow_heap _ _ _ _ _ _ HS.out.r) Tryd.underlying26 rfl (by kernel_rfl)) rfl ?_
            refine ⟨⟨i0, i1, i2, i3, _, by rw [hR1.out]; rfl, by rw [hR1.out], ?_, by rw [hR1.out]; exact HS.out.k⟩, below_setRow HS.out.b (Nat.le_refl _) _⟩
            rw [hR1.out]
            exact Kd.N_mono (Kd.N_step HS.out.o (fun j hj _ => setRow_other _ _ _ _ (by omega))) (fun j hj => by omega)
end Go.Proofs.YtghllfihmmlcnaaDoor
