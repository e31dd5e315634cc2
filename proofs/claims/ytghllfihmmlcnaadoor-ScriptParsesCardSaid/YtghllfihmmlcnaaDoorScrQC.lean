/- A text read by the document: what the program reads. -/
import Derived.Test.YtghllfihmmlcnaaDoorScrQB
namespace Go.Proofs.YtghllfihmmlcnaaDoor
open Go.RowKit Nam YtghllfihmmlcnaaDoorW.PrintWords

theorem finL_app (la : List UInt8) : ∀ F : List (List UInt8), finL (F ++ [la]) = if la = [] then (F, false) else (F ++ [la], true)
  | [] => rfl
  | a :: F => by
    rw [List.cons_append, finL_cons a (by simp), finL_app la F]
    split <;> rfl
def RParseIs (s : List UInt8) (w : World) (e : Ending) (w' : World) : Prop :=
  (∃ (k m b o : Int) (v : Value), e = .returned (.tuple #[.agg #[.int .i64 k, .int .i64 m, .int .i64 b], .int .i64 o, v, .int .i64 ((parseC s).at_ : Int), .int .i64 (parseC s).e]) ∧ (parseC s).h = [k, m, b, o] ∧ Kd.N kCh 39 w' w.heap.size (fun k => w.heap.size ≤ k) v (parseC s).l ∧ (∀ c ∈ (parseC s).l, c.Ok 20000)) ∧ Below w.heap.size w w'
theorem rparse_none {s : List UInt8} {w w' : World} {n : Nat} {e : Int} (h : parseC s = .no n e) (hb : Below w.heap.size w w') :
    RParseIs s w (.returned (.tuple #[.agg #[.int .i64 0, .int .i64 0, .int .i64 0], .int .i64 0, .slice none 0 0, .int .i64 (n : Int), .int .i64 e])) w' :=
  ⟨⟨0, 0, 0, 0, .slice none 0 0, by rw [h]; rfl, by rw [h]; rfl, by rw [h]; exact Kd.N_nil _ _ _ _ _, by rw [h]; exact fun c hc => by cases hc⟩, hb⟩
structure RPaSt (w : World) (L : List (List UInt8)) (lv : Value) (gh : Nat) (i0 i1 i2 : Int) (acc : List Ch) (sv : Value) (wr : World) : Prop where
  b : Below w.heap.size w wr
  r : wr.heap[w.heap.size]? = some (.cells #[.int .i64 0, .int .i64 0, .int .i64 0] 26 (0, 0))
  s : Kd.R Kd.string 9 wr w.heap.size (fun j => w.heap.size < j ∧ j < gh) lv (L.map mkS)
  p : wr.heap[gh]? = some (.cells #[.int .i64 i0, .int .i64 i1, .int .i64 i2] 26 (0, 0))
  o : Kd.N kCh 39 wr w.heap.size (fun j => gh < j) sv acc
  k : ∀ c ∈ acc, c.Ok 20000
theorem RPaSt.below {w : World} {L : List (List UInt8)} {lv : Value} {gh : Nat} {k m b : Int} {acc : List Ch} {sv : Value} {wr w2 : World} (h : RPaSt w L lv gh k m b acc sv wr) (hb : Below wr.heap.size wr w2) : RPaSt w L lv gh k m b acc sv w2 :=
  ⟨h.b.trans (hb.mono h.b.size), blk_below h.r hb, Kd.R_below h.s hb, blk_below h.p hb, Kd.N_below h.o hb, h.k⟩
theorem rinfo39 : (Tryd.prog.info? 39).map (fun i => (i.zero, i.size, i.bytes)) = some (some (.agg (chCells (bareC 0) (.slice none 0 0)).toArray), 10, 128) := by kernel_rfl
theorem str_at {W : World} {base : Nat} {ok : Nat → Prop} {g c n : Nat} {all : List (List UInt8)} (hn : n = all.length) (h : Kd.R Kd.string 9 W base ok (.slice (some ⟨g, 0, none⟩) n c) (all.map mkS)) (k : Nat) (x : List UInt8) (hx : all[k]? = some x) : W.cell? ⟨g, k, none⟩ = some (.string (mkS x)) := by
  subst hn
  have hk : k < all.length := (List.getElem?_eq_some_iff.1 hx).1
  obtain ⟨ad, hA, hcell⟩ := Kd.at_string (Kd.R_reads' h).2.2 (k : Int) (by omega) (by rw [List.length_map]; omega)
  injection hA with hA
  subst hA
  rw [Int.toNat_natCast, add_plain] at hcell
  rw [hcell]
  unfold rdOf
  rw [Int.toNat_natCast, List.getD_eq_getElem?_getD, List.getElem?_map, hx]
  rfl
theorem parseL_no (F : List (List UInt8)) (la x : List UInt8) (hx : F = [] ∨ F[0]? = some x) (h : shapeC x = none) : parseL F la = .no 1 19 := by
  cases F with
  | nil => simp [parseL, readL]
  | cons a r =>
    rcases hx with hx | hx
    · cases hx
    · have : a = x := by simpa using hx
      subst this
      simp [parseL, readL, h]
theorem parseL_nil (la : List UInt8) : parseL [] la = .no 1 19 := by simp [parseL, readL]
theorem readL_first (F : List (List UInt8)) (x : List UInt8) (hx : F[0]? = some x) (z : List Int) (h : shapeC x = some z) : readL 0 [0, 0, 0, 0] [] F = readL 1 z [] (F.drop 1) := by
  cases F with
  | nil => cases hx
  | cons a r =>
    have : a = x := by simpa using hx
    subst this
    rw [readL, if_pos rfl, h]
    rfl

/-- What is known of a text's lines. -/
structure Cuts (s : List UInt8) (all F : List (List UInt8)) (la : List UInt8) (left : Bool) (n q : Nat) : Prop where
  f : F.length = n
  l : finL (splitB 10 s) = (all, left)
  z : all.length = q
  p : parseC s = if 65536 < s.length ∨ 2000 < q then .no 0 3 else parseL F la
  a : (la = [] ∧ all = F ∧ left = false ∧ q = n) ∨ (la ≠ [] ∧ all = F ++ [la] ∧ left = true ∧ q = n + 1)
  m : ∀ x ∈ all, x ∈ splitB 10 s
  b : n ≤ 100000
theorem Cuts.at {s : List UInt8} {all F : List (List UInt8)} {la : List UInt8} {left : Bool} {n q : Nat} (h : Cuts s all F la left n q) (j : Nat) (hj : j < n) : all[j]? = F[j]? := by
  rcases h.a with ⟨_, h1, _, _⟩ | ⟨_, h1, _, _⟩
  · rw [h1]
  · rw [h1, List.getElem?_append_left (by rw [h.f]; exact hj)]
theorem cuts_of (s : List UInt8) (hs : s.length ≤ 100000 - 1) : ∃ all F la left n q, Cuts s all F la left n q := by
  obtain ⟨L, hL⟩ : ∃ L, splitB 10 s = L := ⟨_, rfl⟩
  obtain ⟨la, hla⟩ : ∃ la, L.getLastD [] = la := ⟨_, rfl⟩
  obtain ⟨n, hn⟩ : ∃ n, L.length = n + 1 := ⟨L.length - 1, by have := List.length_pos_iff.2 (splitB_ne 10 s); rw [hL] at this; omega⟩
  obtain ⟨F, hF⟩ : ∃ F, L.dropLast = F := ⟨_, rfl⟩
  have hFl : F.length = n := by rw [← hF, List.length_dropLast]; omega
  have hP : parseC s = if 65536 < s.length ∨ 2000 < n + (if la = [] then 0 else 1) then .no 0 3 else parseL F la := by
    unfold parseC
    rw [hL, hla, hF, hn, Nat.add_sub_cancel]
  have hLF : L = F ++ [la] := by
    rw [← hF, ← hla]
    have hne : L ≠ [] := by rw [← hL]; exact splitB_ne 10 s
    rw [List.getLastD_eq_getLast?, List.getLast?_eq_some_getLast hne]
    simp [List.dropLast_concat_getLast]
  obtain ⟨all, left, hal⟩ : ∃ all left, finL L = (all, left) := ⟨_, _, rfl⟩
  obtain ⟨q, hq⟩ : ∃ q, all.length = q := ⟨_, rfl⟩
  have hA : (la = [] ∧ all = F ∧ left = false ∧ q = n) ∨ (la ≠ [] ∧ all = F ++ [la] ∧ left = true ∧ q = n + 1) := by
    have h := finL_app la F
    rw [← hLF, hal] at h
    by_cases h0 : la = []
    · rw [if_pos h0] at h
      injection h with h1 h2
      exact .inl ⟨h0, h1, h2, by rw [← hq, h1, hFl]⟩
    · rw [if_neg h0] at h
      injection h with h1 h2
      exact .inr ⟨h0, h1.trans hLF, h2, by rw [← hq, h1, hn]⟩
  refine ⟨all, F, la, left, n, q, hFl, by rw [hL, hal], hq, ?_, hA, ?_, ?_⟩
  · rw [hP]
    rcases hA with ⟨h0, _, _, h3⟩ | ⟨h0, _, _, h3⟩
    · rw [if_pos h0, h3]; rfl
    · rw [if_neg h0, h3]
  · intro x hx
    rw [hL, hLF]
    rcases hA with ⟨_, h1, _, _⟩ | ⟨_, h1, _, _⟩
    · rw [h1] at hx; exact List.mem_append_left _ hx
    · rw [h1] at hx; exact hx
  · have := splitB_length 10 s
    rw [hL] at this; omega

set_option maxHeartbeats 3000000 in
set_option maxRecDepth 100000 in
theorem rparse_all (s : List UInt8) (all F : List (List UInt8)) (la : List UInt8) (n q : Nat) (hc : Cuts s all F la false n q) (w : World) (hs : s.length ≤ 100000) (hll : ∀ x ∈ splitB 10 s, x.length ≤ 20000) : Calls Tryd.prog 20 #[.string (mkS s)] w (RParseIs s w) := by
  have hA : la = [] ∧ all = F ∧ q = n := by
    rcases hc.a with ⟨h0, h1, _, h3⟩ | ⟨_, _, h, _⟩
    · exact ⟨h0, h1, h3⟩
    · cases h
  have hqb : q ≤ 100001 := by have := hc.b; omega
  have hqn := hA.2.2
  have HA := Lib.hid hA; clear hA
  have hall : ∀ x ∈ all, x.length ≤ 20000 := fun x hx => hll x (hc.m x hx)
  have HALL := Lib.hid hall; clear hall hll
  have HC := fun W => rlines_is s W hs
  rw [hc.l] at HC
  simp only [] at HC
  have HCU := Lib.hid HC; clear HC
  have HCT := Lib.hid hc; clear hc
  obtain ⟨o0, ho0⟩ : ∃ o0, Obj.cells #[.int .i64 0, .int .i64 0, .int .i64 0] 26 (0, 0) = o0 := ⟨_, rfl⟩
  have hk0 : (w.alloc o0).heap[w.heap.size]? = some o0 := blk_new w o0
  have hb0 : Below w.heap.size w (w.alloc o0) := (Below.refl _ _).alloc (Nat.le_refl _) _
  rw [← ho0] at hk0 hb0
  clear ho0 o0
  have HK0 := Lib.hid hk0; clear hk0
  have HB0 := Lib.hid hb0; clear hb0
  have hsz : (mkS s).size ≤ 100000 := by rw [mkS_size]; exact hs
  have HQN := Lib.hid hqn; clear hqn
  go_enter Tryd.func20, Tryd.ntmps20
  go_wp2_with fail
  refine (HCU.out _).mono ?_
  rintro e w1 ⟨⟨lv, rfl, hR1⟩, hb1⟩
  obtain ⟨A, cp, rfl⟩ := Kd.R_slice hR1
  have hlm : (all.map mkS).length = q := by rw [List.length_map, HCT.out.z]
  rw [hlm] at hR1 ⊢
  clear hlm
  have hcap : q ≤ cp := (Kd.R_reads' hR1).2.1
  have hr0 := blk_below HK0.out hb1
  have HR0 := Lib.hid hr0; clear hr0
  have HR1 := Lib.hid hR1; clear hR1
  have hw1 : w.heap.size < w1.heap.size := by have := hb1.size; simp at this; omega
  have HB1 := Lib.hid (HB0.out.trans (hb1.mono (by simp)))
  clear hb1
  by_cases hlong : 65536 < s.length ∨ 2000 < q
  · have hR : Hid (parseC s = .no 0 3) := by show _ = _; rw [HCT.out.p, if_pos hlong]
    have hlz : (65536 : Int) < ((mkS s).size : Int) ∨ (((mkS s).size : Int) ≤ 65536 ∧ (2000 : Int) < (q : Int)) := by rw [mkS_size]; omega
    clear hlong
    rcases hlz with h1 | ⟨h1, h2⟩
    · have h1b : decide ((65536 : Int) < ((mkS s).size : Int)) = true := decide_eq_true h1
      go_wp2_with (refine wpList_store_row rfl 26 (.tmp 2) (.tmp 29) rfl w.heap.size #[.int .i64 0, .int .i64 0, .int .i64 0] rfl rfl 26 _ HR0.out (by kernel_rfl) rfl (three_all _ _ _) ?_)
      refine bodyPost_ret (results_c5 rfl _ _ w.heap.size 26 #[.int .i64 0, .int .i64 0, .int .i64 0] (0, 0) _ rfl (setRow_heap _ _ _ _ _ _ HR0.out) Tryd.underlying26 rfl (by kernel_rfl)) rfl ?_
      exact rparse_none (n := 0) hR.out (below_setRow HB1.out (Nat.le_refl _) _)
    · have h1b : decide ((65536 : Int) < ((mkS s).size : Int)) = false := decide_eq_false (by omega)
      have h2b : decide ((2000 : Int) < (q : Int)) = true := decide_eq_true h2
      go_wp2_with (refine wpList_store_row rfl 26 (.tmp 2) (.tmp 29) rfl w.heap.size #[.int .i64 0, .int .i64 0, .int .i64 0] rfl rfl 26 _ HR0.out (by kernel_rfl) rfl (three_all _ _ _) ?_)
      refine bodyPost_ret (results_c5 rfl _ _ w.heap.size 26 #[.int .i64 0, .int .i64 0, .int .i64 0] (0, 0) _ rfl (setRow_heap _ _ _ _ _ _ HR0.out) Tryd.underlying26 rfl (by kernel_rfl)) rfl ?_
      exact rparse_none (n := 0) hR.out (below_setRow HB1.out (Nat.le_refl _) _)
  have hPl : Hid (parseC s = parseL F la) := by show _ = _; rw [HCT.out.p, if_neg hlong]
  have h1 : ((mkS s).size : Int) ≤ 65536 := by rw [mkS_size]; omega
  have h2 : (q : Int) ≤ 2000 := by omega
  have h1b : decide ((65536 : Int) < ((mkS s).size : Int)) = false := decide_eq_false (by omega)
  have h2b : decide ((2000 : Int) < (q : Int)) = false := decide_eq_false (by omega)
  clear hlong
  by_cases hq0 : q = 0
  · subst hq0
    have hR : Hid (parseC s = .no 1 19) := by
      show _ = _
      have : F = [] := List.length_eq_zero_iff.1 (by rw [HCT.out.f, ← HQN.out])
      rw [hPl.out, this, parseL_nil]
    go_wp2_with (refine wpList_store_row rfl 26 (.tmp 2) (.tmp 33) rfl w.heap.size #[.int .i64 0, .int .i64 0, .int .i64 0] rfl rfl 26 _ HR0.out (by kernel_rfl) rfl (three_all _ _ _) ?_)
    refine bodyPost_ret (results_c5 rfl _ _ w.heap.size 26 #[.int .i64 0, .int .i64 0, .int .i64 0] (0, 0) _ rfl (setRow_heap _ _ _ _ _ _ HR0.out) Tryd.underlying26 rfl (by kernel_rfl)) rfl ?_
    exact rparse_none (n := 1) hR.out (below_setRow HB1.out (Nat.le_refl _) _)
  have hq1 : 1 ≤ q := by omega
  clear hq0
  have hqe : ((q : Int) == 0) = false := by rw [beq_eq_false_iff_ne]; omega
  have hqz : (0 : Int) < (q : Int) := by omega
  obtain ⟨g0, cap0, hv0, hg0, hg1, -⟩ := Kd.R_form HR1.out (by rw [List.length_map, HCT.out.z]; exact hq1)
  injection hv0 with hA0 hq9 hc0
  clear hq9
  subst hA0
  subst hc0
  obtain ⟨x, hx0⟩ : ∃ x, all[0]? = some x := ⟨all[0]'(by rw [HCT.out.z]; omega), List.getElem?_eq_getElem _⟩
  have hcw := str_at HCT.out.z.symm HR1.out 0 x hx0
  have hxl : x.length ≤ 20000 := HALL.out x (List.mem_of_getElem? hx0)
  have hF0 : F = [] ∨ F[0]? = some x := by
    by_cases h0 : n = 0
    · exact .inl (List.length_eq_zero_iff.1 (by rw [HCT.out.f, h0]))
    · exact .inr (by rw [← HCT.out.at 0 (by omega)]; exact hx0)
  have HF0 := Lib.hid hF0; clear hF0 hx0
  go_wp2_with fail
  refine (rfirst_is x _ hxl).mono ?_
  rintro e w2 ⟨⟨i0, i1, i2, i3, rfl, hy⟩, hb2⟩
  have hb3 : Below w1.heap.size w1 (w2.alloc (.cells #[.int .i64 i0, .int .i64 i1, .int .i64 i2] 26)) := hb2.alloc hb2.size _
  have HB3 := Lib.hid (HB1.out.trans (hb3.mono HB1.out.size))
  have HR3 := Lib.hid (blk_below HR0.out hb3)
  have HS3 := Lib.hid (Kd.R_below HR1.out hb3)
  have HK3 := Lib.hid (blk_new w2 (.cells #[.int .i64 i0, .int .i64 i1, .int .i64 i2] 26))
  have hw12 : w1.heap.size ≤ w2.heap.size := hb2.size
  have hw2 : w.heap.size < w2.heap.size := by omega
  have hg2 : g0 < w2.heap.size := by have h0 := (Kd.R_bound HR1.out).1 g0 rfl; have h1 := hb2.size; omega
  have HBX := Lib.hid hb3
  clear hb2 hb3 hcw
  cases hch : shapeC x with
  | none =>
    have hR : Hid (parseC s = .no 1 19) := by show _ = _; rw [hPl.out, parseL_no F la x HF0.out hch]
    clear hch hy
    go_wp2_with (refine wpList_store_row rfl 26 (.tmp 2) (.tmp 52) rfl w.heap.size #[.int .i64 0, .int .i64 0, .int .i64 0] rfl rfl 26 _ HR3.out (by kernel_rfl) rfl (three_all _ _ _) ?_)
    refine bodyPost_ret (results_c5 rfl _ _ w.heap.size 26 #[.int .i64 0, .int .i64 0, .int .i64 0] (0, 0) _ rfl (setRow_heap _ _ _ _ _ _ HR3.out) Tryd.underlying26 rfl (by kernel_rfl)) rfl ?_
    exact rparse_none (n := 1) hR.out (below_setRow HB3.out (Nat.le_refl _) _)
  | some z =>
    have hn1 : 1 ≤ n := by have := HQN.out; omega
    have hz := hy _ hch
    obtain ⟨R, hR⟩ : ∃ R, readL 0 [0, 0, 0, 0] [] F = R := ⟨_, rfl⟩
    have HRE : Hid (readL 1 [i0, i1, i2, i3] [] (F.drop 1) = R) := by
      show _ = _
      rw [← hR, hz]
      refine (readL_first F x ?_ z hch).symm
      rcases HF0.out with h | h
      · exact absurd (congrArg List.length h) (by rw [HCT.out.f]; simp; omega)
      · exact h
    have HRR := Lib.hid hR; clear hR
    clear hch hy hz
    obtain ⟨gh, hgh⟩ : ∃ gh, w2.heap.size = gh := ⟨_, rfl⟩
    have ST : Hid (RPaSt w all (.slice (some ⟨g0, 0, none⟩) q cp) gh i0 i1 i2 [] (.slice none 0 0) (w2.alloc (.cells #[.int .i64 i0, .int .i64 i1, .int .i64 i2] 26))) :=
      ⟨HB3.out, HR3.out, Kd.R_mono (Kd.R_below (Kd.R_bound (Kd.R_lower HR1.out (by simp))) HBX.out) (fun k hk => ⟨by have := hk.1; simp at this; omega, by have := hk.2.2.1; omega⟩), by rw [← hgh]; exact HK3.out, Kd.N_nil _ _ _ _ _, (fun c hc => by cases hc)⟩
    have HGH := Lib.hid hgh; clear hgh
    go_wp2_with fail
    rw [show w2.heap.size = gh from HGH.out]
    have hgo : w.heap.size < gh := by rw [← HGH.out]; exact hw2
    go_loopw [12, 13] (fun vo vi wr => ∃ (k : Nat) (acc : List Ch) (sv : Value), sv = vo ∧ vi = .int .i64 k ∧ 1 ≤ k ∧ k ≤ n ∧ acc.length ≤ k ∧ Hid (readL k [i0, i1, i2, i3] acc (F.drop k) = R) ∧ Hid (RPaSt w all (.slice (some ⟨g0, 0, none⟩) q cp) gh i0 i1 i2 acc sv wr)) (fun _ vi _ => q - (intOf vi).toNat)
    case atStart => exact ⟨1, [], _, rfl, rfl, Nat.le_refl _, hn1, by simp, HRE, ST⟩
    case round =>
      clear ST HRE HS3 HK3 HR3 HB3
      obtain ⟨k, acc, sv, hsv, rfl, hk1, hk, hal, HRE, HS⟩ := hrel
      subst hsv
      by_cases hlt : k < n
      · have hltq : (k : Int) < (q : Int) := by have := HQN.out; omega
        obtain ⟨x, hx⟩ : ∃ x, F[k]'(by rw [HCT.out.f]; omega) = x := ⟨_, rfl⟩
        have hak : all[k]? = some x := by rw [HCT.out.at k hlt, List.getElem?_eq_getElem (by rw [HCT.out.f]; omega), hx]
        have hcw := str_at HCT.out.z.symm HS.out.s k x hak
        have hxl : x.length ≤ 20000 := HALL.out x (List.mem_of_getElem? hak)
        have hre := HRE.out
        rw [List.drop_eq_getElem_cons (by rw [HCT.out.f]; omega), hx, readL, if_neg (by omega)] at hre
        have HR2 := Lib.hid hre; clear hre HRE hx hak
        go_wp2_with fail
        refine (rchoice_is x _ hxl).mono ?_
        rintro e w3 ⟨⟨y, v, rfl, hy, hdt, hok⟩, hb3⟩
        obtain ⟨Ay, cy, rfl, hly, hfy⟩ := hdt
        have hgw : gh < wr.heap.size := blk_lt HS.out.p
        have hw3s : wr.heap.size ≤ w3.heap.size := hb3.size
        have hown : ∀ j, sv.ownBlock = some j → j < wr.heap.size := Kd.N_lt HS.out.o
        have HOW := Lib.hid hown; clear hown
        obtain ⟨o4, ho4⟩ : ∃ o4, Obj.cells (chCells y (.slice Ay (byN y.dt).length cy)).toArray 39 (0, 0) = o4 := ⟨_, rfl⟩
        have hb4 : Below w3.heap.size w3 (w3.alloc o4) := (Below.refl _ _).alloc (Nat.le_refl _) _
        have HS4 := Lib.hid ((HS.out.below hb3).below hb4)
        have HK4 := Lib.hid (blk_new w3 o4)
        have HFY := Lib.hid (Kd.F_below hfy hb4)
        clear hb3 hb4 hcw
        rw [← ho4] at HS4 HK4 HFY
        clear ho4 o4
        unfold chCells at HS4 HK4 HFY
        unfold chCells
        cases hch : choiceC x with
        | none =>
          have hR0 : Hid (parseC s = .no (k + 1) 19) := by
            show _ = _
            have h2 := HR2.out
            rw [hch] at h2
            simp only [] at h2
            rw [hPl.out, parseL, HRR.out, ← h2]
          clear hch hy HR2
          go_wp2_with (refine wpList_store_row rfl 26 (.tmp 2) (.tmp 79) rfl w.heap.size #[.int .i64 0, .int .i64 0, .int .i64 0] rfl rfl 26 _ HS4.out.r (by kernel_rfl) rfl (three_all _ _ _) ?_)
          refine bodyPost_ret (results_c5 rfl _ _ w.heap.size 26 #[.int .i64 0, .int .i64 0, .int .i64 0] (0, 0) _ rfl (setRow_heap _ _ _ _ _ _ HS4.out.r) Tryd.underlying26 rfl (by kernel_rfl)) rfl ?_
          exact rparse_none hR0.out (below_setRow HS4.out.b (Nat.le_refl _) _)
        | some z =>
          obtain rfl := hy _ hch
          have HR3 : Hid (readL (k + 1) [i0, i1, i2, i3] (acc ++ [y]) (F.drop (k + 1)) = R) := by
            show _ = _
            have h2 := HR2.out
            rw [hch] at h2
            exact h2
          clear hch hy HR2
          go_upto_region 16 with (fail)
          obtain ⟨W4, hW4⟩ : ∃ W4, w3.alloc (.cells #[.int .i64 y.d, .string (mkS y.bk), .string (mkS y.ky), .slice Ay (byN y.dt).length cy, .int .i64 y.n, .int .i64 y.a, .string (mkS y.pf), .string (mkS y.fr), .int .i64 y.fi, .int .i64 y.mo] 39) = W4 := ⟨_, rfl⟩
          rw [hW4]
          have HS4' : Hid (RPaSt w all (.slice (some ⟨g0, 0, none⟩) q cp) gh i0 i1 i2 acc sv W4) := by rw [← hW4]; exact HS4.out
          have HK4' : Hid (W4.heap[w3.heap.size]? = some (.cells (chCells y (.slice Ay (byN y.dt).length cy)).toArray 39 (0, 0))) := by rw [← hW4]; exact HK4.out
          have HFK : Hid (Kd.FK kCh W4 (fun j => wr.heap.size ≤ j) y (chCells y (.slice Ay (byN y.dt).length cy))) := by rw [← hW4]; exact kCh_mkF ⟨Ay, cy, rfl, hly, HFY.out⟩
          have hw4s : wr.heap.size ≤ W4.heap.size := by rw [← hW4]; simp; omega
          clear hW4 HS4 HK4 HFY
          have hr4 := HK4'.out
          unfold chCells at hr4
          have c0 := (blk_cell hr4 0).trans (rfl : _ = some (Value.int .i64 y.d))
          have c1 := (blk_cell hr4 1).trans (rfl : _ = some (Value.string (mkS y.bk)))
          have c2 := (blk_cell hr4 2).trans (rfl : _ = some (Value.string (mkS y.ky)))
          have c3 := (blk_cell hr4 3).trans (rfl : _ = some (Value.slice Ay (byN y.dt).length cy))
          have c4 := (blk_cell hr4 4).trans (rfl : _ = some (Value.int .i64 y.n))
          have c5 := (blk_cell hr4 5).trans (rfl : _ = some (Value.int .i64 y.a))
          have c6 := (blk_cell hr4 6).trans (rfl : _ = some (Value.string (mkS y.pf)))
          have c7 := (blk_cell hr4 7).trans (rfl : _ = some (Value.string (mkS y.fr)))
          have c8 := (blk_cell hr4 8).trans (rfl : _ = some (Value.int .i64 y.fi))
          have c9 := (blk_cell hr4 9).trans (rfl : _ = some (Value.int .i64 y.mo))
          clear hr4
          go_wp2_with (at_builtin; refine Kd.N_append kCh (w0 := w) w.heap.size rfl (.tmp 82) (.tmp 84) 22 39 (.agg (chCells (bareC 0) (.slice none 0 0)).toArray) 128 rfl Tryd.underlying22 rinfo39 rfl (by decide) (by omega) sv acc y (chCells y (.slice Ay (byN y.dt).length cy)) (fun j => gh < j) (fun j => wr.heap.size ≤ j) rfl rfl HFK.out (fun j hj => ⟨by omega, fun e => by have := HOW.out j e.symm; omega⟩) (fun j hj => by omega) HS4'.out.o HS4'.out.b HS4'.out.b.size (by omega) ?_; intro v1 w5 hN5 hb5 hg5 hat5)
          have HS5 : Hid (RPaSt w all (.slice (some ⟨g0, 0, none⟩) q cp) gh i0 i1 i2 (acc ++ [y]) v1 w5) :=
            ⟨hb5, blk_grown HS4'.out.r hg5 (fun e => by have := HS4'.out.o.1 _ e.symm; omega), Kd.R_grown2 HS4'.out.s rfl hg5 (fun j hj e => by have h1 := HS4'.out.o.1 j hj; have h2 := (HS4'.out.s.1 j e.symm).2; omega), blk_grown HS4'.out.p hg5 (fun e => by have := HS4'.out.o.1 _ e.symm; omega), hN5, fun c hc => by
              rcases List.mem_append.1 hc with hc | hc
              · exact HS4'.out.k c hc
              · rw [List.mem_singleton.1 hc]; exact hok.mono hxl⟩
          clear hN5 hb5 hg5 hat5 c0 c1 c2 c3 c4 c5 c6 c7 c8 c9
          go_roundw
          case rel => exact ⟨k + 1, acc ++ [y], v1, rfl, by go_num, by omega, by omega, by simp; omega, HR3, HS5⟩
          case measure => simp [intOf]; omega
      · obtain rfl : k = n := by omega
        have hge : (q : Int) ≤ (k : Int) := by have := HQN.out; omega
        have hR0 : Hid (parseC s = ⟨[i0, i1, i2, i3], acc, 0, 0⟩) := by
          show _ = _
          have h2 := HRE.out
          rw [List.drop_eq_nil_of_le (by rw [HCT.out.f]; omega), readL] at h2
          rw [hPl.out, parseL, HRR.out, ← h2]
          simp only []
          rw [if_neg]
          rintro (h | h)
          · have := congrArg List.length h
            rw [HCT.out.f] at this
            simp at this; omega
          · exact h HA.out.1
        clear HRE hlt
        have p0 := (blk_cell HS.out.p 0).trans (rfl : _ = some (Value.int .i64 i0))
        have p1 := (blk_cell HS.out.p 1).trans (rfl : _ = some (Value.int .i64 i1))
        have p2 := (blk_cell HS.out.p 2).trans (rfl : _ = some (Value.int .i64 i2))
        go_wp2_with (refine wpList_store_row rfl 26 (.tmp 2) (.tmp 86) rfl w.heap.size #[.int .i64 i0, .int .i64 i1, .int .i64 i2] rfl rfl 26 _ HS.out.r (by kernel_rfl) rfl (three_all _ _ _) ?_)
        refine bodyPost_ret (results_c5 rfl _ _ w.heap.size 26 #[.int .i64 i0, .int .i64 i1, .int .i64 i2] (0, 0) _ rfl (setRow_heap _ _ _ _ _ _ HS.out.r) Tryd.underlying26 rfl (by kernel_rfl)) rfl ?_
        refine ⟨⟨i0, i1, i2, i3, _, by rw [hR0.out]; rfl, by rw [hR0.out], ?_, by rw [hR0.out]; exact HS.out.k⟩, below_setRow HS.out.b (Nat.le_refl _) _⟩
        rw [hR0.out]
        exact Kd.N_mono (Kd.N_step HS.out.o (fun j hj _ => setRow_other _ _ _ _ (by omega))) (fun j hj => by omega)

set_option maxHeartbeats 3000000 in
set_option maxRecDepth 100000 in
theorem rparse_on (s : List UInt8) (all F : List (List UInt8)) (la : List UInt8) (n q : Nat) (hc : Cuts s all F la true n q) (w : World) (hs : s.length ≤ 100000) (hll : ∀ x ∈ splitB 10 s, x.length ≤ 20000) : Calls Tryd.prog 20 #[.string (mkS s)] w (RParseIs s w) := by
  have hA : la ≠ [] ∧ all = F ++ [la] ∧ q = n + 1 := by
    rcases hc.a with ⟨_, _, h, _⟩ | ⟨h0, h1, _, h3⟩
    · cases h
    · exact ⟨h0, h1, h3⟩
  have hqb : q ≤ 100001 := by have := hc.b; omega
  have hqn := hA.2.2
  have HA := Lib.hid hA; clear hA
  have hall : ∀ x ∈ all, x.length ≤ 20000 := fun x hx => hll x (hc.m x hx)
  have HALL := Lib.hid hall; clear hall hll
  have HC := fun W => rlines_is s W hs
  rw [hc.l] at HC
  simp only [] at HC
  have HCU := Lib.hid HC; clear HC
  have HCT := Lib.hid hc; clear hc
  obtain ⟨o0, ho0⟩ : ∃ o0, Obj.cells #[.int .i64 0, .int .i64 0, .int .i64 0] 26 (0, 0) = o0 := ⟨_, rfl⟩
  have hk0 : (w.alloc o0).heap[w.heap.size]? = some o0 := blk_new w o0
  have hb0 : Below w.heap.size w (w.alloc o0) := (Below.refl _ _).alloc (Nat.le_refl _) _
  rw [← ho0] at hk0 hb0
  clear ho0 o0
  have HK0 := Lib.hid hk0; clear hk0
  have HB0 := Lib.hid hb0; clear hb0
  have hsz : (mkS s).size ≤ 100000 := by rw [mkS_size]; exact hs
  have HQN := Lib.hid hqn; clear hqn
  go_enter Tryd.func20, Tryd.ntmps20
  go_wp2_with fail
  refine (HCU.out _).mono ?_
  rintro e w1 ⟨⟨lv, rfl, hR1⟩, hb1⟩
  obtain ⟨A, cp, rfl⟩ := Kd.R_slice hR1
  have hlm : (all.map mkS).length = q := by rw [List.length_map, HCT.out.z]
  rw [hlm] at hR1 ⊢
  clear hlm
  have hcap : q ≤ cp := (Kd.R_reads' hR1).2.1
  have hr0 := blk_below HK0.out hb1
  have HR0 := Lib.hid hr0; clear hr0
  have HR1 := Lib.hid hR1; clear hR1
  have hw1 : w.heap.size < w1.heap.size := by have := hb1.size; simp at this; omega
  have HB1 := Lib.hid (HB0.out.trans (hb1.mono (by simp)))
  clear hb1
  by_cases hlong : 65536 < s.length ∨ 2000 < q
  · have hR : Hid (parseC s = .no 0 3) := by show _ = _; rw [HCT.out.p, if_pos hlong]
    have hlz : (65536 : Int) < ((mkS s).size : Int) ∨ (((mkS s).size : Int) ≤ 65536 ∧ (2000 : Int) < (q : Int)) := by rw [mkS_size]; omega
    clear hlong
    rcases hlz with h1 | ⟨h1, h2⟩
    · have h1b : decide ((65536 : Int) < ((mkS s).size : Int)) = true := decide_eq_true h1
      go_wp2_with (refine wpList_store_row rfl 26 (.tmp 2) (.tmp 29) rfl w.heap.size #[.int .i64 0, .int .i64 0, .int .i64 0] rfl rfl 26 _ HR0.out (by kernel_rfl) rfl (three_all _ _ _) ?_)
      refine bodyPost_ret (results_c5 rfl _ _ w.heap.size 26 #[.int .i64 0, .int .i64 0, .int .i64 0] (0, 0) _ rfl (setRow_heap _ _ _ _ _ _ HR0.out) Tryd.underlying26 rfl (by kernel_rfl)) rfl ?_
      exact rparse_none (n := 0) hR.out (below_setRow HB1.out (Nat.le_refl _) _)
    · have h1b : decide ((65536 : Int) < ((mkS s).size : Int)) = false := decide_eq_false (by omega)
      have h2b : decide ((2000 : Int) < (q : Int)) = true := decide_eq_true h2
      go_wp2_with (refine wpList_store_row rfl 26 (.tmp 2) (.tmp 29) rfl w.heap.size #[.int .i64 0, .int .i64 0, .int .i64 0] rfl rfl 26 _ HR0.out (by kernel_rfl) rfl (three_all _ _ _) ?_)
      refine bodyPost_ret (results_c5 rfl _ _ w.heap.size 26 #[.int .i64 0, .int .i64 0, .int .i64 0] (0, 0) _ rfl (setRow_heap _ _ _ _ _ _ HR0.out) Tryd.underlying26 rfl (by kernel_rfl)) rfl ?_
      exact rparse_none (n := 0) hR.out (below_setRow HB1.out (Nat.le_refl _) _)
  have hPl : Hid (parseC s = parseL F la) := by show _ = _; rw [HCT.out.p, if_neg hlong]
  have h1 : ((mkS s).size : Int) ≤ 65536 := by rw [mkS_size]; omega
  have h2 : (q : Int) ≤ 2000 := by omega
  have h1b : decide ((65536 : Int) < ((mkS s).size : Int)) = false := decide_eq_false (by omega)
  have h2b : decide ((2000 : Int) < (q : Int)) = false := decide_eq_false (by omega)
  clear hlong
  have hq1 : 1 ≤ q := by have := HQN.out; omega
  have hqe : ((q : Int) == 0) = false := by rw [beq_eq_false_iff_ne]; omega
  have hqz : (0 : Int) < (q : Int) := by omega
  obtain ⟨g0, cap0, hv0, hg0, hg1, -⟩ := Kd.R_form HR1.out (by rw [List.length_map, HCT.out.z]; exact hq1)
  injection hv0 with hA0 hq9 hc0
  clear hq9
  subst hA0
  subst hc0
  obtain ⟨x, hx0⟩ : ∃ x, all[0]? = some x := ⟨all[0]'(by rw [HCT.out.z]; omega), List.getElem?_eq_getElem _⟩
  have hcw := str_at HCT.out.z.symm HR1.out 0 x hx0
  have hxl : x.length ≤ 20000 := HALL.out x (List.mem_of_getElem? hx0)
  have hF0 : F = [] ∨ F[0]? = some x := by
    by_cases h0 : n = 0
    · exact .inl (List.length_eq_zero_iff.1 (by rw [HCT.out.f, h0]))
    · exact .inr (by rw [← HCT.out.at 0 (by omega)]; exact hx0)
  have HF0 := Lib.hid hF0; clear hF0 hx0
  go_wp2_with fail
  refine (rfirst_is x _ hxl).mono ?_
  rintro e w2 ⟨⟨i0, i1, i2, i3, rfl, hy⟩, hb2⟩
  have hb3 : Below w1.heap.size w1 (w2.alloc (.cells #[.int .i64 i0, .int .i64 i1, .int .i64 i2] 26)) := hb2.alloc hb2.size _
  have HB3 := Lib.hid (HB1.out.trans (hb3.mono HB1.out.size))
  have HR3 := Lib.hid (blk_below HR0.out hb3)
  have HS3 := Lib.hid (Kd.R_below HR1.out hb3)
  have HK3 := Lib.hid (blk_new w2 (.cells #[.int .i64 i0, .int .i64 i1, .int .i64 i2] 26))
  have hw12 : w1.heap.size ≤ w2.heap.size := hb2.size
  have hw2 : w.heap.size < w2.heap.size := by omega
  have hg2 : g0 < w2.heap.size := by have h0 := (Kd.R_bound HR1.out).1 g0 rfl; have h1 := hb2.size; omega
  have HBX := Lib.hid hb3
  clear hb2 hb3 hcw
  cases hch : shapeC x with
  | none =>
    have hR : Hid (parseC s = .no 1 19) := by show _ = _; rw [hPl.out, parseL_no F la x HF0.out hch]
    clear hch hy
    go_wp2_with (refine wpList_store_row rfl 26 (.tmp 2) (.tmp 52) rfl w.heap.size #[.int .i64 0, .int .i64 0, .int .i64 0] rfl rfl 26 _ HR3.out (by kernel_rfl) rfl (three_all _ _ _) ?_)
    refine bodyPost_ret (results_c5 rfl _ _ w.heap.size 26 #[.int .i64 0, .int .i64 0, .int .i64 0] (0, 0) _ rfl (setRow_heap _ _ _ _ _ _ HR3.out) Tryd.underlying26 rfl (by kernel_rfl)) rfl ?_
    exact rparse_none (n := 1) hR.out (below_setRow HB3.out (Nat.le_refl _) _)
  | some z =>
    by_cases hn0 : n = 0
    · have hR : Hid (parseC s = .no 1 19) := by
        show _ = _
        have : F = [] := List.length_eq_zero_iff.1 (by rw [HCT.out.f, hn0])
        rw [hPl.out, this, parseL_nil]
      have hq2 : ((q : Int) == 1) = true := by have := HQN.out; rw [beq_iff_eq]; omega
      clear hch hy hn0
      go_wp2_with (refine wpList_store_row rfl 26 (.tmp 2) (.tmp 52) rfl w.heap.size #[.int .i64 0, .int .i64 0, .int .i64 0] rfl rfl 26 _ HR3.out (by kernel_rfl) rfl (three_all _ _ _) ?_)
      refine bodyPost_ret (results_c5 rfl _ _ w.heap.size 26 #[.int .i64 0, .int .i64 0, .int .i64 0] (0, 0) _ rfl (setRow_heap _ _ _ _ _ _ HR3.out) Tryd.underlying26 rfl (by kernel_rfl)) rfl ?_
      exact rparse_none (n := 1) hR.out (below_setRow HB3.out (Nat.le_refl _) _)
    have hn1 : 1 ≤ n := by omega
    have hq2 : ((q : Int) == 1) = false := by have := HQN.out; rw [beq_eq_false_iff_ne]; omega
    clear hn0
    have hz := hy _ hch
    obtain ⟨R, hR⟩ : ∃ R, readL 0 [0, 0, 0, 0] [] F = R := ⟨_, rfl⟩
    have HRE : Hid (readL 1 [i0, i1, i2, i3] [] (F.drop 1) = R) := by
      show _ = _
      rw [← hR, hz]
      refine (readL_first F x ?_ z hch).symm
      rcases HF0.out with h | h
      · exact absurd (congrArg List.length h) (by rw [HCT.out.f]; simp; omega)
      · exact h
    have HRR := Lib.hid hR; clear hR
    clear hch hy hz
    obtain ⟨gh, hgh⟩ : ∃ gh, w2.heap.size = gh := ⟨_, rfl⟩
    have ST : Hid (RPaSt w all (.slice (some ⟨g0, 0, none⟩) q cp) gh i0 i1 i2 [] (.slice none 0 0) (w2.alloc (.cells #[.int .i64 i0, .int .i64 i1, .int .i64 i2] 26))) :=
      ⟨HB3.out, HR3.out, Kd.R_mono (Kd.R_below (Kd.R_bound (Kd.R_lower HR1.out (by simp))) HBX.out) (fun k hk => ⟨by have := hk.1; simp at this; omega, by have := hk.2.2.1; omega⟩), by rw [← hgh]; exact HK3.out, Kd.N_nil _ _ _ _ _, (fun c hc => by cases hc)⟩
    have HGH := Lib.hid hgh; clear hgh
    go_wp2_with fail
    rw [show w2.heap.size = gh from HGH.out]
    have hgo : w.heap.size < gh := by rw [← HGH.out]; exact hw2
    go_loopw [12, 13] (fun vo vi wr => ∃ (k : Nat) (acc : List Ch) (sv : Value), sv = vo ∧ vi = .int .i64 k ∧ 1 ≤ k ∧ k ≤ n ∧ acc.length ≤ k ∧ Hid (readL k [i0, i1, i2, i3] acc (F.drop k) = R) ∧ Hid (RPaSt w all (.slice (some ⟨g0, 0, none⟩) q cp) gh i0 i1 i2 acc sv wr)) (fun _ vi _ => q - (intOf vi).toNat)
    case atStart => exact ⟨1, [], _, rfl, rfl, Nat.le_refl _, hn1, by simp, HRE, ST⟩
    case round =>
      clear ST HRE HS3 HK3 HR3 HB3
      obtain ⟨k, acc, sv, hsv, rfl, hk1, hk, hal, HRE, HS⟩ := hrel
      subst hsv
      by_cases hlt : k < n
      · have hltq : (k : Int) < (q : Int) := by have := HQN.out; omega
        obtain ⟨x, hx⟩ : ∃ x, F[k]'(by rw [HCT.out.f]; omega) = x := ⟨_, rfl⟩
        have hak : all[k]? = some x := by rw [HCT.out.at k hlt, List.getElem?_eq_getElem (by rw [HCT.out.f]; omega), hx]
        have hcw := str_at HCT.out.z.symm HS.out.s k x hak
        have hxl : x.length ≤ 20000 := HALL.out x (List.mem_of_getElem? hak)
        have hre := HRE.out
        rw [List.drop_eq_getElem_cons (by rw [HCT.out.f]; omega), hx, readL, if_neg (by omega)] at hre
        have HR2 := Lib.hid hre; clear hre HRE hx hak
        have hkq : ((k : Int) == (q : Int) - 1) = false := by have := HQN.out; rw [beq_eq_false_iff_ne]; omega
        go_wp2_with fail
        refine (rchoice_is x _ hxl).mono ?_
        rintro e w3 ⟨⟨y, v, rfl, hy, hdt, hok⟩, hb3⟩
        obtain ⟨Ay, cy, rfl, hly, hfy⟩ := hdt
        have hgw : gh < wr.heap.size := blk_lt HS.out.p
        have hw3s : wr.heap.size ≤ w3.heap.size := hb3.size
        have hown : ∀ j, sv.ownBlock = some j → j < wr.heap.size := Kd.N_lt HS.out.o
        have HOW := Lib.hid hown; clear hown
        obtain ⟨o4, ho4⟩ : ∃ o4, Obj.cells (chCells y (.slice Ay (byN y.dt).length cy)).toArray 39 (0, 0) = o4 := ⟨_, rfl⟩
        have hb4 : Below w3.heap.size w3 (w3.alloc o4) := (Below.refl _ _).alloc (Nat.le_refl _) _
        have HS4 := Lib.hid ((HS.out.below hb3).below hb4)
        have HK4 := Lib.hid (blk_new w3 o4)
        have HFY := Lib.hid (Kd.F_below hfy hb4)
        clear hb3 hb4 hcw
        rw [← ho4] at HS4 HK4 HFY
        clear ho4 o4
        unfold chCells at HS4 HK4 HFY
        unfold chCells
        cases hch : choiceC x with
        | none =>
          have hR0 : Hid (parseC s = .no (k + 1) 19) := by
            show _ = _
            have h2 := HR2.out
            rw [hch] at h2
            simp only [] at h2
            rw [hPl.out, parseL, HRR.out, ← h2]
          clear hch hy HR2
          go_wp2_with (refine wpList_store_row rfl 26 (.tmp 2) (.tmp 79) rfl w.heap.size #[.int .i64 0, .int .i64 0, .int .i64 0] rfl rfl 26 _ HS4.out.r (by kernel_rfl) rfl (three_all _ _ _) ?_)
          refine bodyPost_ret (results_c5 rfl _ _ w.heap.size 26 #[.int .i64 0, .int .i64 0, .int .i64 0] (0, 0) _ rfl (setRow_heap _ _ _ _ _ _ HS4.out.r) Tryd.underlying26 rfl (by kernel_rfl)) rfl ?_
          exact rparse_none hR0.out (below_setRow HS4.out.b (Nat.le_refl _) _)
        | some z =>
          obtain rfl := hy _ hch
          have HR3 : Hid (readL (k + 1) [i0, i1, i2, i3] (acc ++ [y]) (F.drop (k + 1)) = R) := by
            show _ = _
            have h2 := HR2.out
            rw [hch] at h2
            exact h2
          clear hch hy HR2
          go_upto_region 16 with (fail)
          obtain ⟨W4, hW4⟩ : ∃ W4, w3.alloc (.cells #[.int .i64 y.d, .string (mkS y.bk), .string (mkS y.ky), .slice Ay (byN y.dt).length cy, .int .i64 y.n, .int .i64 y.a, .string (mkS y.pf), .string (mkS y.fr), .int .i64 y.fi, .int .i64 y.mo] 39) = W4 := ⟨_, rfl⟩
          rw [hW4]
          have HS4' : Hid (RPaSt w all (.slice (some ⟨g0, 0, none⟩) q cp) gh i0 i1 i2 acc sv W4) := by rw [← hW4]; exact HS4.out
          have HK4' : Hid (W4.heap[w3.heap.size]? = some (.cells (chCells y (.slice Ay (byN y.dt).length cy)).toArray 39 (0, 0))) := by rw [← hW4]; exact HK4.out
          have HFK : Hid (Kd.FK kCh W4 (fun j => wr.heap.size ≤ j) y (chCells y (.slice Ay (byN y.dt).length cy))) := by rw [← hW4]; exact kCh_mkF ⟨Ay, cy, rfl, hly, HFY.out⟩
          have hw4s : wr.heap.size ≤ W4.heap.size := by rw [← hW4]; simp; omega
          clear hW4 HS4 HK4 HFY
          have hr4 := HK4'.out
          unfold chCells at hr4
          have c0 := (blk_cell hr4 0).trans (rfl : _ = some (Value.int .i64 y.d))
          have c1 := (blk_cell hr4 1).trans (rfl : _ = some (Value.string (mkS y.bk)))
          have c2 := (blk_cell hr4 2).trans (rfl : _ = some (Value.string (mkS y.ky)))
          have c3 := (blk_cell hr4 3).trans (rfl : _ = some (Value.slice Ay (byN y.dt).length cy))
          have c4 := (blk_cell hr4 4).trans (rfl : _ = some (Value.int .i64 y.n))
          have c5 := (blk_cell hr4 5).trans (rfl : _ = some (Value.int .i64 y.a))
          have c6 := (blk_cell hr4 6).trans (rfl : _ = some (Value.string (mkS y.pf)))
          have c7 := (blk_cell hr4 7).trans (rfl : _ = some (Value.string (mkS y.fr)))
          have c8 := (blk_cell hr4 8).trans (rfl : _ = some (Value.int .i64 y.fi))
          have c9 := (blk_cell hr4 9).trans (rfl : _ = some (Value.int .i64 y.mo))
          clear hr4
          go_wp2_with (at_builtin; refine Kd.N_append kCh (w0 := w) w.heap.size rfl (.tmp 82) (.tmp 84) 22 39 (.agg (chCells (bareC 0) (.slice none 0 0)).toArray) 128 rfl Tryd.underlying22 rinfo39 rfl (by decide) (by omega) sv acc y (chCells y (.slice Ay (byN y.dt).length cy)) (fun j => gh < j) (fun j => wr.heap.size ≤ j) rfl rfl HFK.out (fun j hj => ⟨by omega, fun e => by have := HOW.out j e.symm; omega⟩) (fun j hj => by omega) HS4'.out.o HS4'.out.b HS4'.out.b.size (by omega) ?_; intro v1 w5 hN5 hb5 hg5 hat5)
          have HS5 : Hid (RPaSt w all (.slice (some ⟨g0, 0, none⟩) q cp) gh i0 i1 i2 (acc ++ [y]) v1 w5) :=
            ⟨hb5, blk_grown HS4'.out.r hg5 (fun e => by have := HS4'.out.o.1 _ e.symm; omega), Kd.R_grown2 HS4'.out.s rfl hg5 (fun j hj e => by have h1 := HS4'.out.o.1 j hj; have h2 := (HS4'.out.s.1 j e.symm).2; omega), blk_grown HS4'.out.p hg5 (fun e => by have := HS4'.out.o.1 _ e.symm; omega), hN5, fun c hc => by
              rcases List.mem_append.1 hc with hc | hc
              · exact HS4'.out.k c hc
              · rw [List.mem_singleton.1 hc]; exact hok.mono hxl⟩
          clear hN5 hb5 hg5 hat5 c0 c1 c2 c3 c4 c5 c6 c7 c8 c9
          go_roundw
          case rel => exact ⟨k + 1, acc ++ [y], v1, rfl, by go_num, by omega, by omega, by simp; omega, HR3, HS5⟩
          case measure => simp [intOf]; omega
      · obtain rfl : k = n := by omega
        have hltq : (k : Int) < (q : Int) := by have := HQN.out; omega
        have hak : all[k]? = some la := by rw [HA.out.2.1, List.getElem?_append_right (by rw [HCT.out.f]; omega), HCT.out.f, Nat.sub_self]; rfl
        have hcw := str_at HCT.out.z.symm HS.out.s k la hak
        have hxl : la.length ≤ 20000 := HALL.out la (List.mem_of_getElem? hak)
        have hR0 : Hid (parseC s = .no (k + 1) 19) := by
          show _ = _
          have h2 := HRE.out
          rw [List.drop_eq_nil_of_le (by rw [HCT.out.f]; omega), readL] at h2
          rw [hPl.out, parseL, HRR.out, ← h2]
          simp only []
          rw [if_pos (.inr HA.out.1), HCT.out.f]
        have hkq : ((k : Int) == (q : Int) - 1) = true := by have := HQN.out; rw [beq_iff_eq]; omega
        clear HRE hlt hak
        go_wp2_with fail
        refine (rchoice_is la _ hxl).mono ?_
        rintro e w3 ⟨⟨y, v, rfl, hy, hdt, hok⟩, hb3⟩
        obtain ⟨Ay, cy, rfl, hly, hfy⟩ := hdt
        obtain ⟨o4, ho4⟩ : ∃ o4, Obj.cells (chCells y (.slice Ay (byN y.dt).length cy)).toArray 39 (0, 0) = o4 := ⟨_, rfl⟩
        have HS4 := Lib.hid ((HS.out.below hb3).below ((Below.refl _ _).alloc (Nat.le_refl _) o4))
        rw [← ho4] at HS4
        clear ho4 o4 hb3 hcw hfy hy
        unfold chCells at HS4
        unfold chCells
        obtain ⟨b, hb⟩ : ∃ b, (choiceC la).isSome = b := ⟨_, rfl⟩
        rw [hb]
        clear hb
        cases b
        all_goals
          go_wp2_with (refine wpList_store_row rfl 26 (.tmp 2) (.tmp 79) rfl w.heap.size #[.int .i64 0, .int .i64 0, .int .i64 0] rfl rfl 26 _ HS4.out.r (by kernel_rfl) rfl (three_all _ _ _) ?_)
          refine bodyPost_ret (results_c5 rfl _ _ w.heap.size 26 #[.int .i64 0, .int .i64 0, .int .i64 0] (0, 0) _ rfl (setRow_heap _ _ _ _ _ _ HS4.out.r) Tryd.underlying26 rfl (by kernel_rfl)) rfl ?_
          exact rparse_none hR0.out (below_setRow HS4.out.b (Nat.le_refl _) _)

theorem rparse_is (s : List UInt8) (w : World) (hs : s.length ≤ 90000) (hll : ∀ x ∈ splitB 10 s, x.length ≤ 20000) : Calls Tryd.prog 20 #[.string (mkS s)] w (RParseIs s w) := by
  obtain ⟨all, F, la, left, n, q, hc⟩ := cuts_of s (by omega)
  cases left
  · exact rparse_all s all F la n q hc w (by omega) hll
  · exact rparse_on s all F la n q hc w (by omega) hll
end Go.Proofs.YtghllfihmmlcnaaDoor
