/- PageWalks is true of every input: who goes on from each page to the next one sees all, once each, in order, however many go on a page. -/
import Derived.Test.YtgaejaadjmcckaaPRVer
import Derived.Test.YtgaejaadjmcckaaPWalkP
import Derived.Test.YtgaejaadjmcckaaPArg
import Derived.Deep.DeepCutAuto
import Derived.Deep.RegionLaw
import Derived.BigRegion
namespace Go.Proofs.Ytgaejaadjmcckaa.pageWalks
open Go.ChangeShapes Go.WideShapes Go.ChangeAt Go.RowKit Go.Shelf Go.Lib Nam

section
variable {H : Type} {enc : TypeId × Value → H}

theorem own_below {w w' : World} {base n : Nat} {e : TypeId} {size : Nat} {v : Value} {xs : List Value} (h : w.ownsRow base e size v n xs) (hb : Below w.heap.size w w') : w'.ownsRow base e size v n xs :=
  h.kept (row := none) ⟨hb.os, hb.tape, hb.output, hb.size, fun k hk _ => hb.block k hk⟩ (by cases v.ownBlock <;> simp)
theorem rowE_kept {N g : Nat} {a b : World} {v : Value} {l : List Ent} (h : RowE a v l) (hk : KeptBut N g a b) (hN : a.heap.size ≤ N) (hne : ∀ x o n c, v = .slice (some ⟨x, o, none⟩) n c → x ≠ g) : RowE b v l := by
  rcases h with h | ⟨x, o, cap, h1, h2, h3⟩
  · exact .inl h
  · refine .inr ⟨x, o, cap, h1, Nat.lt_of_lt_of_le h2 hk.size, fun j u hj => ?_⟩
    rw [hk.cell (p := ⟨x, o + j, none⟩) (by show x < N; omega) (hne x o _ _ h1)]
    exact h3 j u hj
theorem rowE_lt {a : World} {v : Value} {l : List Ent} (h : RowE a v l) : ∀ x o n c, v = .slice (some ⟨x, o, none⟩) n c → x < a.heap.size := by
  intro x o n c hv
  rcases h with ⟨h, _⟩ | ⟨y, o', cap, h1, h2, _⟩
  · rw [h] at hv; cases hv
  · rw [h1] at hv; cases hv; exact h2

section
variable {l S : List Ent} (FM : FairM l) (hp : S.Perm l) (hs : SortedE S) (s : ByteArray) (hl : l.length ≤ 1000) (hk : ∀ x ∈ l, x.key.size ≤ maxLen) (hq : s.size ≤ maxLen) (v : Value) (w : World) (hv : RowE w v l)
include FM hp hs hl hk hq hv
theorem rvers_all : Calls Try.prog 18 #[v, .agg #[.string s, .string ⟨#[]⟩, .int .i64 0, .int .i64 1000]] w fun e w' =>
    ∃ sv mo ke ci er, e = .returned (.tuple #[.agg #[sv, .bool mo, .string ke, .int .i64 ci], .int .i64 er]) ∧ RowE w' sv (versL s S) ∧ Below w.heap.size w w' := by
  refine Calls.mono (rvers_pg FM hp hs ⟨s, ⟨#[]⟩, 0, 1000⟩ (by omega) hk hq (by show (0 : Nat) ≤ _; exact Nat.zero_le _) v w hv) ?_
  rintro e w' ⟨sv, L, mo, ke, ci, er, rfl, h1, _, h2, h3⟩
  have e1 : L = versL s S := by
    unfold PgIs at h3
    rw [if_pos (show pgOk ⟨s, ⟨#[]⟩, 0, 1000⟩ = true from rfl)] at h3
    rw [h3.1, show pgB true ⟨s, ⟨#[]⟩, 0, 1000⟩ = verB ⟨s, ⟨#[]⟩, 0, 1000⟩ from rfl, selE_all, List.take_of_length_le]
    · rfl
    · show _ ≤ 1000
      exact Nat.le_trans (List.length_filter_le _ _) (by rw [hp.length_eq]; exact hl)
  rw [e1] at h1
  exact ⟨sv, mo, ke, ci, er, rfl, h1, h2⟩
theorem robjs_all : Calls Try.prog 16 #[v, .agg #[.string s, .string ⟨#[]⟩, .int .i64 0, .int .i64 1000]] w fun e w' =>
    ∃ sv mo ke ci er, e = .returned (.tuple #[.agg #[sv, .bool mo, .string ke, .int .i64 ci], .int .i64 er]) ∧ RowE w' sv (objsL s S) ∧ Below w.heap.size w w' := by
  refine Calls.mono (robjs_pg FM hp hs ⟨s, ⟨#[]⟩, 0, 1000⟩ (by omega) hk hq (by show (0 : Nat) ≤ _; exact Nat.zero_le _) v w hv) ?_
  rintro e w' ⟨sv, L, mo, ke, ci, er, rfl, h1, _, h2, h3⟩
  have e1 : L = objsL s S := by
    unfold PgIs at h3
    rw [if_pos (show pgOk ⟨s, ⟨#[]⟩, 0, 1000⟩ = true from rfl)] at h3
    rw [h3.1, show pgB false ⟨s, ⟨#[]⟩, 0, 1000⟩ = objB ⟨s, ⟨#[]⟩, 0, 1000⟩ from rfl, objs_tok (FM.perm hp) hs s (n := 1) (i := 0) (by omega) ⟨#[]⟩ 0 0 1000 (.inl ⟨rfl, rfl⟩), Nat.zero_mul, List.drop_zero, List.take_of_length_le]
    show _ ≤ 1000
    exact Nat.le_trans (Nat.le_trans (List.length_filter_le _ _) (List.length_filter_le _ _)) (by rw [hp.length_eq]; exact hl)
  rw [e1] at h1
  exact ⟨sv, mo, ke, ci, er, rfl, h1, h2⟩
/-- The page of versions that goes on from a token. -/
theorem pvers_on {n i : Nat} (hn : 1 ≤ n ∧ n ≤ 20) (fr : ByteArray) (fid : Int) (ht : TokAt (versL s S) n i fr fid) : Calls Try.prog 17 #[v, .agg #[.string s, .string fr, .int .i64 fid, .int .i64 n]] w fun e w' =>
    ∃ sv, e = .returned (.tuple #[.agg #[sv, .bool (decide (n < ((versL s S).drop (i * n)).length)), .string (cutKey n ((versL s S).drop (i * n))), .int .i64 (cutId n ((versL s S).drop (i * n)))], .int .i64 0]) ∧ RowE w' sv (((versL s S).drop (i * n)).take n) ∧ Below w.heap.size w w' := by
  refine Calls.mono (vers_at FM hp hs ⟨s, fr, fid, n⟩ (by omega) hk hq ⟨show (1 : Int) ≤ n by omega, show (n : Int) ≤ 1000 by omega⟩ v w hv) ?_
  rintro e w' ⟨sv, h1, _, h2, h3⟩
  rw [vers_tok (FM.perm hp) hs s hn.1 fr fid n ht] at h1 h3
  rw [show (⟨s, fr, fid, n⟩ : AskV).most.toNat = n from by show ((n : Int)).toNat = n; omega] at h1 h3
  exact ⟨sv, h3, h1, h2⟩
theorem pobjs_on {n i : Nat} (hn : 1 ≤ n ∧ n ≤ 20) (fr : ByteArray) (fid fid' : Int) (ht : TokAt (objsL s S) n i fr fid') : Calls Try.prog 14 #[v, .agg #[.string s, .string fr, .int .i64 fid, .int .i64 n]] w fun e w' =>
    ∃ sv, e = .returned (.tuple #[.agg #[sv, .bool (decide (n < ((objsL s S).drop (i * n)).length)), .string (cutKey n ((objsL s S).drop (i * n))), .int .i64 0], .int .i64 0]) ∧ RowE w' sv (((objsL s S).drop (i * n)).take n) ∧ Below w.heap.size w w' := by
  refine Calls.mono (objs_at FM hp hs ⟨s, fr, fid, n⟩ (by omega) hk hq ⟨show (1 : Int) ≤ n by omega, show (n : Int) ≤ 1000 by omega⟩ v w hv) ?_
  rintro e w' ⟨sv, h1, _, h2, h3⟩
  rw [objs_tok (FM.perm hp) hs s hn.1 fr fid fid' n ht] at h1 h3
  rw [show (⟨s, fr, fid, n⟩ : AskV).most.toNat = n from by show ((n : Int)).toNat = n; omega] at h1 h3
  exact ⟨sv, h3, h1, h2⟩
end

set_option maxHeartbeats 2000000 in
set_option maxRecDepth 100000 in
theorem walk (l : List Ent) (hl : l.length ≤ maxLen) (v : Value) (W : World) (hr : RowE W v l) (s : ByteArray) (hs : s.size ≤ maxLen) (a : Int) (wa : (Lit.int .u8 a).wf = true) :
    Calls Try.prog 5 #[v, .string s, .int .u8 a] W fun e W' => e = .returned (.bool true) ∧ Below W.heap.size W W' := by
  obtain ⟨a0, a1⟩ := wf_u8 wa
  clear wa
  obtain ⟨p, c, rfl, -⟩ := len_of_row hr
  have HR := Lib.hid hr; clear hr
  go_enter Try.func5, Try.ntmps5
  go_wp2_with fail
  refine (pawake_is _).mono ?_
  rintro e w1 ⟨rfl, hb1⟩
  have HR1 := Lib.hid (HR.out.below hb1)
  have HB1 := Lib.hid hb1; clear hb1
  cases hf : fewB l
  · have HF := Lib.hid (few_is l hl _ w1 HR1.out)
    rw [hf] at HF
    go_wp2_with fail
    refine HF.out.mono ?_
    rintro e w' ⟨rfl, rfl⟩
    go_wp2_with fail
    go_ret
    exact ⟨rfl, HB1.out⟩
  have HF := Lib.hid (few_is l hl _ w1 HR1.out)
  rw [hf] at HF
  have h200 : l.length ≤ 200 := by
    unfold fewB at hf
    simp only [Bool.and_eq_true, decide_eq_true_eq] at hf
    exact hf.1
  have HK : Hid (∀ x ∈ l, x.key.size ≤ 500) := by
    unfold fewB at hf
    simp only [Bool.and_eq_true, decide_eq_true_eq, List.all_eq_true] at hf
    exact hf.2
  have HF1 := Lib.hid (fair_is l (by omega) _ w1 HR1.out)
  clear hf
  go_wp2_with fail
  refine HF.out.mono ?_
  rintro e w' ⟨rfl, rfl⟩
  go_wp2_with fail
  refine HF1.out.mono ?_
  rintro e w2 ⟨b, rfl, hfp, q, rfl⟩
  cases b
  · clear hfp
    go_wp2_with fail
    go_ret
    exact ⟨rfl, HB1.out.drewN _⟩
  have FM := Lib.hid ((hfp rfl).m)
  clear hfp HF HF1
  obtain ⟨w2, hw2⟩ : ∃ w2, w1.drewN q = w2 := ⟨_, rfl⟩
  rw [hw2]
  have HR2 := Lib.hid (show RowE w2 (.slice p l.length c) l by rw [← hw2]; exact HR1.out.below ((Below.refl _ _).drewN q))
  have HB2 := Lib.hid (show Below W.heap.size W w2 by rw [← hw2]; exact HB1.out.drewN q)
  clear hw2 HR1 HB1
  unfold maxLen at hs
  by_cases h100 : 100 < s.size
  · have hz : (100 : Int) < (s.size : Int) := by omega
    go_wp2_with fail
    go_ret
    exact ⟨rfl, HB2.out⟩
  have hz : (s.size : Int) ≤ 100 := by omega
  obtain ⟨S, hSp, hSs⟩ := sorted_ex l
  have hSl : S.length = l.length := hSp.length_eq
  have HK2 : ∀ x ∈ l, x.key.size ≤ maxLen := fun x hx => by have := HK.out x hx; unfold maxLen; omega
  have hq : s.size ≤ maxLen := by unfold maxLen; omega
  have HSP := Lib.hid hSp
  have HSS := Lib.hid hSs
  have hS200 : S.length ≤ 200 := by omega
  have hV200 : (versL s S).length ≤ 200 := Nat.le_trans (List.length_filter_le _ _) hS200
  have hO200 : (objsL s S).length ≤ 200 := Nat.le_trans (List.length_filter_le _ _) hV200
  have hVl : (versL s S).length ≤ l.length := Nat.le_trans (List.length_filter_le _ _) (Nat.le_of_eq hSl)
  have hOl : (objsL s S).length ≤ l.length := Nat.le_trans (List.length_filter_le _ _) hVl
  have rva := fun w hv => rvers_all FM.out hSp hSs s (by omega) HK2 hq (.slice p l.length c) w hv
  have roa := fun w hv => robjs_all FM.out hSp hSs s (by omega) HK2 hq (.slice p l.length c) w hv
  have pvo := fun w hv n i (hn : 1 ≤ n ∧ n ≤ 20) fr fid ht => pvers_on FM.out hSp hSs s (by omega) HK2 hq (.slice p l.length c) w hv (n := n) (i := i) hn fr fid ht
  have poo := fun w hv n i (hn : 1 ≤ n ∧ n ≤ 20) fr fid fid' ht => pobjs_on FM.out hSp hSs s (by omega) HK2 hq (.slice p l.length c) w hv (n := n) (i := i) hn fr fid fid' ht
  obtain ⟨V, hV⟩ : ∃ V, versL s S = V := ⟨_, rfl⟩
  obtain ⟨O, hO⟩ : ∃ O, objsL s S = O := ⟨_, rfl⟩
  rw [hV] at rva hV200 hVl
  rw [hO] at roa hO200 hOl
  simp only [hV] at pvo
  simp only [hO] at poo
  have RVA := Lib.hid rva
  have ROA := Lib.hid roa
  have PVO := Lib.hid pvo
  have POO := Lib.hid poo
  clear rva roa pvo poo hV hO hSp hSs hSl HK2
  go_upto_region 5 with (fail)
  go_cut [7] (fun v7 wx => ∃ n : Nat, v7 = .int .i64 n ∧ (1 ≤ n ∧ n ≤ 20) ∧ wx = w2)
  case first =>
    obtain ⟨m, hm⟩ : ∃ m : Nat, a % 20 = m := ⟨(a % 20).toNat, by omega⟩
    have hm2 : Int.tmod a 20 = m := by rw [Int.tmod_eq_emod_of_nonneg a0]; exact hm
    have hlt : m ≤ 19 := by omega
    go_wp2_with fail
    go_meet
    case rel => exact ⟨1 + m, by go_num, ⟨by omega, by omega⟩, rfl⟩
  case rest =>
  obtain ⟨n, rfl, hn, rfl⟩ := hcut
  go_wp2_with fail
  refine (RVA.out _ HR2.out).mono ?_
  rintro e w3 ⟨sA, mA, kA, cA, eA, rfl, hrA, hb3⟩
  obtain ⟨pA, dA, rfl, -⟩ := len_of_row hrA
  have HRA := Lib.hid hrA
  have HR3 := Lib.hid (HR2.out.below hb3)
  have HB3 := Lib.hid (HB2.out.trans (hb3.mono HB2.out.size))
  clear hb3 hrA HR2 HB2
  go_upto_region 7 with (fail)
  obtain ⟨w4, hw4⟩ : ∃ w4, w3.alloc (.cells #[.slice pA V.length dA, .bool mA, .string kA, .int .i64 cA] 43) = w4 := ⟨_, rfl⟩
  rw [hw4]
  have hxA : w4.heap[w3.heap.size]? = some (.cells #[.slice pA V.length dA, .bool mA, .string kA, .int .i64 cA] 43 (0, 0)) := by rw [← hw4]; exact heap_alloc_new w3 _
  have hb4 : Below w3.heap.size w3 w4 := by rw [← hw4]; exact (Below.refl _ _).alloc (Nat.le_refl _) _
  have hs4 : w3.heap.size < w4.heap.size := by rw [← hw4]; simp
  have HB4 := Lib.hid (HB3.out.trans (hb4.mono HB3.out.size))
  have HR4 := Lib.hid (HR3.out.below hb4)
  have HRA4 := Lib.hid (HRA.out.below hb4)
  have HXA4 := Lib.hid hxA
  clear hw4 hxA hb4 HB3 HR3 HRA
  go_wp2_with fail
  refine (ROA.out _ HR4.out).mono ?_
  rintro e w5 ⟨sO, mO, kO, cO, eO, rfl, hrO, hb5⟩
  obtain ⟨pO, dO, rfl, -⟩ := len_of_row hrO
  have HRO := Lib.hid hrO
  have HR5 := Lib.hid (HR4.out.below hb5)
  have HB5 := Lib.hid (HB4.out.trans (hb5.mono HB4.out.size))
  have HRA5 := Lib.hid (HRA4.out.below hb5)
  have HXA5 := Lib.hid ((hb5.block _ hs4).trans HXA4.out)
  have hs5 : w3.heap.size < w5.heap.size := Nat.lt_of_lt_of_le hs4 hb5.size
  clear hb5 hrO HR4 HB4 HRA4 HXA4 hs4
  go_upto_region 10 with (fail)
  obtain ⟨w6, hw6⟩ : ∃ w6, w5.alloc (.cells #[.slice pO O.length dO, .bool mO, .string kO, .int .i64 cO] 43) = w6 := ⟨_, rfl⟩
  rw [hw6]
  have hxO : w6.heap[w5.heap.size]? = some (.cells #[.slice pO O.length dO, .bool mO, .string kO, .int .i64 cO] 43 (0, 0)) := by rw [← hw6]; exact heap_alloc_new w5 _
  have hb6 : Below w5.heap.size w5 w6 := by rw [← hw6]; exact (Below.refl _ _).alloc (Nat.le_refl _) _
  have s6 : w6.heap.size = w5.heap.size + 1 := by rw [← hw6]; simp
  have HB6 := Lib.hid (HB5.out.trans (hb6.mono HB5.out.size))
  have HR6 := Lib.hid (HR5.out.below hb6)
  have HRA6 := Lib.hid (HRA5.out.below hb6)
  have HRO6 := Lib.hid (HRO.out.below hb6)
  have HXA6 := Lib.hid ((hb6.block _ hs5).trans HXA5.out)
  have HXO6 := Lib.hid hxO
  have hs6 : w3.heap.size < w6.heap.size := by omega
  have hs65 : w5.heap.size < w6.heap.size := by omega
  rw [show w5.heap.size + 1 = w6.heap.size from s6.symm]
  have HS6 := Lib.hid s6
  clear hw6 hxO hb6 HB5 HR5 HRA5 HXA5 HRO hs5 s6
  obtain ⟨w8, hw8⟩ : ∃ w8, (w6.alloc (.cells #[.string s, .string ⟨#[]⟩, .int .i64 0, .int .i64 n] 41)).alloc (.cells #[.string s, .string ⟨#[]⟩, .int .i64 0, .int .i64 n] 41) = w8 := ⟨_, rfl⟩
  rw [hw8]
  have s8 : w8.heap.size = w6.heap.size + 2 := by rw [← hw8]; simp
  have hb8 : Below w6.heap.size w6 w8 := by rw [← hw8]; exact ((Below.refl _ _).alloc (Nat.le_refl _) _).alloc (by simp) _
  have h14 : w8.heap[w6.heap.size]? = some (.cells #[.string s, .string ⟨#[]⟩, .int .i64 0, .int .i64 n] 41 (0, 0)) := by rw [← hw8, heap_alloc_old _ _ (by simp), heap_alloc_new]
  have h15 : w8.heap[w6.heap.size + 1]? = some (.cells #[.string s, .string ⟨#[]⟩, .int .i64 0, .int .i64 n] 41 (0, 0)) := by
    rw [← hw8]
    have := heap_alloc_new (w6.alloc (.cells #[.string s, .string ⟨#[]⟩, .int .i64 0, .int .i64 n] 41)) (.cells #[.string s, .string ⟨#[]⟩, .int .i64 0, .int .i64 n] 41)
    simpa using this
  have HB8 := Lib.hid (HB6.out.trans (hb8.mono HB6.out.size))
  have HR8 := Lib.hid (HR6.out.below hb8)
  have HRA8 := Lib.hid (HRA6.out.below hb8)
  have HRO8 := Lib.hid (HRO6.out.below hb8)
  have HXA8 := Lib.hid ((hb8.block _ hs6).trans HXA6.out)
  have HXO8 := Lib.hid ((hb8.block _ hs65).trans HXO6.out)
  have HLT := Lib.hid (rowE_lt HR6.out)
  have HLA := Lib.hid (rowE_lt HRA6.out)
  have HLO := Lib.hid (rowE_lt HRO6.out)
  have H14 := Lib.hid h14
  have H15 := Lib.hid h15
  have HW6 := Lib.hid (show W.heap.size ≤ w6.heap.size from HB6.out.size)
  clear hw8 h14 h15 hb8 HB6 HR6 HRA6 HRO6 HXA6 HXO6 HS6
  go_wp2_with fail
  go_loopw [12, 16] (fun vx vi wr => ∃ (i : Nat) (sv : Value) (fr : ByteArray) (fid : Int), sv = vx ∧ vi = .int .i64 i ∧ i ≤ l.length ∧ Hid (TokAt V n i fr fid) ∧
    Hid (wr.ownsRow w8.heap.size 32 6 sv (V.take (i * n)).length ((V.take (i * n)).flatMap encE)) ∧ Hid (KeptBut w8.heap.size (w6.heap.size) w8 wr) ∧
    Hid (wr.heap[w6.heap.size]? = some (.cells #[.string s, .string fr, .int .i64 fid, .int .i64 n] 41 (0, 0)))) (fun _ v _ => 201 - (intOf v).toNat)
  case atStart => exact ⟨0, _, ⟨#[]⟩, 0, rfl, rfl, Nat.zero_le _, .inl ⟨rfl, rfl⟩, by show World.ownsRow _ _ _ _ _ _ _; rw [Nat.zero_mul]; exact ⟨rfl, .inl ⟨rfl, rfl⟩⟩, KeptBut.refl _ _ _, H14⟩
  case round =>
    obtain ⟨i, sv, fr, fid, hsv, rfl, hi, HT, HO, HKB, HG⟩ := hrel
    subst hsv
    have hle : (i : Int) ≤ (l.length : Int) := by omega
    have hgB : w6.heap.size < w8.heap.size := by omega
    have hwr : w8.heap.size ≤ wr.heap.size := HKB.out.size
    have c0 := (cells_of_heap HG.out).1 0 _ rfl
    have c1 := (cells_of_heap HG.out).1 1 _ rfl
    have c2 := (cells_of_heap HG.out).1 2 _ rfl
    have c3 := (cells_of_heap HG.out).1 3 _ rfl
    have HRr := Lib.hid (rowE_kept HR8.out HKB.out (Nat.le_refl _) (fun x o n c hv => by have := HLT.out x o n c hv; omega))
    go_wp2_with fail
    refine (PVO.out _ HRr.out n i hn fr fid HT.out).mono ?_
    rintro e wn1 ⟨sP, rfl, hrP, hbn⟩
    obtain ⟨T, hT⟩ : ∃ T, V.drop (i * n) = T := ⟨_, rfl⟩
    rw [hT] at hrP ⊢
    obtain ⟨pP, dP, rfl, -⟩ := len_of_row hrP
    obtain ⟨tl, htl⟩ : ∃ tl, (T.take n).length = tl := ⟨_, rfl⟩
    obtain ⟨mo, hmo⟩ : ∃ b, decide (n < T.length) = b := ⟨_, rfl⟩
    obtain ⟨ke, hke⟩ : ∃ b, cutKey n T = b := ⟨_, rfl⟩
    obtain ⟨ci, hci⟩ : ∃ b, cutId n T = b := ⟨_, rfl⟩
    rw [htl] at hrP ⊢
    rw [hmo, hke, hci]
    have htl1 : (tl : Int) ≤ (n : Int) := by rw [List.length_take] at htl; omega
    have hd1 : decide (n < tl) = false := by rw [List.length_take] at htl; simp; omega
    have HTL := Lib.hid htl; clear htl
    have HMO := Lib.hid hmo; clear hmo
    have HKE := Lib.hid hke; clear hke
    have HCI := Lib.hid hci; clear hci
    have HTT := Lib.hid hT; clear hT
    have hs0 : wr.heap.size ≤ wn1.heap.size := hbn.size
    have HKn := Lib.hid (HKB.out.below hwr hbn)
    have HGn := Lib.hid ((hbn.block _ (by omega)).trans HG.out)
    have HOn := Lib.hid (own_below HO.out hbn)
    have HLTn := Lib.hid (show ∀ k, sv.ownBlock = some k → k < wn1.heap.size from fun k hk => (HOn.out.lt k hk).2)
    have HRP := Lib.hid hrP
    clear hbn hrP c0 c1 c2 c3 HRr HO HKB HG
    go_upto_region 14 with (fail)
    obtain ⟨wm1, hwm⟩ : ∃ wm1, wn1.alloc (.cells #[.slice pP tl dP, .bool mo, .string ke, .int .i64 ci] 37) = wm1 := ⟨_, rfl⟩
    rw [hwm]
    have hxm : wm1.heap[wn1.heap.size]? = some (.cells #[.slice pP tl dP, .bool mo, .string ke, .int .i64 ci] 37 (0, 0)) := by rw [← hwm]; exact heap_alloc_new wn1 _
    have hbm : Below wn1.heap.size wn1 wm1 := by rw [← hwm]; exact (Below.refl _ _).alloc (Nat.le_refl _) _
    have hsm : wm1.heap.size = wn1.heap.size + 1 := by rw [← hwm]; simp
    have HKm := Lib.hid (HKn.out.below (by omega) hbm)
    have HGm := Lib.hid ((hbm.block _ (by omega)).trans HGn.out)
    have HOm := Lib.hid (own_below HOn.out hbm)
    have HRPm := Lib.hid (HRP.out.below hbm)
    have HXm := Lib.hid hxm
    have m0 := (cells_of_heap hxm).1 0 _ rfl
    have htk1 : (V.take (i * n)).length ≤ 200 := by rw [List.length_take]; omega
    have htk2 : (T.take n).length ≤ 200 := by rw [List.length_take]; omega
    clear hwm hxm hbm HKn HGn HOn HRP
    go_upto_region 15 with (at_builtin; refine wpList_append_rowE rfl (.tmp 73) (.tmp 75) rfl rfl HOm.out rfl HRPm.out (by omega) (by omega) ?_; intro v2 wa1 hown2 hgr2 _; have HO2 := Lib.hid hown2; clear hown2; have HK2 := Lib.hid (HKm.out.grown (by omega) hgr2 (own_ge HOm.out)); have HG2 := Lib.hid ((hgr2.block _ (by omega) (fun e => by have := own_ge HOm.out _ e.symm; omega)).trans HGm.out); have HX2 := Lib.hid ((hgr2.block _ (by omega) (fun e => by have := HLTn.out _ e.symm; omega)).trans HXm.out); have hsa : wm1.heap.size ≤ wa1.heap.size := hgr2.size; clear hgr2)
    have u0 := (cells_of_heap HX2.out).1 0 _ rfl
    have u1 := (cells_of_heap HX2.out).1 1 _ rfl
    have u2 := (cells_of_heap HX2.out).1 2 _ rfl
    have u3 := (cells_of_heap HX2.out).1 3 _ rfl
    have HO3 : Hid (wa1.ownsRow w8.heap.size 32 6 v2 (V.take ((i + 1) * n)).length ((V.take ((i + 1) * n)).flatMap encE)) := by
      show World.ownsRow _ _ _ _ _ _ _
      rw [← take_more, HTT.out]
      exact HO2.out
    clear m0 HKm HGm HOm HXm HO2 HRPm
    cases mo
    · have hnl : ¬ n < T.length := by have := HMO.out; simpa using this
      go_upto_region 19 with (fail)
      have hx9 : RowE wa1 v2 V := by
        have := (rowE_own HO3.out).1
        rwa [List.take_of_length_le (by have h1 := HTT.out; rw [← h1, List.length_drop] at hnl; rw [Nat.add_mul]; omega)] at this
      have HX9 := Lib.hid hx9
      have HXF := Lib.hid (rowE_own HO3.out).2
      have hne : ∀ {g : Nat}, g < w6.heap.size → g ≠ w6.heap.size := fun h => by omega
      have HR9 := Lib.hid (rowE_kept HR8.out HK2.out (Nat.le_refl _) (fun x o n c hv => by have := HLT.out x o n c hv; omega))
      have HRA9 := Lib.hid (rowE_kept HRA8.out HK2.out (Nat.le_refl _) (fun x o n c hv => by have := HLA.out x o n c hv; omega))
      have HRO9 := Lib.hid (rowE_kept HRO8.out HK2.out (Nat.le_refl _) (fun x o n c hv => by have := HLO.out x o n c hv; omega))
      have HXA9 := Lib.hid ((HK2.out.block w3.heap.size (by omega) (by omega)).trans HXA8.out)
      have HXO9 := Lib.hid ((HK2.out.block w5.heap.size (by omega) (by omega)).trans HXO8.out)
      have H159 := Lib.hid ((HK2.out.block (w6.heap.size + 1) (by omega) (by omega)).trans H15.out)
      have HB9 := Lib.hid (HK2.out.toBelow HB8.out HB8.out.size HW6.out)
      have hs9 : w8.heap.size ≤ wa1.heap.size := HK2.out.size
      clear hx9 hne u0 u1 u2 u3 HO3 HK2 HG2 HX2 HR8 HRA8 HRO8 HXA8 HXO8 H14 H15 HB8 HT
      go_wp2_with fail
      go_loopw [13, 19] (fun vx vi wr => ∃ (i : Nat) (sv : Value) (fr : ByteArray) (fid : Int), sv = vx ∧ vi = .int .i64 i ∧ i ≤ l.length ∧ Hid (TokAt O n i fr fid) ∧
        Hid (wr.ownsRow wa1.heap.size 32 6 sv (O.take (i * n)).length ((O.take (i * n)).flatMap encE)) ∧ Hid (KeptBut wa1.heap.size (w6.heap.size + 1) wa1 wr) ∧
        Hid (wr.heap[w6.heap.size + 1]? = some (.cells #[.string s, .string fr, .int .i64 0, .int .i64 n] 41 (0, 0)))) (fun _ v _ => 201 - (intOf v).toNat)
      case atStart => exact ⟨0, _, ⟨#[]⟩, 0, rfl, rfl, Nat.zero_le _, .inl ⟨rfl, rfl⟩, by show World.ownsRow _ _ _ _ _ _ _; rw [Nat.zero_mul]; exact ⟨rfl, .inl ⟨rfl, rfl⟩⟩, KeptBut.refl _ _ _, H159⟩
      case round =>
        obtain ⟨i, sv, fr, fid, hsv, rfl, hi, HT, HO, HKB, HG⟩ := hrel
        subst hsv
        have hle : (i : Int) ≤ (l.length : Int) := by omega
        have hgB : w6.heap.size + 1 < wa1.heap.size := by omega
        have hwr : wa1.heap.size ≤ wr.heap.size := HKB.out.size
        have c0 := (cells_of_heap HG.out).1 0 _ rfl
        have c1 := (cells_of_heap HG.out).1 1 _ rfl
        have c2 := (cells_of_heap HG.out).1 2 _ rfl
        have c3 := (cells_of_heap HG.out).1 3 _ rfl
        have HRr := Lib.hid (rowE_kept HR9.out HKB.out (Nat.le_refl _) (fun x o n c hv => by have := HLT.out x o n c hv; omega))
        go_wp2_with fail
        refine (POO.out _ HRr.out n i hn fr 0 fid HT.out).mono ?_
        rintro e wn2 ⟨sP, rfl, hrP, hbn⟩
        obtain ⟨T, hT⟩ : ∃ T, O.drop (i * n) = T := ⟨_, rfl⟩
        rw [hT] at hrP ⊢
        obtain ⟨pP, dP, rfl, -⟩ := len_of_row hrP
        obtain ⟨tl, htl⟩ : ∃ tl, (T.take n).length = tl := ⟨_, rfl⟩
        obtain ⟨mo, hmo⟩ : ∃ b, decide (n < T.length) = b := ⟨_, rfl⟩
        obtain ⟨ke, hke⟩ : ∃ b, cutKey n T = b := ⟨_, rfl⟩
        rw [htl] at hrP ⊢
        rw [hmo, hke]
        have htl1 : (tl : Int) ≤ (n : Int) := by rw [List.length_take] at htl; omega
        have hd1 : decide (n < tl) = false := by rw [List.length_take] at htl; simp; omega
        have HTL := Lib.hid htl; clear htl
        have HMO := Lib.hid hmo; clear hmo
        have HKE := Lib.hid hke; clear hke
        have HTT := Lib.hid hT; clear hT
        have hs0 : wr.heap.size ≤ wn2.heap.size := hbn.size
        have HKn := Lib.hid (HKB.out.below hwr hbn)
        have HGn := Lib.hid ((hbn.block _ (by omega)).trans HG.out)
        have HOn := Lib.hid (own_below HO.out hbn)
        have HLTn := Lib.hid (show ∀ k, sv.ownBlock = some k → k < wn2.heap.size from fun k hk => (HOn.out.lt k hk).2)
        have HRP := Lib.hid hrP
        clear hbn hrP c0 c1 c2 c3 HRr HO HKB HG
        go_upto_region 23 with (fail)
        obtain ⟨wm2, hwm⟩ : ∃ wm2, wn2.alloc (.cells #[.slice pP tl dP, .bool mo, .string ke, .int .i64 0] 37) = wm2 := ⟨_, rfl⟩
        rw [hwm]
        have hxm : wm2.heap[wn2.heap.size]? = some (.cells #[.slice pP tl dP, .bool mo, .string ke, .int .i64 0] 37 (0, 0)) := by rw [← hwm]; exact heap_alloc_new wn2 _
        have hbm : Below wn2.heap.size wn2 wm2 := by rw [← hwm]; exact (Below.refl _ _).alloc (Nat.le_refl _) _
        have hsm : wm2.heap.size = wn2.heap.size + 1 := by rw [← hwm]; simp
        have HKm := Lib.hid (HKn.out.below (by omega) hbm)
        have HGm := Lib.hid ((hbm.block _ (by omega)).trans HGn.out)
        have HOm := Lib.hid (own_below HOn.out hbm)
        have HRPm := Lib.hid (HRP.out.below hbm)
        have HXm := Lib.hid hxm
        have m0 := (cells_of_heap hxm).1 0 _ rfl
        have htk1 : (O.take (i * n)).length ≤ 200 := by rw [List.length_take]; omega
        have htk2 : (T.take n).length ≤ 200 := by rw [List.length_take]; omega
        clear hwm hxm hbm HKn HGn HOn HRP
        go_upto_region 24 with (at_builtin; refine wpList_append_rowE rfl (.tmp 118) (.tmp 120) rfl rfl HOm.out rfl HRPm.out (by omega) (by omega) ?_; intro v2 wa2 hown2 hgr2 _; have HO2 := Lib.hid hown2; clear hown2; have HK2 := Lib.hid (HKm.out.grown (by omega) hgr2 (own_ge HOm.out)); have HG2 := Lib.hid ((hgr2.block _ (by omega) (fun e => by have := own_ge HOm.out _ e.symm; omega)).trans HGm.out); have HX2 := Lib.hid ((hgr2.block _ (by omega) (fun e => by have := HLTn.out _ e.symm; omega)).trans HXm.out); have hsa : wm2.heap.size ≤ wa2.heap.size := hgr2.size; clear hgr2)
        have u0 := (cells_of_heap HX2.out).1 0 _ rfl
        have u1 := (cells_of_heap HX2.out).1 1 _ rfl
        have u2 := (cells_of_heap HX2.out).1 2 _ rfl
        have u3 := (cells_of_heap HX2.out).1 3 _ rfl
        have HO3 : Hid (wa2.ownsRow wa1.heap.size 32 6 v2 (O.take ((i + 1) * n)).length ((O.take ((i + 1) * n)).flatMap encE)) := by
          show World.ownsRow _ _ _ _ _ _ _
          rw [← take_more, HTT.out]
          exact HO2.out
        clear m0 HKm HGm HOm HXm HO2 HRPm
        cases mo
        · have hnl : ¬ n < T.length := by have := HMO.out; simpa using this
          go_upto_region 28 with (fail)
          have hy9 : RowE wa2 v2 O := by
            have := (rowE_own HO3.out).1
            rwa [List.take_of_length_le (by have h1 := HTT.out; rw [← h1, List.length_drop] at hnl; rw [Nat.add_mul]; omega)] at this
          have hx9 := rowE_kept HX9.out HK2.out (Nat.le_refl _) (fun x o n c hv => by have := HXF.out x o n c hv; omega)
          have hra := rowE_kept HRA9.out HK2.out (Nat.le_refl _) (fun x o n c hv => by have := HLA.out x o n c hv; omega)
          have hro := rowE_kept HRO9.out HK2.out (Nat.le_refl _) (fun x o n c hv => by have := HLO.out x o n c hv; omega)
          have xa := (cells_of_heap ((HK2.out.block w3.heap.size (by omega) (by omega)).trans HXA9.out)).1 0 _ rfl
          have xo := (cells_of_heap ((HK2.out.block w5.heap.size (by omega) (by omega)).trans HXO9.out)).1 0 _ rfl
          have hBz := HK2.out.toBelow HB9.out HB9.out.size (by have := HW6.out; omega)
          have hm1 := same_is V V (by omega) (by omega) _ _ wa2 hx9 hra
          rw [decide_eq_true rfl] at hm1
          have hm2 := fun q => same_is O O (by omega) (by omega) _ _ (wa2.drewN q) (hy9.below ((Below.refl _ _).drewN q)) (hro.below ((Below.refl _ _).drewN q))
          simp only [decide_eq_true rfl] at hm2
          have HM1 := Lib.hid hm1
          have HM2 := Lib.hid hm2
          have HBZ := Lib.hid hBz
          clear hm1 hm2 hBz hy9 hx9 hra hro u0 u1 u2 u3 HO3 HK2 HG2 HX2
          go_wp2_with fail
          refine HM1.out.mono ?_
          rintro e wz ⟨rfl, q, rfl⟩
          go_wp2_with fail
          refine (HM2.out q).mono ?_
          rintro e wz ⟨rfl, q2, rfl⟩
          go_wp2
          go_ret
          exact ⟨rfl, HBZ.out.drewN _⟩
        · have hlt : n < T.length := by have := HMO.out; simpa using this
          have htl2 : (n : Int) ≤ (tl : Int) := by have h1 := HTL.out; rw [List.length_take] at h1; omega
          have htk := tok_next (V := O) (n := n) (i := i) hn.1 (by rw [HTT.out]; exact hlt)
          rw [HTT.out, HKE.out] at htk
          have hil : i + 1 ≤ l.length := by
            rcases htk with ⟨h1, _⟩ | ⟨_, h2, _⟩
            · omega
            · have h3 : (i + 1) * 1 ≤ (i + 1) * n := Nat.mul_le_mul_left _ hn.1
              omega
          have HTK := Lib.hid htk
          clear htk
          have k1 := (cells_of_heap HG2.out).1 1 _ rfl
          have k2 := (cells_of_heap HG2.out).1 2 _ rfl
          have f1 := (cells_of_heap HG2.out).2 1
          have f2 := (cells_of_heap HG2.out).2 2
          go_wp2
          have h9 : (wa2.setCell ⟨w6.heap.size + 1, 1, none⟩ (.string ke)).heap[w6.heap.size + 1]? = some (.cells #[.string s, .string ke, .int .i64 0, .int .i64 n] 41 (0, 0)) := by
            have := heap_set HG2.out 1 (.string ke)
            simpa using this
          have o9 := ownsRow_setCell_below HO3.out (a := ⟨w6.heap.size + 1, 1, none⟩) hgB (.string ke)
          go_roundw
          case rel => exact ⟨i + 1, v2, ke, cutId n T, rfl, by go_num, hil, HTK, o9, HK2.out.setCell 1 _, h9⟩
          case measure => simp [intOf]; omega
    · have hlt : n < T.length := by have := HMO.out; simpa using this
      have htl2 : (n : Int) ≤ (tl : Int) := by have h1 := HTL.out; rw [List.length_take] at h1; omega
      have htk := tok_next (V := V) (n := n) (i := i) hn.1 (by rw [HTT.out]; exact hlt)
      rw [HTT.out, HKE.out, HCI.out] at htk
      have hil : i + 1 ≤ l.length := by
        rcases htk with ⟨h1, _⟩ | ⟨_, h2, _⟩
        · omega
        · have h3 : (i + 1) * 1 ≤ (i + 1) * n := Nat.mul_le_mul_left _ hn.1
          omega
      have HTK := Lib.hid htk
      clear htk
      have k1 := (cells_of_heap HG2.out).1 1 _ rfl
      have k2 := (cells_of_heap HG2.out).1 2 _ rfl
      have f1 := (cells_of_heap HG2.out).2 1
      have f2 := (cells_of_heap HG2.out).2 2
      have q2 : ∀ j u, (wa1.setCell ⟨w6.heap.size, j, none⟩ u).cell? ⟨wn1.heap.size, 2, none⟩ = some (.string ke) := fun j u => by
        rw [World.cell?_setCell_other _ _ _ _ (fun h => by injection h with h1 _; omega)]; exact u2
      have q3 : ∀ j u, (wa1.setCell ⟨w6.heap.size, j, none⟩ u).cell? ⟨wn1.heap.size, 3, none⟩ = some (.int .i64 ci) := fun j u => by
        rw [World.cell?_setCell_other _ _ _ _ (fun h => by injection h with h1 _; omega)]; exact u3
      go_wp2_with fail
      go_big_region
      all_goals go_wp2
      have h9 : ((wa1.setCell ⟨w6.heap.size, 1, none⟩ (.string ke)).setCell ⟨w6.heap.size, 2, none⟩ (.int .i64 ci)).heap[w6.heap.size]? = some (.cells #[.string s, .string ke, .int .i64 ci, .int .i64 n] 41 (0, 0)) := by
        have := heap_set (heap_set HG2.out 1 (.string ke)) 2 (.int .i64 ci)
        simpa using this
      have o9 := ownsRow_setCell_below (ownsRow_setCell_below HO3.out (a := ⟨w6.heap.size, 1, none⟩) hgB (.string ke)) (a := ⟨w6.heap.size, 2, none⟩) hgB (.int .i64 ci)
      go_roundw
      case rel => exact ⟨i + 1, v2, ke, ci, rfl, by go_num, hil, HTK, o9, ((HK2.out.setCell 1 _).setCell 2 _).drewN 1, h9⟩
      case measure => simp [intOf]; omega

theorem walkv (v : Value) (d : DataW H) (ps : List MemPlace) {W : World} {base : Nat} (o : Value.okWide Try.prog W .any base 22 v) (h : DataW.Trod enc Try.prog W 0 (fun _ => true) true 22 v d ps) (s : ByteArray) (hs : s.size ≤ maxLen) (a : Int) (wa : (Lit.int .u8 a).wf = true) :
    Calls Try.prog 5 #[v, .string s, .int .u8 a] W fun e W' => e = .returned (.bool true) ∧ Below W.heap.size W W' := by
  obtain ⟨l, hr, hl, -⟩ := open_row o h
  exact walk l hl v W hr s hs a wa
end
theorem own : ownKnob Try.prog.godebug = none := by kernel_rfl
theorem laidOut : laidOutB Try.prog = true := by kernel_rfl
set_option maxRecDepth 100000 in
theorem lifted (os : Os) (started : os.Started) (H : Type) (enc : TypeId × Value → H) :
    ReturnsInHanded {} Try.checked os 5 .any (Rows.pageWalksSpec.pre6 enc Try.prog Try.f5 Rows.pageWalksRow.domain false) (Rows.pageWalksSpec.post enc Try.prog Try.f5 false true false false) := by
  refine returnsInHanded_of_change (C := Try.checked) own started (by kernel_rfl) Try.func5
    (ChangeSpec.witness6 (enc := enc) (C := Try.checked) false ⟨#[], #[.slice none 0 0, .string ⟨#[]⟩, .int .u8 0], []⟩ 8 (by kernel_rfl) (by kernel_rfl) (by kernel_rfl) (by kernel_rfl)) ?_
  intro W base args ds gs before hval0 hW hcnd _
  have hval : ∀ (j : Nat) t v, Try.f5.params[j]? = some t → args[j]? = some v → Value.okWide Try.prog W .any base t v := hval0
  have hW' := hW
  obtain ⟨p, q, hA0, hV, rfl, hfz, hnd⟩ := hW
  have hA : DataW.TrodAll enc Try.prog W 0 (fun _ => true) true Try.f5.params.toList args.toList ds p := hA0
  rw [Try.params5] at hA hval
  obtain ⟨v0, vs0, d0, ds0, p0, q0, hargs, rfl, rfl, h0, r0⟩ := trodAll_cons hA
  obtain ⟨v1, vs1, d1, ds1, p1, q1, rfl, rfl, rfl, h1, r1⟩ := trodAll_cons r0
  obtain ⟨v2, vs2, d2, ds2, p2, q2, rfl, rfl, rfl, h2, r2⟩ := trodAll_cons r1
  obtain ⟨rfl, rfl, rfl⟩ := trodAll_nil r2
  obtain rfl : args = #[v0, v1, v2] := by cases args; simp_all
  obtain ⟨rfl, rfl⟩ := trodVars_none hV
  have o0 := hval 0 22 v0 rfl rfl
  obtain ⟨a1, rfl, rfl, rfl, w1⟩ := ChangeMaps.open_string Try.underlying9 (hval 1 9 v1 rfl rfl) h1
  obtain ⟨a2, rfl, rfl, rfl, w2⟩ := open_int Try.underlying5 (hval 2 5 v2 rfl rfl) h2
  clear hA0 hval0
  simp only [List.append_nil] at hW'
  refine (walkv v0 d0 p0 o0 h0 a1 w1 a2 w2).mono fun e W' ⟨he, hg⟩ => ?_
  subst he
  exact ⟨_, rfl, law_post laidOut (of_decide_eq_true (by kernel_rfl)) Try.underlying4 rfl rfl rfl rfl rfl hW' hg⟩

theorem over : Rows.pageWalksRow.holds Try.pinned (OpenSpec.ofChange Rows.pageWalksSpec) :=
  OpenClaim.holds_of_wide 5 Try.f5 rfl rfl rfl rfl rfl rfl rfl ⟨rfl, rfl, rfl, rfl, rfl⟩ rfl rfl rfl rfl rfl (by kernel_rfl) Try.func5 (by kernel_rfl)
    (of_decide_eq_true (by kernel_rfl)) (by unfold Func.isWrapper; first | (rw [if_pos (by decide +kernel)]; kernel_rfl) | (rw [if_neg (by decide +kernel)]; exact ⟨rfl, rfl⟩))
    (fun os started H enc _ => lifted os started H enc)

/-- ████ THE STATEMENT ████ -/
theorem proved : Rows.PageWalksSaid :=
  over
#print axioms proved
end Go.Proofs.Ytgaejaadjmcckaa.pageWalks
