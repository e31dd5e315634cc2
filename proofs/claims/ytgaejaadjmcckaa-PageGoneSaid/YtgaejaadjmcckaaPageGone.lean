/- PageGone is true of every input: a token is no place: where entries come or go between two pages, those that were there all the while are seen once each. -/
import Derived.Test.YtgaejaadjmcckaaPGoneP
import Derived.Test.YtgaejaadjmcckaaPArg
import Derived.Laws.MakeOwn
import Derived.Deep.DeepCutAuto
import Derived.Deep.RegionLaw
namespace Go.Proofs.Ytgaejaadjmcckaa.pageGone
open Go.ChangeShapes Go.WideShapes Go.ChangeAt Go.RowKit Go.Shelf Go.Lib Go.Deep Nam

section
variable {H : Type} {enc : TypeId × Value → H}

/-- A row of truths that came in. -/
def Bools (W : World) (v : Value) (m : Nat) : Prop := (v = .slice none 0 0 ∧ m = 0) ∨ ∃ b o c, v = .slice (some ⟨b, o, none⟩) m c ∧ b < W.heap.size ∧ ∀ i, i < m → ∃ t, W.cell? ⟨b, o + i, none⟩ = some (.bool t)

theorem open_drop {w : World} {base : Nat} {r : Reach} {held : Bool} {v : Value} {d : DataW H} {ps : List MemPlace} (hval : Value.okWide Try.prog w r base 50 v)
    (hd : DataW.Trod enc Try.prog w 0 (fun _ => true) held 50 v d ps) : ∃ m, Bools w v m ∧ m ≤ maxLen := by
  have ht : Try.prog.underlying 50 = some (.slice 4) := Try.underlying50
  have c4 : Try.prog.cellsOf 4 = 1 := by kernel_rfl
  obtain ⟨a0, len0, cap0, rfl⟩ := okWide_slice ht hval
  obtain ⟨fuel, hf⟩ := hd
  rcases open_slice1 ht c4 hf with ⟨h, _⟩ | ⟨a, len, cap, m, n, V, D, Pl, h, _, hl, hm, hmm, _, hx⟩
  · simp [Value.cells] at h
    obtain ⟨rfl, rfl, rfl⟩ := h
    exact ⟨0, .inl ⟨rfl, rfl⟩, Nat.zero_le _⟩
  · simp [Value.cells] at h
    obtain ⟨rfl, rfl, rfl⟩ := h
    have hc : Cell.ok Try.prog w r base 50 (.slice (some a) len0 cap0) := by
      unfold Value.okWide at hval
      rw [ht] at hval
      unfold Cell.okWide at hval
      rw [ht] at hval
      exact hval
    unfold Cell.ok at hc
    rw [ht] at hc
    obtain ⟨_, _, _, hsp, row, cells, hsh, _⟩ := hc
    obtain ⟨b, o, spot⟩ := a
    simp only [] at hsp hsh
    subst hsp
    have hb : b < w.heap.size := by
      by_cases c : b < w.heap.size
      · exact c
      · rw [World.shape?, Array.getElem?_eq_none (by omega)] at hsh
        simp at hsh
    rw [if_pos rfl] at hmm
    subst hmm
    refine ⟨len0, .inr ⟨b, o, _, rfl, hb, fun i hi => ?_⟩, by omega⟩
    obtain ⟨h1, h2⟩ := hx i (by omega)
    rw [Go.WideShapes.add_plain] at h1
    obtain ⟨t, e0, _⟩ := DataW.trod_bool Try.underlying4 h2
    simp only [List.cons.injEq, and_true] at e0
    exact ⟨t, by rw [h1, e0]⟩

theorem eqlE (x y : Ent) (w : World) : (binOp .eql 32 (.agg #[.string x.key, .int .i64 x.id, .bool x.mark, .int .i64 x.size, .int .u32 x.sum, .bool x.latest]) (.agg #[.string y.key, .int .i64 y.id, .bool y.mark, .int .i64 y.size, .int .u32 y.sum, .bool y.latest])).run Try.prog w = .ok (.bool (decide (x = y))) w := by
  have h := neqE x y w
  rw [run_neq_struct] at h
  rw [run_eql_struct]
  cases hr : (Op.equalIn 10000 32 (.agg #[.string x.key, .int .i64 x.id, .bool x.mark, .int .i64 x.size, .int .u32 x.sum, .bool x.latest]) (.agg #[.string y.key, .int .i64 y.id, .bool y.mark, .int .i64 y.size, .int .u32 y.sum, .bool y.latest])).run Try.prog w with
  | ok b w' =>
    rw [hr] at h
    simp only [Result.andThen_ok, Result.ok.injEq, Value.bool.injEq] at h ⊢
    exact ⟨Bool.not_inj h.1, h.2⟩
  | _ => rw [hr] at h; simp [Result.andThen] at h

set_option maxHeartbeats 2000000 in
set_option maxRecDepth 100000 in
theorem walk (l : List Ent) (hl : l.length ≤ maxLen) (v : Value) (W : World) (hr : RowE W v l) (u : Value) (m : Nat) (hu : Bools W u m) (hm : m ≤ maxLen) (a : Int) (wa : (Lit.int .u8 a).wf = true) :
    Calls Try.prog 6 #[v, u, .int .u8 a] W fun e W' => e = .returned (.bool true) ∧ Below W.heap.size W W' := by
  obtain ⟨a0, a1⟩ := wf_u8 wa
  clear wa
  obtain ⟨pu, cu, rfl, hpu⟩ : ∃ pu cu, u = .slice pu m cu ∧ (0 < m → ∃ b o, pu = some ⟨b, o, none⟩ ∧ b < W.heap.size ∧ ∀ i, i < m → ∃ t, W.cell? ⟨b, o + i, none⟩ = some (.bool t)) := by
    rcases hu with ⟨h1, h2⟩ | ⟨b, o, c, h1, h2, h3⟩
    · exact ⟨none, 0, by rw [h1, h2], fun h => by omega⟩
    · exact ⟨_, c, h1, fun _ => ⟨b, o, rfl, h2, h3⟩⟩
  clear hu
  have HPU := Lib.hid hpu; clear hpu
  obtain ⟨p, c, rfl, -⟩ := len_of_row hr
  have HR := Lib.hid hr; clear hr
  go_enter Try.func6, Try.ntmps6
  go_wp2_with fail
  refine (pawake_is _).mono ?_
  rintro e w1 ⟨rfl, hb1⟩
  have HR1 := Lib.hid (HR.out.below hb1)
  have HB1 := Lib.hid hb1; clear hb1
  cases hf : fewB l
  · have HF := Lib.hid (few_is l hl _ w1 HR1.out)
    rw [hf] at HF
    go_wp2_with fail
    refine HF.out.mono ?_
    rintro e w' ⟨rfl, rfl⟩
    go_wp2_with fail
    go_ret
    exact ⟨rfl, HB1.out⟩
  have HF := Lib.hid (few_is l hl _ w1 HR1.out)
  rw [hf] at HF
  have h200 : l.length ≤ 200 := by
    unfold fewB at hf
    simp only [Bool.and_eq_true, decide_eq_true_eq] at hf
    exact hf.1
  have HK : Hid (∀ x ∈ l, x.key.size ≤ 500) := by
    unfold fewB at hf
    simp only [Bool.and_eq_true, decide_eq_true_eq, List.all_eq_true] at hf
    exact hf.2
  have HF1 := Lib.hid (fair_is l (by omega) _ w1 HR1.out)
  clear hf
  go_wp2_with fail
  refine HF.out.mono ?_
  rintro e w' ⟨rfl, rfl⟩
  go_wp2_with fail
  refine HF1.out.mono ?_
  rintro e w2 ⟨b, rfl, hfp, q, rfl⟩
  cases b
  · clear hfp
    go_wp2_with fail
    go_ret
    exact ⟨rfl, HB1.out.drewN _⟩
  have FM := Lib.hid ((hfp rfl).m)
  clear hfp HF HF1
  obtain ⟨w2, hw2⟩ : ∃ w2, w1.drewN q = w2 := ⟨_, rfl⟩
  rw [hw2]
  have HR2 := Lib.hid (show RowE w2 (.slice p l.length c) l by rw [← hw2]; exact HR1.out.below ((Below.refl _ _).drewN q))
  have HB2 := Lib.hid (show Below W.heap.size W w2 by rw [← hw2]; exact HB1.out.drewN q)
  clear hw2 HR1 HB1
  unfold maxLen at hm
  by_cases h300 : 300 < m
  · have hz : (300 : Int) < (m : Int) := by omega
    go_wp2_with fail
    go_ret
    exact ⟨rfl, HB2.out⟩
  have hz : (m : Int) ≤ 300 := by omega
  go_upto_region 5 with (fail)
  go_cut [7] (fun v7 wx => ∃ n : Nat, v7 = .int .i64 n ∧ (1 ≤ n ∧ n ≤ 10) ∧ wx = w2)
  case first =>
    obtain ⟨k, hk⟩ : ∃ k : Nat, a % 10 = k := ⟨(a % 10).toNat, by omega⟩
    have hk2 : Int.tmod a 10 = k := by rw [Int.tmod_eq_emod_of_nonneg a0]; exact hk
    have hlt : k ≤ 9 := by omega
    go_wp2_with fail
    go_meet
    case rel => exact ⟨1 + k, by go_num, ⟨by omega, by omega⟩, rfl⟩
  case rest =>
  obtain ⟨n, rfl, hn, rfl⟩ := hcut
  go_wp2_with fail
  go_loopw [8, 9] (fun vo vi wr => ∃ (i : Nat) (f : List Ent) (sv : Value), sv = vo ∧ vi = .int .i64 i ∧ i ≤ l.length ∧ Hid (wr.ownsRow wc.heap.size 32 6 sv f.length (f.flatMap encE)) ∧ Hid (f.Sublist (l.take i)) ∧ Hid (Below wc.heap.size wc wr)) (fun _ v _ => l.length - (intOf v).toNat)
  case atStart => exact ⟨0, [], _, rfl, rfl, Nat.zero_le _, ⟨rfl, .inl ⟨rfl, rfl⟩⟩, List.nil_sublist _, Below.refl _ _⟩
  case round =>
    obtain ⟨i, f, sv, hsv, rfl, hi, HO, HS, HB⟩ := hrel
    subst hsv
    by_cases hpi : i < l.length
    · have hpz : (i : Int) < (l.length : Int) := by omega
      rcases (HR2.out.below HB.out) with ⟨_, h0⟩ | ⟨b, o, cap, hv, hbl, hc⟩
      · rw [h0] at hpi; simp at hpi
      obtain ⟨b0, b1, b2, b3, b4, b5⟩ := at_of hc i hpi
      have hpp : p = some ⟨b, o, none⟩ := by cases hv; rfl
      have htk : l.take (i + 1) = l.take i ++ [l[i]] := List.take_succ_eq_append_getElem hpi
      obtain ⟨x, hx⟩ : ∃ x, l[i] = x := ⟨_, rfl⟩
      rw [hx] at b0 b1 b2 b3 b4 b5 htk
      have HTK := Lib.hid htk; clear htk hx hc hv
      subst hpp
      obtain ⟨la, hla⟩ : ∃ b, x.latest = b := ⟨_, rfl⟩
      rw [hla] at b5
      have hfl : f.length ≤ 200 := by have := HS.out.length_le; rw [List.length_take] at this; omega
      have HKP : Hid ((f ++ [x]).Sublist (l.take (i + 1))) := by show List.Sublist _ _; rw [HTK.out]; exact List.Sublist.append HS.out (List.Sublist.refl _)
      have HDR : Hid (f.Sublist (l.take (i + 1))) := by show List.Sublist _ _; rw [HTK.out]; exact HS.out.trans (List.sublist_append_left _ _)
      have HLA := Lib.hid hla; clear hla
      have hex : ([.string x.key, .int .i64 x.id, .bool x.mark, .int .i64 x.size, .int .u32 x.sum, .bool la] : List Value) = encE x := by rw [← HLA.out]; rfl
      have HEX := Lib.hid hex; clear hex
      have hr1 : RowE (wr.alloc (.cells #[.string x.key, .int .i64 x.id, .bool x.mark, .int .i64 x.size, .int .u32 x.sum, .bool la] 32)) (.slice (some ⟨wr.heap.size, 0, none⟩) 1 1) [x] := by
        rw [← HLA.out]; exact rowE_one wr x
      have HR1X := Lib.hid hr1; clear hr1
      -- what is asked of the entry
      cases la
      case false =>
        go_wp2_with (at_builtin; refine wpList_append_rowE rfl (.tmp 62) (.tmp 67) rfl rfl (HO.out.alloc _) rfl HR1X.out (by simp; omega) (by have := HB.out.size; simp; omega) ?_; intro v2 wz hown2 hgr2 _; have HO2 := Lib.hid hown2; clear hown2; have HBZ := Lib.hid (show Below wc.heap.size wc wz from (HB.out.alloc HB.out.size _).grown hgr2 (by have := HB.out.size; simp; omega) (own_ge HO.out)); clear hgr2)
        go_roundw
        case rel => exact ⟨i + 1, f ++ [x], v2, rfl, by go_num, by omega, HO2, HKP, HBZ⟩
        case measure => simp [intOf]; omega
      case true =>
        by_cases hmi : m ≤ i
        · have hmz : (m : Int) ≤ (i : Int) := by omega
          go_wp2_with (at_builtin; refine wpList_append_rowE rfl (.tmp 62) (.tmp 67) rfl rfl (HO.out.alloc _) rfl HR1X.out (by simp; omega) (by have := HB.out.size; simp; omega) ?_; intro v2 wz hown2 hgr2 _; have HO2 := Lib.hid hown2; clear hown2; have HBZ := Lib.hid (show Below wc.heap.size wc wz from (HB.out.alloc HB.out.size _).grown hgr2 (by have := HB.out.size; simp; omega) (own_ge HO.out)); clear hgr2)
          go_roundw
          case rel => exact ⟨i + 1, f ++ [x], v2, rfl, by go_num, by omega, HO2, HKP, HBZ⟩
          case measure => simp [intOf]; omega
        · have hmz : (i : Int) < (m : Int) := by omega
          obtain ⟨bu, ou, rfl, hbu, hcu⟩ := HPU.out (by omega)
          obtain ⟨tb, htb⟩ := hcu i (by omega)
          have hbwr : Below W.heap.size W wr := HB2.out.trans (HB.out.mono HB2.out.size)
          have htb2 : wr.cell? ⟨bu, ou + i, none⟩ = some (.bool tb) := by rw [hbwr.cell (p := ⟨bu, ou + i, none⟩) hbu]; exact htb
          clear htb hcu hbwr
          cases tb
          · go_wp2_with (at_builtin; refine wpList_append_rowE rfl (.tmp 62) (.tmp 67) rfl rfl (HO.out.alloc _) rfl HR1X.out (by simp; omega) (by have := HB.out.size; simp; omega) ?_; intro v2 wz hown2 hgr2 _; have HO2 := Lib.hid hown2; clear hown2; have HBZ := Lib.hid (show Below wc.heap.size wc wz from (HB.out.alloc HB.out.size _).grown hgr2 (by have := HB.out.size; simp; omega) (own_ge HO.out)); clear hgr2)
            go_roundw
            case rel => exact ⟨i + 1, f ++ [x], v2, rfl, by go_num, by omega, HO2, HKP, HBZ⟩
            case measure => simp [intOf]; omega
          · go_wp2_with fail
            go_roundw
            case rel => exact ⟨i + 1, f, sv, rfl, by go_num, by omega, HO, HDR, HB⟩
            case measure => simp [intOf]; omega
    · have hpz : (l.length : Int) ≤ (i : Int) := by omega
      have hil : i = l.length := by omega
      have hsub : f.Sublist l := by have := HS.out; rwa [hil, List.take_length] at this
      have HSUB := Lib.hid hsub
      clear hil hsub HS
      go_upto_region 12 with (fail)
      obtain ⟨w3, hw3⟩ : ∃ w3, wr = w3 := ⟨_, rfl⟩
      rw [hw3] at HO HB ⊢
      clear hw3 hpi hpz hi
      obtain ⟨S, hSp, hSs⟩ := sorted_ex l
      obtain ⟨T, hTp, hTs⟩ := sorted_ex f
      have hK : ∀ x ∈ l, x.key.size ≤ maxLen := fun x hx => by have := HK.out x hx; unfold maxLen; omega
      have hKf : ∀ x ∈ f, x.key.size ≤ maxLen := fun x hx => hK x (HSUB.out.subset hx)
      have hfl : f.length ≤ 200 := Nat.le_trans HSUB.out.length_le h200
      have hSl : S.length ≤ 200 := by rw [hSp.length_eq]; exact h200
      have hTl : T.length ≤ 200 := by rw [hTp.length_eq]; exact hfl
      have one := FM.out.one
      have va := fun w hv => vers_atU one hSp hSs ⟨⟨#[]⟩, ⟨#[]⟩, 0, n⟩ (by omega) hK (by show (0 : Nat) ≤ _; exact Nat.zero_le _) ⟨show (1 : Int) ≤ n by omega, show (n : Int) ≤ 1000 by omega⟩ (.slice p l.length c) w hv
      have va2 : ∀ w, RowE w (.slice p l.length c) l → Calls Try.prog 17 #[.slice p l.length c, .agg #[.string ⟨#[]⟩, .string ⟨#[]⟩, .int .i64 0, .int .i64 n]] w fun e w' => ∃ sA, e = .returned (.tuple #[.agg #[sA, .bool (decide (n < S.length)), .string (cutKey n S), .int .i64 (cutId n S)], .int .i64 0]) ∧ RowE w' sA (S.take n) ∧ Below w.heap.size w w' := fun w hv => by
        refine Calls.mono (va w hv) ?_
        rintro e w' ⟨sv, h1, _, h2, h3⟩
        rw [selE_whole, show (⟨⟨#[]⟩, ⟨#[]⟩, 0, n⟩ : AskV).most.toNat = n from by show ((n : Int)).toNat = n; omega] at h1 h3
        exact ⟨sv, h3, h1, h2⟩
      obtain ⟨F, hF⟩ : ∃ F, selE (verB ⟨⟨#[]⟩, cutKey n S, cutId n S, 1000⟩) ⟨⟨#[]⟩, cutKey n S, cutId n S, 1000⟩ T = F := ⟨_, rfl⟩
      have hFl : F.length ≤ 200 := by rw [← hF]; exact Nat.le_trans (selE_length_le _ _ _) hTl
      have vb := fun w v hv => vers_atU (one.sub HSUB.out) hTp hTs ⟨⟨#[]⟩, cutKey n S, cutId n S, 1000⟩ (by omega) hKf (by show (0 : Nat) ≤ _; exact Nat.zero_le _) ⟨show (1 : Int) ≤ 1000 by decide, show (1000 : Int) ≤ 1000 by decide⟩ v w hv
      have vb2 : ∀ w v, RowE w v f → Calls Try.prog 17 #[v, .agg #[.string ⟨#[]⟩, .string (cutKey n S), .int .i64 (cutId n S), .int .i64 1000]] w fun e w' => ∃ sB, e = .returned (.tuple #[.agg #[sB, .bool false, .string ⟨#[]⟩, .int .i64 0], .int .i64 0]) ∧ RowE w' sB F ∧ Below w.heap.size w w' := fun w v hv => by
        refine Calls.mono (vb w v hv) ?_
        rintro e w' ⟨sv, h1, _, h2, h3⟩
        rw [hF, show (⟨⟨#[]⟩, cutKey n S, cutId n S, 1000⟩ : AskV).most.toNat = 1000 from rfl] at h1 h3
        rw [List.take_of_length_le (by omega)] at h1
        rw [decide_eq_false (by omega), cutKey_all (by omega), cutId_all (by omega)] at h3
        exact ⟨sv, h3, h1, h2⟩
      have hseen : n < S.length → ∀ y ∈ f, (S.take n ++ F).count y = 1 := fun h y hy => by
        rw [← hF]
        exact seen_once one hSp hSs HSUB.out hTp hn.1 h y hy
      obtain ⟨A, hA⟩ : ∃ A, S.take n = A := ⟨_, rfl⟩
      have hAl : A.length ≤ 200 := by rw [← hA, List.length_take]; omega
      obtain ⟨mo, hmo⟩ : ∃ b, decide (n < S.length) = b := ⟨_, rfl⟩
      obtain ⟨ck, hck⟩ : ∃ b, cutKey n S = b := ⟨_, rfl⟩
      obtain ⟨ci, hci⟩ : ∃ b, cutId n S = b := ⟨_, rfl⟩
      rw [hA, hmo, hck, hci] at va2
      rw [hck, hci] at vb2
      rw [hA] at hseen
      have hseen2 : mo = true → ∀ y ∈ f, (A ++ F).count y = 1 := fun h => hseen (by rw [h] at hmo; simpa using hmo)
      have VA := Lib.hid va2
      have VB := Lib.hid vb2
      have SEEN := Lib.hid hseen2
      have hrl := (rowE_own HO.out).1
      obtain ⟨pL, cL, rfl, -⟩ := len_of_row hrl
      have HRL := Lib.hid hrl
      have HR3 := Lib.hid (HR2.out.below HB.out)
      have HB3 := Lib.hid (show Below W.heap.size W w3 from HB2.out.trans (HB.out.mono HB2.out.size))
      clear va va2 vb vb2 hseen hseen2 hrl hA hmo hck hci hF hSp hSs hTp hTs hK hKf one HSUB HO HB HR2 HB2
      go_wp2_with fail
      refine (VA.out _ HR3.out).mono ?_
      rintro e w4 ⟨sA, rfl, hrA, hb4⟩
      obtain ⟨pA, dA, rfl, -⟩ := len_of_row hrA
      have HRA := Lib.hid hrA
      have HRL4 := Lib.hid (HRL.out.below hb4)
      have HB4 := Lib.hid (HB3.out.trans (hb4.mono HB3.out.size))
      clear hb4 hrA HR3 HRL HB3
      go_upto_region 13 with (fail)
      obtain ⟨w5, hw5⟩ : ∃ w5, w4.alloc (.cells #[.slice pA A.length dA, .bool mo, .string ck, .int .i64 ci] 37) = w5 := ⟨_, rfl⟩
      rw [hw5]
      have hx10 : w5.heap[w4.heap.size]? = some (.cells #[.slice pA A.length dA, .bool mo, .string ck, .int .i64 ci] 37 (0, 0)) := by rw [← hw5]; exact heap_alloc_new w4 _
      have hb5 : Below w4.heap.size w4 w5 := by rw [← hw5]; exact (Below.refl _ _).alloc (Nat.le_refl _) _
      have hs5 : w4.heap.size < w5.heap.size := by rw [← hw5]; simp
      have HRA5 := Lib.hid (HRA.out.below hb5)
      have HRL5 := Lib.hid (HRL4.out.below hb5)
      have HB5 := Lib.hid (HB4.out.trans (hb5.mono HB4.out.size))
      have HX5 := Lib.hid hx10
      have k1 := (cells_of_heap hx10).1 1 _ rfl
      have k2 := (cells_of_heap hx10).1 2 _ rfl
      have k3 := (cells_of_heap hx10).1 3 _ rfl
      clear hw5 hx10 hb5 HRA HRL4 HB4
      cases mo
      · go_wp2_with fail
        go_ret
        exact ⟨rfl, HB5.out⟩
      have SEEN1 := Lib.hid (SEEN.out rfl)
      go_wp2_with fail
      refine (VB.out _ _ HRL5.out).mono ?_
      rintro e w6 ⟨sB, rfl, hrB, hb6⟩
      obtain ⟨pB, dB, rfl, -⟩ := len_of_row hrB
      have HRB := Lib.hid hrB
      have HRA6 := Lib.hid (HRA5.out.below hb6)
      have HRL6 := Lib.hid (HRL5.out.below hb6)
      have HB6 := Lib.hid (HB5.out.trans (hb6.mono HB5.out.size))
      have HX6 := Lib.hid ((hb6.block _ hs5).trans HX5.out)
      have hs6 : w4.heap.size < w6.heap.size := Nat.lt_of_lt_of_le hs5 hb6.size
      clear hb6 hrB HRA5 HRL5 HB5 HX5 k1 k2 k3 hs5 SEEN
      go_upto_region 18 with (fail)
      obtain ⟨w7, hw7⟩ : ∃ w7, w6.alloc (.cells #[.slice pB F.length dB, .bool false, .string ⟨#[]⟩, .int .i64 0] 37) = w7 := ⟨_, rfl⟩
      rw [hw7]
      have hx12 : w7.heap[w6.heap.size]? = some (.cells #[.slice pB F.length dB, .bool false, .string ⟨#[]⟩, .int .i64 0] 37 (0, 0)) := by rw [← hw7]; exact heap_alloc_new w6 _
      have hb7 : Below w6.heap.size w6 w7 := by rw [← hw7]; exact (Below.refl _ _).alloc (Nat.le_refl _) _
      have hs7 : w7.heap.size = w6.heap.size + 1 := by rw [← hw7]; simp
      have HRA7 := Lib.hid (HRA6.out.below hb7)
      have HRB7 := Lib.hid (HRB.out.below hb7)
      have HRL7 := Lib.hid (HRL6.out.below hb7)
      have HB7 := Lib.hid (HB6.out.trans (hb7.mono HB6.out.size))
      have HX7 := Lib.hid ((hb7.block _ hs6).trans HX6.out)
      have HY7 := Lib.hid hx12
      clear hw7 hx12 hb7 HRA6 HRB HRL6 HB6 HX6
      have infoI : (Try.prog.info? 3).map (fun i => (i.zero, i.size, i.bytes)) = some (some (.int .i64 0), 1, 8) := by kernel_rfl
      obtain ⟨ii, hii, hiz0, hiz1, hiz2⟩ := info_parts infoI
      have hmk : ∀ V : World, (Instr.makeSlice 51 (.int .i64 (f.length : Int)) (.int .i64 (f.length : Int))).run Try.prog V = .ok (.slice (some ⟨V.heap.size, 0, none⟩) f.length f.length) (V.alloc (.cells (madeCells #[.int .i64 0] f.length) 3)) := fun V => by
        have := run_make (P := Try.prog) V 51 3 ii _ Try.underlying51 hii hiz0 .i64 .i64 (f.length : Int) (f.length : Int) (by omega) (Int.le_refl _) (by rw [hiz2]; omega) (by omega)
        rw [hiz1] at this
        simp only [Nat.mul_one, Int.toNat_natCast] at this
        exact this
      clear infoI hii hiz0 hiz1 hiz2
      go_upto_region 19 with (fail)
      obtain ⟨w8, hw8⟩ : ∃ w8, w7.alloc (.cells (madeCells #[.int .i64 0] f.length) 3) = w8 := ⟨_, rfl⟩
      rw [hw8]
      have hxs : w8.heap[w6.heap.size + 1]? = some (.cells (madeCells #[.int .i64 0] f.length) 3 (0, 0)) := by
        rw [← hw8, ← hs7]; exact heap_alloc_new w7 _
      have hb8 : Below w7.heap.size w7 w8 := by rw [← hw8]; exact (Below.refl _ _).alloc (Nat.le_refl _) _
      have hs8 : w8.heap.size = w6.heap.size + 2 := by rw [← hw8]; simp [hs7]
      have HRA8 := Lib.hid (HRA7.out.below hb8)
      have HRB8 := Lib.hid (HRB7.out.below hb8)
      have HRL8 := Lib.hid (HRL7.out.below hb8)
      have HB8 := Lib.hid (HB7.out.trans (hb8.mono HB7.out.size))
      have HX8 := Lib.hid ((hb8.block _ (by omega)).trans HX7.out)
      have HY8 := Lib.hid ((hb8.block _ (by omega)).trans HY7.out)
      have LTA := Lib.hid (rowE_lt HRA7.out)
      have LTB := Lib.hid (rowE_lt HRB7.out)
      have LTL := Lib.hid (rowE_lt HRL7.out)
      have HXS := Lib.hid hxs
      have HW := Lib.hid (show W.heap.size ≤ w6.heap.size + 1 from by have := HB7.out.size; omega)
      have HS7 := Lib.hid hs7
      clear hw8 hxs hb8 hmk HRA7 HRB7 HRL7 HB7 HX7 HY7 hs7
      go_wp2_with fail
      go_loopw [15] (fun vi wr => ∃ i : Nat, vi = .int .i64 i ∧ i ≤ f.length ∧ Hid (KeptBut w8.heap.size (w6.heap.size + 1) w8 wr) ∧
        Hid (∃ cs : Array Value, wr.heap[w6.heap.size + 1]? = some (.cells cs 3 (0, 0)) ∧ cs.size = f.length ∧ ∀ j, i ≤ j → j < f.length → cs[j]? = some (.int .i64 0))) (fun v _ => f.length - (intOf v).toNat)
      case atStart =>
        refine ⟨0, rfl, Nat.zero_le _, KeptBut.refl _ _ _, _, HXS.out, size_madeCells _ _, fun j _ hj => ?_⟩
        unfold madeCells
        simp [hj, Nat.mod_one]
      case round =>
        obtain ⟨i, rfl, hi, HK2, HC⟩ := hrel
        by_cases hpi : i < f.length
        · have hpz : (i : Int) < (f.length : Int) := by omega
          go_wp2_with fail
          obtain ⟨cs0, hcs0, hcz0, hc00⟩ := HC.out
          obtain ⟨y, hy⟩ : ∃ y, f[i] = y := ⟨_, rfl⟩
          have hyf : y ∈ f := by rw [← hy]; exact List.getElem_mem _
          have hone : (A ++ F).count y = 1 := SEEN1.out y hyf
          have HONE := Lib.hid hone
          have HY := Lib.hid hy
          clear hy hone
          have ws : IntKind.i64.wrap ((A.length : Int) + (F.length : Int)) = (A.length : Int) + (F.length : Int) := IntWalk.i64_in _ (by omega)
          go_loopw [16] (fun vk wr => ∃ k : Nat, vk = .int .i64 k ∧ k ≤ A.length + F.length ∧ Hid (KeptBut w8.heap.size (w6.heap.size + 1) w8 wr) ∧
            Hid (∃ cs : Array Value, wr.heap[w6.heap.size + 1]? = some (.cells cs 3 (0, 0)) ∧ cs.size = f.length ∧ cs[i]? = some (.int .i64 (((A ++ F).take k).count y : Nat)) ∧ ∀ j, i < j → j < f.length → cs[j]? = some (.int .i64 0))) (fun v _ => A.length + F.length - (intOf v).toNat)
          case atStart => exact ⟨0, rfl, Nat.zero_le _, HK2, cs0, hcs0, hcz0, by rw [List.take_zero]; exact hc00 i (Nat.le_refl _) hpi, fun j hj hj' => hc00 j (Nat.le_of_lt hj) hj'⟩
          case round =>
            clear hcs0 hcz0 hc00
            obtain ⟨k, rfl, hk, HK3, HC3⟩ := hrel
            obtain ⟨cs, hcs, hcz, hci, hcj⟩ := HC3.out
            have hw4 : w4.heap.size < wr.heap.size := by have := HK3.out.size; omega
            have hw6 : w6.heap.size < wr.heap.size := by have := HK3.out.size; omega
            have xa0 := (cells_of_heap ((HK3.out.block w4.heap.size (by omega) (by omega)).trans HX8.out)).1 0 _ rfl
            have xb0 := (cells_of_heap ((HK3.out.block w6.heap.size (by omega) (by omega)).trans HY8.out)).1 0 _ rfl
            obtain ⟨cnt, hct⟩ : ∃ cnt, ((A ++ F).take k).count y = cnt := ⟨_, rfl⟩
            have hcnt : cnt ≤ 400 := by
              rw [← hct]
              refine Nat.le_trans List.count_le_length ?_
              rw [List.length_take, List.length_append]; omega
            rw [hct] at hci
            have HCT := Lib.hid hct; clear hct
            have HCI := Lib.hid hci; clear hci
            have HCS := Lib.hid hcs; clear hcs
            have HSZ := Lib.hid hcz; clear hcz
            have HCJ := Lib.hid hcj; clear hcj
            clear HC3
            by_cases hkl : k < A.length + F.length
            · have hkz : (k : Int) < (A.length : Int) + (F.length : Int) := by omega
              have htk0 : (A ++ F).take (k + 1) = (A ++ F).take k ++ [(A ++ F)[k]'(by rw [List.length_append]; exact hkl)] := List.take_succ_eq_append_getElem _
              by_cases hka : k < A.length
              · have hkaz : (k : Int) < (A.length : Int) := by omega
                rw [List.getElem_append_left hka] at htk0
                have hAz := rowE_kept HRA8.out HK3.out (Nat.le_refl _) (fun x o n c hv => by have := LTA.out x o n c hv; have := HS7.out; omega)
                rcases hAz with ⟨_, h0⟩ | ⟨bA, oA, capA, hvA, hblA, hcA⟩
                · rw [h0] at hka; simp at hka
                obtain ⟨a0, a1, a2, a3, a4, a5⟩ := at_of hcA k hka
                have hppA : pA = some ⟨bA, oA, none⟩ := by cases hvA; rfl
                obtain ⟨z, hz⟩ : ∃ z, A[k] = z := ⟨_, rfl⟩
                rw [hz] at a0 a1 a2 a3 a4 a5 htk0
                have HTK := Lib.hid htk0; clear htk0 hvA hcA hz
                subst hppA
                go_upto_region 29 with (fail)
                obtain ⟨wz, hwz⟩ : ∃ wz, wr.alloc (.cells #[.string z.key, .int .i64 z.id, .bool z.mark, .int .i64 z.size, .int .u32 z.sum, .bool z.latest] 32) = wz := ⟨_, rfl⟩
                rw [hwz]
                have hE : wz.heap[wr.heap.size]? = some (.cells #[.string z.key, .int .i64 z.id, .bool z.mark, .int .i64 z.size, .int .u32 z.sum, .bool z.latest] 32 (0, 0)) := by rw [← hwz]; exact heap_alloc_new wr _
                have cE := (cells_of_heap hE).1
                have e0 := cE 0 _ rfl
                have e1 := cE 1 _ rfl
                have e2 := cE 2 _ rfl
                have e3 := cE 3 _ rfl
                have e4 := cE 4 _ rfl
                have e5 := cE 5 _ rfl
                have hKz : KeptBut w8.heap.size (w6.heap.size + 1) w8 wz := by rw [← hwz]; exact HK3.out.alloc HK3.out.size _
                have HKZ := Lib.hid hKz
                have hcz' : wz.heap[w6.heap.size + 1]? = some (.cells cs 3 (0, 0)) := by rw [← hwz]; exact (heap_alloc_old _ _ (by have := HK3.out.size; omega)).trans HCS.out
                have HCZ := Lib.hid hcz'
                have m0 := (cells_of_heap hcz').1 i _ HCI.out
                have m1 := (cells_of_heap hcz').2 i
                have hLz := rowE_kept HRL8.out hKz (Nat.le_refl _) (fun x o n c hv => by have := LTL.out x o n c hv; have := HS7.out; omega)
                rcases hLz with ⟨_, h0⟩ | ⟨bL, oL, capL, hvL, hblL, hcL⟩
                · rw [h0] at hpi; simp at hpi
                obtain ⟨d0, d1, d2, d3, d4, d5⟩ := at_of hcL i hpi
                rw [show f[i] = y from HY.out] at d0 d1 d2 d3 d4 d5
                have hppL : pL = some ⟨bL, oL, none⟩ := by cases hvL; rfl
                clear hvL hcL hE cE hwz hKz hcz'
                subst hppL
                have nq := fun W => eqlE z y W
                have hg := entGuard
                by_cases ezy : z = y
                · have nq2 : ∀ W : World, (binOp .eql 32 (.agg #[.string z.key, .int .i64 z.id, .bool z.mark, .int .i64 z.size, .int .u32 z.sum, .bool z.latest]) (.agg #[.string y.key, .int .i64 y.id, .bool y.mark, .int .i64 y.size, .int .u32 y.sum, .bool y.latest])).run Try.prog W = .ok (.bool true) W := fun W => by rw [nq W, decide_eq_true ezy]
                  have HCN : Hid (((A ++ F).take (k + 1)).count y = cnt + 1) := by
                    show _ = _
                    rw [HTK.out, List.count_append, HCT.out, ezy]; simp
                  have hcw : IntKind.i64.wrap ((cnt : Int) + 1) = (cnt : Int) + 1 := IntWalk.i64_in _ (by omega)
                  have HEZ := Lib.hid ezy
                  clear nq ezy
                  go_quiet (fail)
                  go_wp2
                  have h9 := heap_set HCZ.out i (.int .i64 ((cnt : Int) + 1))
                  go_roundw
                  case rel =>
                    refine ⟨k + 1, by go_num, by omega, (HKZ.out.drewN nq).setCell i _, cs.setIfInBounds i (.int .i64 ((cnt : Int) + 1)), h9, by simpa using HSZ.out, ?_, fun j hj hj' => ?_⟩
                    · rw [HCN.out]
                      simp [HSZ.out, hpi]
                    · rw [Array.getElem?_setIfInBounds_ne (by omega)]
                      exact HCJ.out j hj hj'
                  case measure => simp [intOf]; omega
                · have nq2 : ∀ W : World, (binOp .eql 32 (.agg #[.string z.key, .int .i64 z.id, .bool z.mark, .int .i64 z.size, .int .u32 z.sum, .bool z.latest]) (.agg #[.string y.key, .int .i64 y.id, .bool y.mark, .int .i64 y.size, .int .u32 y.sum, .bool y.latest])).run Try.prog W = .ok (.bool false) W := fun W => by rw [nq W, decide_eq_false ezy]
                  have HCN : Hid (((A ++ F).take (k + 1)).count y = cnt) := by
                    show _ = _
                    rw [HTK.out, List.count_append, HCT.out, List.count_eq_zero.2 (by simpa using fun h => ezy h.symm)]
                    rfl
                  clear nq ezy
                  go_quiet (fail)
                  go_wp2
                  go_roundw
                  case rel => exact ⟨k + 1, by go_num, by omega, HKZ.out.drewN nq, cs, HCZ.out, HSZ.out, by rw [HCN.out]; exact HCI.out, HCJ.out⟩
                  case measure => simp [intOf]; omega
              · have hkaz : (A.length : Int) ≤ (k : Int) := by omega
                obtain ⟨j0, hj0⟩ : ∃ j0, k - A.length = j0 := ⟨_, rfl⟩
                have hjF : j0 < F.length := by omega
                have hjz : (j0 : Int) < (F.length : Int) := by omega
                have hj0' : (0 : Int) ≤ (j0 : Int) := by omega
                have wj : IntKind.i64.wrap ((k : Int) - (A.length : Int)) = (j0 : Int) := (IntWalk.i64_in _ (by omega)).trans (by omega)
                rw [List.getElem_append_right (by omega)] at htk0
                simp only [hj0] at htk0
                have hBz := rowE_kept HRB8.out HK3.out (Nat.le_refl _) (fun x o n c hv => by have := LTB.out x o n c hv; have := HS7.out; omega)
                rcases hBz with ⟨_, h0⟩ | ⟨bB, oB, capB, hvB, hblB, hcB⟩
                · rw [h0] at hjF; simp at hjF
                obtain ⟨a0, a1, a2, a3, a4, a5⟩ := at_of hcB j0 hjF
                have hppB : pB = some ⟨bB, oB, none⟩ := by cases hvB; rfl
                obtain ⟨z, hz⟩ : ∃ z, F[j0] = z := ⟨_, rfl⟩
                rw [hz] at a0 a1 a2 a3 a4 a5 htk0
                have HTK := Lib.hid htk0; clear htk0 hvB hcB hz
                have HJ0 := Lib.hid hj0; clear hj0
                subst hppB
                go_upto_region 29 with (fail)
                obtain ⟨wz, hwz⟩ : ∃ wz, wr.alloc (.cells #[.string z.key, .int .i64 z.id, .bool z.mark, .int .i64 z.size, .int .u32 z.sum, .bool z.latest] 32) = wz := ⟨_, rfl⟩
                rw [hwz]
                have hE : wz.heap[wr.heap.size]? = some (.cells #[.string z.key, .int .i64 z.id, .bool z.mark, .int .i64 z.size, .int .u32 z.sum, .bool z.latest] 32 (0, 0)) := by rw [← hwz]; exact heap_alloc_new wr _
                have cE := (cells_of_heap hE).1
                have e0 := cE 0 _ rfl
                have e1 := cE 1 _ rfl
                have e2 := cE 2 _ rfl
                have e3 := cE 3 _ rfl
                have e4 := cE 4 _ rfl
                have e5 := cE 5 _ rfl
                have hKz : KeptBut w8.heap.size (w6.heap.size + 1) w8 wz := by rw [← hwz]; exact HK3.out.alloc HK3.out.size _
                have HKZ := Lib.hid hKz
                have hcz' : wz.heap[w6.heap.size + 1]? = some (.cells cs 3 (0, 0)) := by rw [← hwz]; exact (heap_alloc_old _ _ (by have := HK3.out.size; omega)).trans HCS.out
                have HCZ := Lib.hid hcz'
                have m0 := (cells_of_heap hcz').1 i _ HCI.out
                have m1 := (cells_of_heap hcz').2 i
                have hLz := rowE_kept HRL8.out hKz (Nat.le_refl _) (fun x o n c hv => by have := LTL.out x o n c hv; have := HS7.out; omega)
                rcases hLz with ⟨_, h0⟩ | ⟨bL, oL, capL, hvL, hblL, hcL⟩
                · rw [h0] at hpi; simp at hpi
                obtain ⟨d0, d1, d2, d3, d4, d5⟩ := at_of hcL i hpi
                rw [show f[i] = y from HY.out] at d0 d1 d2 d3 d4 d5
                have hppL : pL = some ⟨bL, oL, none⟩ := by cases hvL; rfl
                clear hvL hcL hE cE hwz hKz hcz'
                subst hppL
                have nq := fun W => eqlE z y W
                have hg := entGuard
                by_cases ezy : z = y
                · have nq2 : ∀ W : World, (binOp .eql 32 (.agg #[.string z.key, .int .i64 z.id, .bool z.mark, .int .i64 z.size, .int .u32 z.sum, .bool z.latest]) (.agg #[.string y.key, .int .i64 y.id, .bool y.mark, .int .i64 y.size, .int .u32 y.sum, .bool y.latest])).run Try.prog W = .ok (.bool true) W := fun W => by rw [nq W, decide_eq_true ezy]
                  have HCN : Hid (((A ++ F).take (k + 1)).count y = cnt + 1) := by
                    show _ = _
                    rw [HTK.out, List.count_append, HCT.out, ezy]; simp
                  have hcw : IntKind.i64.wrap ((cnt : Int) + 1) = (cnt : Int) + 1 := IntWalk.i64_in _ (by omega)
                  have HEZ := Lib.hid ezy
                  clear nq ezy
                  go_quiet (fail)
                  go_wp2
                  have h9 := heap_set HCZ.out i (.int .i64 ((cnt : Int) + 1))
                  go_roundw
                  case rel =>
                    refine ⟨k + 1, by go_num, by omega, (HKZ.out.drewN nq).setCell i _, cs.setIfInBounds i (.int .i64 ((cnt : Int) + 1)), h9, by simpa using HSZ.out, ?_, fun j hj hj' => ?_⟩
                    · rw [HCN.out]
                      simp [HSZ.out, hpi]
                    · rw [Array.getElem?_setIfInBounds_ne (by omega)]
                      exact HCJ.out j hj hj'
                  case measure => simp [intOf]; omega
                · have nq2 : ∀ W : World, (binOp .eql 32 (.agg #[.string z.key, .int .i64 z.id, .bool z.mark, .int .i64 z.size, .int .u32 z.sum, .bool z.latest]) (.agg #[.string y.key, .int .i64 y.id, .bool y.mark, .int .i64 y.size, .int .u32 y.sum, .bool y.latest])).run Try.prog W = .ok (.bool false) W := fun W => by rw [nq W, decide_eq_false ezy]
                  have HCN : Hid (((A ++ F).take (k + 1)).count y = cnt) := by
                    show _ = _
                    rw [HTK.out, List.count_append, HCT.out, List.count_eq_zero.2 (by simpa using fun h => ezy h.symm)]
                    rfl
                  clear nq ezy
                  go_quiet (fail)
                  go_wp2
                  go_roundw
                  case rel => exact ⟨k + 1, by go_num, by omega, HKZ.out.drewN nq, cs, HCZ.out, HSZ.out, by rw [HCN.out]; exact HCI.out, HCJ.out⟩
                  case measure => simp [intOf]; omega
            · have hkz : (A.length : Int) + (F.length : Int) ≤ (k : Int) := by omega
              have hcn1 : cnt = 1 := by
                rw [← HCT.out, List.take_of_length_le (by rw [List.length_append]; omega)]
                exact HONE.out
              subst hcn1
              have m0 := (cells_of_heap HCS.out).1 i _ HCI.out
              go_wp2
              go_roundw
              case rel => exact ⟨i + 1, by go_num, by omega, HK3, cs, HCS.out, HSZ.out, fun j hj hj' => HCJ.out j (by omega) hj'⟩
              case measure => simp [intOf]; omega
        · have hpz : (f.length : Int) ≤ (i : Int) := by omega
          have y1 := (cells_of_heap ((HK2.out.block w6.heap.size (by omega) (by omega)).trans HY8.out)).1 1 _ rfl
          go_wp2
          go_ret
          exact ⟨rfl, HK2.out.toBelow HB8.out HB8.out.size HW.out⟩

theorem walkv (v : Value) (d : DataW H) (ps : List MemPlace) {W : World} {base base' : Nat} (o : Value.okWide Try.prog W .any base 22 v) (h : DataW.Trod enc Try.prog W 0 (fun _ => true) true 22 v d ps)
    (u : Value) (d' : DataW H) (ps' : List MemPlace) (o' : Value.okWide Try.prog W .any base' 50 u) (h' : DataW.Trod enc Try.prog W 0 (fun _ => true) true 50 u d' ps') (a : Int) (wa : (Lit.int .u8 a).wf = true) :
    Calls Try.prog 6 #[v, u, .int .u8 a] W fun e W' => e = .returned (.bool true) ∧ Below W.heap.size W W' := by
  obtain ⟨l, hr, hl, -⟩ := open_row o h
  obtain ⟨m, hu, hm⟩ := open_drop o' h'
  exact walk l hl v W hr u m hu hm a wa
end
theorem own : ownKnob Try.prog.godebug = none := by kernel_rfl
theorem laidOut : laidOutB Try.prog = true := by kernel_rfl
set_option maxRecDepth 100000 in
theorem lifted (os : Os) (started : os.Started) (H : Type) (enc : TypeId × Value → H) :
    ReturnsInHanded {} Try.checked os 6 .any (Rows.pageGoneSpec.pre6 enc Try.prog Try.f6 Rows.pageGoneRow.domain false) (Rows.pageGoneSpec.post enc Try.prog Try.f6 false true false false) := by
  refine returnsInHanded_of_change (C := Try.checked) own started (by kernel_rfl) Try.func6
    (ChangeSpec.witness6 (enc := enc) (C := Try.checked) false ⟨#[], #[.slice none 0 0, .slice none 0 0, .int .u8 0], []⟩ 8 (by kernel_rfl) (by kernel_rfl) (by kernel_rfl) (by kernel_rfl)) ?_
  intro W base args ds gs before hval0 hW hcnd _
  have hval : ∀ (j : Nat) t v, Try.f6.params[j]? = some t → args[j]? = some v → Value.okWide Try.prog W .any base t v := hval0
  have hW' := hW
  obtain ⟨p, q, hA0, hV, rfl, hfz, hnd⟩ := hW
  have hA : DataW.TrodAll enc Try.prog W 0 (fun _ => true) true Try.f6.params.toList args.toList ds p := hA0
  rw [Try.params6] at hA hval
  obtain ⟨v0, vs0, d0, ds0, p0, q0, hargs, rfl, rfl, h0, r0⟩ := trodAll_cons hA
  obtain ⟨v1, vs1, d1, ds1, p1, q1, rfl, rfl, rfl, h1, r1⟩ := trodAll_cons r0
  obtain ⟨v2, vs2, d2, ds2, p2, q2, rfl, rfl, rfl, h2, r2⟩ := trodAll_cons r1
  obtain ⟨rfl, rfl, rfl⟩ := trodAll_nil r2
  obtain rfl : args = #[v0, v1, v2] := by cases args; simp_all
  obtain ⟨rfl, rfl⟩ := trodVars_none hV
  have o0 := hval 0 22 v0 rfl rfl
  have o1 := hval 1 50 v1 rfl rfl
  obtain ⟨a2, rfl, rfl, rfl, w2⟩ := open_int Try.underlying5 (hval 2 5 v2 rfl rfl) h2
  clear hA0 hval0
  simp only [List.append_nil] at hW'
  refine (walkv v0 d0 p0 o0 h0 v1 d1 p1 o1 h1 a2 w2).mono fun e W' ⟨he, hg⟩ => ?_
  subst he
  exact ⟨_, rfl, law_post laidOut (of_decide_eq_true (by kernel_rfl)) Try.underlying4 rfl rfl rfl rfl rfl hW' hg⟩

theorem over : Rows.pageGoneRow.holds Try.pinned (OpenSpec.ofChange Rows.pageGoneSpec) :=
  OpenClaim.holds_of_wide 6 Try.f6 rfl rfl rfl rfl rfl rfl rfl ⟨rfl, rfl, rfl, rfl, rfl⟩ rfl rfl rfl rfl rfl (by kernel_rfl) Try.func6 (by kernel_rfl)
    (of_decide_eq_true (by kernel_rfl)) (by unfold Func.isWrapper; first | (rw [if_pos (by decide +kernel)]; kernel_rfl) | (rw [if_neg (by decide +kernel)]; exact ⟨rfl, rfl⟩))
    (fun os started H enc _ => lifted os started H enc)

/-- ████ THE STATEMENT ████ -/
theorem proved : Rows.PageGoneSaid :=
  over
#print axioms proved
end Go.Proofs.Ytgaejaadjmcckaa.pageGone
