/- The document's own sort of entries: all of them, sorted. -/
import Derived.Test.YtgaejaadjmcckaaPIns
import Derived.Test.YtgaejaadjmcckaaPVers
import Derived.Deep.DeepCutAuto
namespace Go.Proofs.Ytgaejaadjmcckaa
open Go.Shelf Go.RowKit Go.Lib Go.Sort Srt Nam

/-- What is known of a row's cells, out of the sort's form. -/
theorem flat_of_holds {W : World} {g : Nat} {s : List Ent} (h : HoldsK encE 6 W g 0 s.toArray) : ∀ j u, (s.flatMap encE)[j]? = some u → W.cell? ⟨g, 0 + j, none⟩ = some u := by
  intro j u hj
  have hj' : j < s.length * 6 := by rw [← flat_length]; exact (List.getElem?_eq_some_iff.1 hj).1
  rw [flat_flatK s j hj'] at hj
  injection hj with hj
  have := (h j (by rw [size_flatK]; simpa using hj')).1
  rw [this, ← hj]
  rfl

theorem holds_of_own {W : World} {base g cap n : Nat} {s : List Ent} (h : W.ownsRow base 32 6 (.slice (some ⟨g, 0, none⟩) n cap) n (s.flatMap encE)) (hn : n = s.length) : HoldsK encE 6 W g 0 s.toArray := by
  intro j hj
  rw [size_flatK] at hj
  have hj' : j < s.length * 6 := by simpa using hj
  rw [Nat.zero_add]
  exact ⟨by rw [h.cellAt j (by rw [hn]; exact hj'), flat_flatK s j hj']; rfl, h.frozenAt j⟩

theorem own_of_swk {w1 W : World} {base g cap n : Nat} {s0 s : List Ent} (h : w1.ownsRow base 32 6 (.slice (some ⟨g, 0, none⟩) n cap) n (s0.flatMap encE)) (h0 : n = s0.length) (hs : SWK encE 6 w1 g 0 s.toArray W) (hl : s.length = n) :
    W.ownsRow base 32 6 (.slice (some ⟨g, 0, none⟩) n cap) n (s.flatMap encE) := by
  have hH := holds_of_own h h0
  have hlt : g < w1.heap.size := by
    rcases h.2 with ⟨h1, _⟩ | ⟨g', c', cur, h1, h2, h3, _⟩
    · cases h1
    · cases h1; exact (Array.getElem?_eq_some_iff.1 h3).1
  have hHd := flat_of_holds (hs.holds hlt hH (by simp; omega))
  refine ⟨by rw [flat_length, hl], ?_⟩
  rcases h.2 with ⟨h1, _⟩ | ⟨g', c', cur, h1, h2, h3, h4, h5, h6, h7⟩
  · cases h1
  · cases h1
    obtain ⟨m, os, hw⟩ := id hs
    have hb : ∃ cur2 : Array Value, W.heap[g]? = some (.cells cur2 32 (0, 0)) ∧ cur2.size = cur.size := by
      rw [hw]
      unfold sortWorldK
      have e1 : g < (putRowK encE 6 (Sort.ahead w1 m) g 0 s.toArray).heap.size := by rw [size_putRowK]; exact hlt
      rw [heap_grow_old _ _ e1]
      unfold putRowK putRow mapBlock
      simp only [Array.getElem?_modify]
      rw [if_pos trivial, show (Sort.ahead w1 m).heap[g]? = w1.heap[g]? from rfl, h3]
      exact ⟨_, rfl, by simp [putCells]⟩
    obtain ⟨cur2, hb1, hb2⟩ := hb
    refine .inr ⟨g, cap, cur2, rfl, h2, hb1, h4, h5, by rw [hb2]; exact h6, ?_⟩
    have hc := (cells_of_heap hb1).1
    refine List.ext_getElem? fun j => ?_
    by_cases hj : j < n * 6
    · rw [List.getElem?_take_of_lt hj]
      have hj2 : j < (s.flatMap encE).length := by rw [flat_length, hl]; exact hj
      have e1 := hHd j _ (List.getElem?_eq_getElem hj2)
      rw [List.getElem?_eq_getElem hj2]
      have hj3 : j < cur2.size := by
        rw [hb2, h6]
        exact Nat.lt_of_lt_of_le hj (Nat.mul_le_mul_right 6 h4)
      have e2 := hc j _ (Array.getElem?_eq_getElem hj3)
      rw [Nat.zero_add] at e1
      rw [e1] at e2
      rw [Array.getElem?_toList, Array.getElem?_eq_getElem hj3, e2]
    · rw [List.getElem?_eq_none (by rw [List.length_take]; omega), List.getElem?_eq_none (by rw [flat_length, hl]; omega)]

theorem midE_end (s : List Ent) (x : Ent) : midE s x s.length = s ++ [x] := by
  unfold midE; rw [List.take_length, List.drop_length]

set_option maxHeartbeats 1000000 in
set_option maxRecDepth 100000 in
theorem rsort_is (l : List Ent) (hl : l.length ≤ 1000000) (hk : ∀ x ∈ l, x.key.size ≤ maxLen) (v : Value) (w : World) (h : RowE w v l) :
    Calls Try.prog 21 #[v] w fun e w' => ∃ v' l', e = .returned v' ∧ w'.ownsRow w.heap.size 32 6 v' l'.length (l'.flatMap encE) ∧ l'.Perm l ∧ SortedE l' ∧ Below w.heap.size w w' := by
  obtain ⟨p, c, rfl, -⟩ := len_of_row h
  have HV := Lib.hid h; clear h
  have HKS := Lib.hid hk; clear hk
  go_enter Try.func21, Try.ntmps21
  go_wp2_with fail
  go_loopw [3, 4] (fun vo vi wr => ∃ (i : Nat) (s : List Ent) (sv : Value), sv = vo ∧ vi = .int .i64 i ∧ i ≤ l.length ∧ Hid (wr.ownsRow w.heap.size 32 6 sv s.length (s.flatMap encE)) ∧ Hid (s.Perm (l.take i)) ∧ Hid (SortedE s) ∧ Hid (Below w.heap.size w wr)) (fun _ v _ => l.length - (intOf v).toNat)
  case atStart => exact ⟨0, [], _, rfl, rfl, Nat.zero_le _, ⟨rfl, .inl ⟨rfl, rfl⟩⟩, List.Perm.refl _, List.Pairwise.nil, Below.refl _ _⟩
  case round =>
    obtain ⟨i, s, vo, hvo, rfl, hi, HO, HP, HS, HB⟩ := hrel
    subst hvo
    by_cases hpi : i < l.length
    · have hpz : (i : Int) < (l.length : Int) := by omega
      have hn : s.length = i := by
        have := HP.out.length_eq
        rw [List.length_take] at this
        omega
      have HR := Lib.hid (HV.out.below HB.out)
      rcases HR.out with ⟨_, h0⟩ | ⟨b, o, cap, hv, hbl, hc⟩
      · rw [h0] at hpi; simp at hpi
      obtain ⟨a0, a1, a2, a3, a4, a5⟩ := at_of hc i hpi
      have hpp : p = some ⟨b, o, none⟩ := by cases hv; rfl
      have htk : l.take (i + 1) = l.take i ++ [l[i]] := List.take_succ_eq_append_getElem hpi
      have hkx : (l[i]).key.size ≤ maxLen := HKS.out _ (List.getElem_mem _)
      obtain ⟨x, hx⟩ : ∃ x, l[i] = x := ⟨_, rfl⟩
      rw [hx] at a0 a1 a2 a3 a4 a5 htk hkx
      have HTK := Lib.hid htk; clear htk hx hc hv
      subst hpp
      obtain ⟨ps, cs, rfl⟩ : ∃ ps cs, vo = .slice ps s.length cs := by
        rcases HO.out.2 with ⟨h1, h2⟩ | ⟨g1, c1, _, h1, _⟩
        · exact ⟨none, 0, by rw [h1, h2]⟩
        · exact ⟨_, _, h1⟩
      have HN := Lib.hid hn; clear hn
      obtain ⟨i0, hi0, hz0, hz1, hz2⟩ := info_parts infoE
      have hsn : s.length ≤ 1000000 := by have := HN.out; omega
      go_wp2_with (first
        | (at_builtin; refine wpList_append_lies _ rfl _ _ 22 rfl w.heap.size 32 i0 _ 6 56 Try.underlying22 hi0 hz0 hz1 hz2 rfl (by omega) (.slice ps s.length cs) s.length (s.flatMap encE) rfl (HO.out.alloc _) ⟨wr.heap.size, 0, none⟩ 1 1 (encE x) rfl rfl (World.news_of_block (cs := (encE x).toArray) (t := 32) (fr := (0, 0)) (heap_alloc_new wr _)) (encE_one x) (by omega) (by unfold maxLen; omega) (by omega) (by have := HB.out.size; simp; omega) (wr.heap.size + 1) (by simp) ?_; intro g cap w1 hown1 hgrow1 _ hlt1; have HO1 := Lib.hid hown1; clear hown1; have HG1 := Lib.hid hgrow1; clear hgrow1))
      have hx0 : s.flatMap encE ++ encE x = (midE s x s.length).flatMap encE := by rw [midE_end]; simp
      have ho1 := HO1.out
      rw [hx0] at ho1
      have hH := holds_of_own ho1 (midE_length s x s.length (Nat.le_refl _)).symm
      have R : RowK encE 6 w1 g 0 (midE s x s.length).toArray := ⟨encE_length, encE_one, hH, hlt1⟩
      have HRK := Lib.hid R
      have HO2 := Lib.hid ho1
      have HB1 := Lib.hid (show Below w.heap.size w w1 from (HB.out.alloc HB.out.size _).grown HG1.out (by have := HB.out.size; simp; omega) (own_ge HO.out))
      clear R hx0 ho1 HG1 HO1 HO HB HR HV a0 a1 a2 a3 a4 a5
      have hfin : ∀ (k : Nat) (W : World), k ≤ s.length → SWK encE 6 w1 g 0 (midE s x k).toArray W → (∀ y ∈ s.drop k, AheadE x y) → (k = 0 ∨ ¬ AheadE x (s.getD (k - 1) default)) →
          W.ownsRow w.heap.size 32 6 (.slice (some ⟨g, 0, none⟩) (s.length + 1) cap) (midE s x k).length ((midE s x k).flatMap encE) ∧ (midE s x k).Perm (l.take (i + 1)) ∧ SortedE (midE s x k) ∧ Below w.heap.size w W := fun k W hk hsw hah ht => by
        refine ⟨?_, ?_, midE_sorted HS.out hk hah ht, below_swk HB1.out HB1.out.size ?_ hsw⟩
        · rw [midE_length s x k hk]
          exact own_of_swk HO2.out (midE_length s x s.length (Nat.le_refl _)).symm hsw (midE_length s x k hk)
        · rw [HTK.out]
          exact (midE_perm s x k).trans ((List.Perm.cons x HP.out).trans (List.perm_append_comm (l₁ := [x]) (l₂ := l.take i)))
        · exact own_ge HO2.out g rfl
      have HFIN := Lib.hid hfin; clear hfin
      go_loopw [5] (fun vk wr2 => ∃ k : Nat, vk = .int .i64 k ∧ k ≤ s.length ∧ Hid (SWK encE 6 w1 g 0 (midE s x k).toArray wr2) ∧ Hid (∀ y ∈ s.drop k, AheadE x y)) (fun v _ => (intOf v).toNat)
      case atStart => exact ⟨s.length, rfl, Nat.le_refl _, SWK.start hH, by rw [List.drop_length]; intro y hy; cases hy⟩
      case round =>
        obtain ⟨k, rfl, hks, HSW, HAH⟩ := hrel
        clear hH
        by_cases hk0 : k = 0
        · subst hk0
          go_wp2_with fail
          go_quiet (fail)
          go_wp2
          have HFE := Lib.hid (HFIN.out 0 _ (Nat.zero_le _) (HSW.out.drewN nq) HAH.out (.inl rfl))
          go_roundw
          case rel => exact ⟨i + 1, midE s x 0, _, rfl, by go_num, by omega, HFE.out.1, HFE.out.2.1, HFE.out.2.2.1, HFE.out.2.2.2⟩
          case measure => simp [intOf]; omega
        · obtain ⟨k0, hk1⟩ : ∃ k0, k = k0 + 1 := ⟨k - 1, by omega⟩
          have hsz : (midE s x k).toArray.size = (midE s x s.length).toArray.size := by simp [midE_length s x k hks, midE_length s x s.length (Nat.le_refl _)]
          have hcl := flat_of_holds (HSW.out.holds hlt1 HRK.out.hH hsz)
          have hlk : (midE s x k).length = s.length + 1 := midE_length s x k hks
          obtain ⟨a0, a1, -, -, -, -⟩ := at_of hcl k (by omega)
          obtain ⟨b0, b1, -, -, -, -⟩ := at_of hcl k0 (by omega)
          rw [← getD_of, midE_at s x k hks, Nat.zero_add] at a0 a1
          rw [← getD_of, midE_lo s x k k0 hks (by omega), Nat.zero_add] at b0 b1
          obtain ⟨y, hy⟩ : ∃ y, s.getD k0 default = y := ⟨_, rfl⟩
          rw [hy] at b0 b1
          have hky : y.key.size ≤ maxLen := by
            rw [← hy, getD_of (by omega)]
            exact HKS.out _ (List.take_subset _ _ (HP.out.subset (List.getElem_mem _)))
          have e1 : IntKind.i64.wrap ((k : Int) - 1) = (k0 : Int) := by rw [hk1]; exact (IntWalk.i64_in _ (by omega)).trans (by omega)
          have e2 : (0 : Int) ≤ (k0 : Int) := by omega
          have e3 : (k0 : Int) < (s.length : Int) + 1 := by omega
          have e4 : (k : Int) < (s.length : Int) + 1 := by omega
          have e5 : (0 : Int) < (k : Int) := by omega
          have e6 : 0 < k := by omega
          obtain ⟨lb, hlb⟩ : ∃ lb, Op.bytesLess x.key.toList y.key.toList = lb := ⟨_, rfl⟩
          have cl : ∀ w : World, Calls Try.prog 13 #[.string x.key, .string y.key] w fun e w' => e = .returned (.bool lb) ∧ ∃ n, w' = w.drewN n := fun w => by
            rw [← hlb]; exact rless_is x.key y.key w hkx hky
          have CL := Lib.hid cl; clear cl
          have HLB := Lib.hid hlb; clear hlb
          have HY := Lib.hid hy; clear hy
          have HK1 := Lib.hid hk1; clear hk1
          have HSZ := Lib.hid hsz; clear hsz hcl
          have hdk : s.drop k0 = y :: s.drop k := by
            rw [List.drop_eq_getElem_cons (show k0 < s.length by have := HK1.out; omega), ← HY.out, getD_of (show k0 < s.length by have := HK1.out; omega)]
            exact congrArg (fun z => s[k0]'(by have := HK1.out; omega) :: List.drop z s) HK1.out.symm
          have HDK := Lib.hid hdk; clear hdk
          have hno : ¬ AheadE x y → ¬ AheadE x (s.getD (k - 1) default) := fun h => by rw [HK1.out, Nat.add_sub_cancel, HY.out]; exact h
          have HNO := Lib.hid hno; clear hno
          have hyes : AheadE x y → ∀ z ∈ s.drop k0, AheadE x z := fun h z hz => by
            rw [HDK.out] at hz
            rcases List.mem_cons.1 hz with rfl | hz
            · exact h
            · exact HAH.out z hz
          have HYES := Lib.hid hyes; clear hyes
          cases lb
          · by_cases hkk : x.key = y.key
            · have ht : (x.key.toList == y.key.toList) = true := by rw [hkk]; simp
              by_cases hid' : y.id < x.id
              · have ha : AheadE x y := .inr ⟨hkk, hid'⟩
                have HA := Lib.hid (HYES.out ha)
                have HKK := Lib.hid hkk; clear hkk ha
                go_wp2_with fail
                go_quiet ((go_at_call 13; first | exact quiet_add CL.out | exact quiet_any CL.out))
                go_upto_region 9 with (fail)
                have XS : SWK encE 6 w1 g 0 (midE s x k).toArray (wr.drewN nq) := HSW.out.drewN nq
                obtain ⟨wq, hwq⟩ : ∃ wq, wr.drewN nq = wq := ⟨_, rfl⟩
                rw [hwq] at XS ⊢
                clear hwq a0 a1 b0 b1
                obtain ⟨K6, h6⟩ : ∃ K6 : Nat, K6 = 6 := ⟨6, rfl⟩
                obtain ⟨P, hP⟩ : ∃ P, P = Try.prog := ⟨_, rfl⟩
                have R6 : RowK encE K6 w1 g 0 (midE s x s.length).toArray := by rw [h6]; exact HRK.out
                have X6 : SWK encE K6 w1 g 0 (midE s x k).toArray wq := by rw [h6]; exact XS
                have aE : ∀ w, (isAgg 32).run P w = .ok true w := by rw [hP]; exact Try.isAgg32
                have zE : ∀ w, (Go.sizeOf 32).run P w = .ok K6 w := by rw [hP, h6]; exact Try.sizeOf32
                have mixed : P.follows .mixedOrders = true := by rw [hP]; kernel_rfl
                have t3 : P.underlying 3 = some (.int .i64) := by rw [hP]; exact Try.underlying3
                have a3 : ∀ w, (isAgg 3).run P w = .ok false w := by rw [hP]; exact Try.isAgg3
                have z3 : ∀ w, (Go.sizeOf 3).run P w = .ok 1 w := by rw [hP]; exact Try.sizeOf3
                have t41 : P.underlying 22 = some (.slice 32) := by rw [hP]; exact Try.underlying22
                have a41 : ∀ w, (isAgg 22).run P w = .ok false w := by rw [hP]; exact Try.isAgg22
                have z41 : ∀ w, (Go.sizeOf 22).run P w = .ok 1 w := by rw [hP]; exact Try.sizeOf22
                have u41 := run_underlying t41
                have hks1 : k < (midE s x k).toArray.size := by rw [List.size_toArray, hlk]; omega
                have hks0 : k0 < (midE s x k).toArray.size := by rw [List.size_toArray, hlk]; omega
                have la := X6.ld1 R6 HSZ.out P k0 hks0
                have lb := X6.ld1 R6 HSZ.out P k hks1
                have s1 := X6.st1 R6 HSZ.out P k hks1 ((midE s x k).toArray[k0]!)
                have s2 := X6.st2 R6 HSZ.out P k k0 hks1 hks0 ((midE s x k).toArray[k0]!) ((midE s x k).toArray[k]!)
                have sw := X6.swapped R6 k k0 hks1 hks0
                have hsw2 : swp (midE s x k).toArray k k0 = (midE s x k0).toArray := by rw [HK1.out]; exact midE_swap s x k0 (by have := HK1.out; omega)
                rw [hsw2] at sw
                have kA : (encE ((midE s x k).toArray[k0]!)).length = K6 := R6.hk _
                have kB : (encE ((midE s x k).toArray[k]!)).length = K6 := R6.hk _
                obtain ⟨cA, hcA⟩ : ∃ c, encE ((midE s x k).toArray[k0]!) = c := ⟨_, rfl⟩
                obtain ⟨cB, hcB⟩ : ∃ c, encE ((midE s x k).toArray[k]!) = c := ⟨_, rfl⟩
                rw [hcA] at la s1 s2 sw kA
                rw [hcB] at lb s2 sw kB
                simp only [Nat.zero_add] at la lb s1 s2 sw
                have SW := Lib.hid sw
                have H6 := Lib.hid h6
                clear hcA hcB sw hsw2 XS X6 R6 h6 hks0 hks1
                rw [← hP]
                have HPP := Lib.hid hP
                clear hP
                go_big_region_o
                all_goals go_wp2
                go_roundw
                case rel => exact ⟨k0, rfl, by have := HK1.out; omega, by have h6 := H6.out; subst h6; exact SW.out, HA.out⟩
                case measure => have := HK1.out; simp [intOf]; omega
              · have hlb := HLB.out
                have ha : ¬ AheadE x y := by
                  rintro (h | ⟨_, h⟩)
                  · rw [hlb] at h; cases h
                  · exact hid' h
                have HA := Lib.hid ha
                have HKK := Lib.hid hkk; clear hkk ha hlb
                go_wp2_with fail
                go_quiet ((go_at_call 13; first | exact quiet_add CL.out | exact quiet_any CL.out))
                go_wp2
                have HFE := Lib.hid (HFIN.out k _ hks (HSW.out.drewN nq) HAH.out (.inr (HNO.out HA.out)))
                go_roundw
                case rel => exact ⟨i + 1, midE s x k, _, rfl, by go_num, by omega, HFE.out.1, HFE.out.2.1, HFE.out.2.2.1, HFE.out.2.2.2⟩
                case measure => simp [intOf]; omega
            · have ht : (x.key.toList == y.key.toList) = false := by
                rw [beq_eq_false_iff_ne]; exact fun h => hkk (list_inj_data h)
              have hlb := HLB.out
              have ha : ¬ AheadE x y := by
                rintro (h | ⟨h, _⟩)
                · rw [hlb] at h; cases h
                · exact hkk h
              have HA := Lib.hid ha
              have HKK := Lib.hid hkk; clear hkk ha hlb
              go_wp2_with fail
              go_quiet ((go_at_call 13; first | exact quiet_add CL.out | exact quiet_any CL.out))
              go_wp2
              have HFE := Lib.hid (HFIN.out k _ hks (HSW.out.drewN nq) HAH.out (.inr (HNO.out HA.out)))
              go_roundw
              case rel => exact ⟨i + 1, midE s x k, _, rfl, by go_num, by omega, HFE.out.1, HFE.out.2.1, HFE.out.2.2.1, HFE.out.2.2.2⟩
              case measure => simp [intOf]; omega
          · have ha : AheadE x y := .inl HLB.out
            have HA := Lib.hid (HYES.out ha)
            clear ha
            go_wp2_with fail
            go_quiet ((go_at_call 13; first | exact quiet_add CL.out | exact quiet_any CL.out))
            go_upto_region 9 with (fail)
            have XS : SWK encE 6 w1 g 0 (midE s x k).toArray (wr.drewN nq) := HSW.out.drewN nq
            obtain ⟨wq, hwq⟩ : ∃ wq, wr.drewN nq = wq := ⟨_, rfl⟩
            rw [hwq] at XS ⊢
            clear hwq a0 a1 b0 b1
            obtain ⟨K6, h6⟩ : ∃ K6 : Nat, K6 = 6 := ⟨6, rfl⟩
            obtain ⟨P, hP⟩ : ∃ P, P = Try.prog := ⟨_, rfl⟩
            have R6 : RowK encE K6 w1 g 0 (midE s x s.length).toArray := by rw [h6]; exact HRK.out
            have X6 : SWK encE K6 w1 g 0 (midE s x k).toArray wq := by rw [h6]; exact XS
            have aE : ∀ w, (isAgg 32).run P w = .ok true w := by rw [hP]; exact Try.isAgg32
            have zE : ∀ w, (Go.sizeOf 32).run P w = .ok K6 w := by rw [hP, h6]; exact Try.sizeOf32
            have mixed : P.follows .mixedOrders = true := by rw [hP]; kernel_rfl
            have t3 : P.underlying 3 = some (.int .i64) := by rw [hP]; exact Try.underlying3
            have a3 : ∀ w, (isAgg 3).run P w = .ok false w := by rw [hP]; exact Try.isAgg3
            have z3 : ∀ w, (Go.sizeOf 3).run P w = .ok 1 w := by rw [hP]; exact Try.sizeOf3
            have t41 : P.underlying 22 = some (.slice 32) := by rw [hP]; exact Try.underlying22
            have a41 : ∀ w, (isAgg 22).run P w = .ok false w := by rw [hP]; exact Try.isAgg22
            have z41 : ∀ w, (Go.sizeOf 22).run P w = .ok 1 w := by rw [hP]; exact Try.sizeOf22
            have u41 := run_underlying t41
            have hks1 : k < (midE s x k).toArray.size := by rw [List.size_toArray, hlk]; omega
            have hks0 : k0 < (midE s x k).toArray.size := by rw [List.size_toArray, hlk]; omega
            have la := X6.ld1 R6 HSZ.out P k0 hks0
            have lb := X6.ld1 R6 HSZ.out P k hks1
            have s1 := X6.st1 R6 HSZ.out P k hks1 ((midE s x k).toArray[k0]!)
            have s2 := X6.st2 R6 HSZ.out P k k0 hks1 hks0 ((midE s x k).toArray[k0]!) ((midE s x k).toArray[k]!)
            have sw := X6.swapped R6 k k0 hks1 hks0
            have hsw2 : swp (midE s x k).toArray k k0 = (midE s x k0).toArray := by rw [HK1.out]; exact midE_swap s x k0 (by have := HK1.out; omega)
            rw [hsw2] at sw
            have kA : (encE ((midE s x k).toArray[k0]!)).length = K6 := R6.hk _
            have kB : (encE ((midE s x k).toArray[k]!)).length = K6 := R6.hk _
            obtain ⟨cA, hcA⟩ : ∃ c, encE ((midE s x k).toArray[k0]!) = c := ⟨_, rfl⟩
            obtain ⟨cB, hcB⟩ : ∃ c, encE ((midE s x k).toArray[k]!) = c := ⟨_, rfl⟩
            rw [hcA] at la s1 s2 sw kA
            rw [hcB] at lb s2 sw kB
            simp only [Nat.zero_add] at la lb s1 s2 sw
            have SW := Lib.hid sw
            have H6 := Lib.hid h6
            clear hcA hcB sw hsw2 XS X6 R6 h6 hks0 hks1
            rw [← hP]
            have HPP := Lib.hid hP
            clear hP
            go_big_region_o
            all_goals go_wp2
            go_roundw
            case rel => exact ⟨k0, rfl, by have := HK1.out; omega, by have h6 := H6.out; subst h6; exact SW.out, HA.out⟩
            case measure => have := HK1.out; simp [intOf]; omega
    · have hpz : (l.length : Int) ≤ (i : Int) := by omega
      have hil : i = l.length := by omega
      have HIL := Lib.hid hil; clear hil
      go_wp2
      go_ret
      refine ⟨_, s, rfl, HO.out, ?_, HS.out, HB.out⟩
      have := HP.out
      rwa [HIL.out, List.take_length] at this
end Go.Proofs.Ytgaejaadjmcckaa
