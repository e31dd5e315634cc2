/- The document's own sort, pages: merged (pgm.py). -/
import Derived.Test.YtjbjcfnbgcloiaaGreatDoorCq12
import Derived.Deep.DeepCutAuto
import Derived.Deep.RegionHeldLaw
import Derived.Deep.RegionHeld3
set_option linter.unusedSimpArgs false
set_option linter.unusedVariables false

namespace Go.Proofs.YtjbjcfnbgcloiaaGreatDoor
open Go.Shelf Go.RowKit Go.Lib Go.Sort Nam

theorem ltE_ahead (x y : Ent) : ltOf cfE x y = true ↔ AheadE x y := ltE_iff x y
theorem ltE_nahead (x y : Ent) : ltOf cfE x y = false ↔ ¬ AheadE x y := by rw [← ltE_ahead, Bool.not_eq_true]
def midE (s : List Ent) (x : Ent) (k : Nat) : List Ent := s.take k ++ x :: s.drop k
theorem midE_length (s : List Ent) (x : Ent) (k : Nat) (hk : k ≤ s.length) : (midE s x k).length = s.length + 1 := by
  unfold midE; simp; omega
theorem midE_perm (s : List Ent) (x : Ent) (k : Nat) : (midE s x k).Perm (x :: s) := by
  unfold midE
  refine List.perm_middle.trans ?_
  rw [List.take_append_drop]
theorem midE_at (s : List Ent) (x : Ent) (k : Nat) (hk : k ≤ s.length) : (midE s x k).getD k default = x := by
  unfold midE
  rw [List.getD_eq_getElem?_getD, List.getElem?_append_right (by rw [List.length_take]; omega), List.length_take, Nat.min_eq_left hk, Nat.sub_self]
  rfl
theorem midE_lo (s : List Ent) (x : Ent) (k j : Nat) (hk : k ≤ s.length) (hj : j < k) : (midE s x k).getD j default = s.getD j default := by
  unfold midE
  rw [List.getD_eq_getElem?_getD, List.getD_eq_getElem?_getD, List.getElem?_append_left (by simp; omega), List.getElem?_take_of_lt hj]
theorem midE_hi (s : List Ent) (x : Ent) (k j : Nat) (hk : k ≤ s.length) (hj : k < j) : (midE s x k).getD j default = s.getD (j - 1) default := by
  unfold midE
  rw [List.getD_eq_getElem?_getD, List.getD_eq_getElem?_getD, List.getElem?_append_right (by simp; omega), List.length_take, Nat.min_eq_left hk]
  obtain ⟨d, rfl⟩ : ∃ d, j = k + 1 + d := ⟨j - k - 1, by omega⟩
  rw [show k + 1 + d - k = d + 1 by omega, List.getElem?_cons_succ, List.getElem?_drop, show k + 1 + d - 1 = k + d by omega]
theorem midE_swap (s : List Ent) (x : Ent) (k : Nat) (hk : k + 1 ≤ s.length) : swp (midE s x (k + 1)).toArray (k + 1) k = (midE s x k).toArray := by
  have h1 := midE_length s x (k + 1) hk
  have h0 := midE_length s x k (by omega)
  refine Array.ext (by rw [swp_size]; simp [h1, h0]) fun j hj hj' => ?_
  have hjl : j < s.length + 1 := by simpa [h0] using hj'
  have e : ∀ (l : List Ent) (i : Nat) , l.toArray[i]! = l.getD i default := fun l i => by
    rw [List.getD_eq_getElem?_getD, getElem!_def]
    simp
    cases l[i]? <;> rfl
  have g1 : (swp (midE s x (k + 1)).toArray (k + 1) k)[j]! = (midE s x k).toArray[j]! := by
    rw [swp_get _ (by simp [h1]; omega) (by simp [h1]; omega), e, e, e, e]
    by_cases c1 : j = k
    · rw [if_pos c1, c1, midE_at _ _ _ hk, midE_at _ _ _ (by omega)]
    · rw [if_neg c1]
      by_cases c2 : j = k + 1
      · rw [if_pos c2, c2, midE_lo _ _ _ _ hk (by omega), midE_hi _ _ _ _ (by omega) (by omega)]
        rfl
      · rw [if_neg c2]
        by_cases c3 : j < k
        · rw [midE_lo _ _ _ _ hk (by omega), midE_lo _ _ _ _ (by omega) c3]
        · rw [midE_hi _ _ _ _ hk (by omega), midE_hi _ _ _ _ (by omega) (by omega)]
  rw [getElem!_pos _ j hj, getElem!_pos _ j hj'] at g1
  exact g1
theorem midE_sorted {s : List Ent} (hs : SortedE s) {x : Ent} {k : Nat} (hk : k ≤ s.length) (hb : ∀ y ∈ s.drop k, AheadE x y) (ht : k = 0 ∨ ¬ AheadE x (s.getD (k - 1) default)) : SortedE (midE s x k) := by
  have hs' : s.Pairwise fun x y => ltOf cfE y x = false := hs
  show (midE s x k).Pairwise fun x y => ltOf cfE y x = false
  unfold midE
  have hall : ∀ a ∈ s.take k, ¬ AheadE x a := by
    intro a ha hax
    rcases ht with ht | ht
    · subst ht; simp at ha
    · obtain ⟨i, hi, rfl⟩ := List.getElem_of_mem ha
      rw [List.length_take] at hi
      rw [List.getElem_take] at hax
      have hk1 : k - 1 < s.length := by omega
      rw [getD_of hk1] at ht
      by_cases c : i = k - 1
      · subst c; exact ht hax
      · have := (List.pairwise_iff_getElem.1 hs') i (k - 1) (by omega) hk1 (by omega)
        rw [ltE_nahead] at this
        by_cases c2 : AheadE s[i] s[k - 1]
        · exact ht (hax.trans c2)
        · have e := ahead_total c2 this
          apply ht
          rcases hax with h | ⟨h1, h2⟩
          · exact .inl (by rw [← e.1]; exact h)
          · exact .inr ⟨h1.trans e.1, by rw [← e.2]; exact h2⟩
  rw [List.pairwise_append]
  refine ⟨hs'.sublist (List.take_sublist _ _), List.Pairwise.cons (fun y hy => ?_) (hs'.sublist (List.drop_sublist _ _)), fun a ha y hy => ?_⟩
  · rw [ltE_nahead]
    exact (hb y hy).not
  · rw [ltE_nahead]
    rcases List.mem_cons.1 hy with rfl | hy
    · exact hall a ha
    · intro h
      exact hall a ha ((hb y hy).trans h)
end Go.Proofs.YtjbjcfnbgcloiaaGreatDoor

namespace Go.Proofs.YtjbjcfnbgcloiaaGreatDoor
open Go.Shelf Go.RowKit Go.Lib Go.Sort Srt Nam

theorem flat_of_holds {W : World} {g : Nat} {s : List Ent} (h : HoldsK encE 6 W g 0 s.toArray) : ∀ j u, (s.flatMap encE)[j]? = some u → W.cell? ⟨g, 0 + j, none⟩ = some u := by
  intro j u hj
  have hj' : j < s.length * 6 := by rw [← flat_length]; exact (List.getElem?_eq_some_iff.1 hj).1
  rw [flat_flatK s j hj'] at hj
  injection hj with hj
  have := (h j (by rw [size_flatK]; simpa using hj')).1
  rw [this, ← hj]
  rfl
theorem holds_of_own {W : World} {base g cap n : Nat} {s : List Ent} (h : W.ownsRow base 111 6 (.slice (some ⟨g, 0, none⟩) n cap) n (s.flatMap encE)) (hn : n = s.length) : HoldsK encE 6 W g 0 s.toArray := by
  intro j hj
  rw [size_flatK] at hj
  have hj' : j < s.length * 6 := by simpa using hj
  rw [Nat.zero_add]
  exact ⟨by rw [h.cellAt j (by rw [hn]; exact hj'), flat_flatK s j hj']; rfl, h.frozenAt j⟩
theorem own_of_swk {w1 W : World} {base g cap n : Nat} {s0 s : List Ent} (h : w1.ownsRow base 111 6 (.slice (some ⟨g, 0, none⟩) n cap) n (s0.flatMap encE)) (h0 : n = s0.length) (hs : SWK encE 6 w1 g 0 s.toArray W) (hl : s.length = n) :
    W.ownsRow base 111 6 (.slice (some ⟨g, 0, none⟩) n cap) n (s.flatMap encE) := by
  have hH := holds_of_own h h0
  have hlt : g < w1.heap.size := by
    rcases h.2 with ⟨h1, _⟩ | ⟨g', c', cur, h1, h2, h3, _⟩
    · cases h1
    · cases h1; exact (Array.getElem?_eq_some_iff.1 h3).1
  have hHd := flat_of_holds (hs.holds hlt hH (by simp; omega))
  refine ⟨by rw [flat_length, hl], ?_⟩
  rcases h.2 with ⟨h1, _⟩ | ⟨g', c', cur, h1, h2, h3, h4, h5, h6, h7⟩
  · cases h1
  · cases h1
    obtain ⟨m, os, hw⟩ := id hs
    have hb : ∃ cur2 : Array Value, W.heap[g]? = some (.cells cur2 111 (0, 0)) ∧ cur2.size = cur.size := by
      rw [hw]
      unfold sortWorldK
      have e1 : g < (putRowK encE 6 (Sort.ahead w1 m) g 0 s.toArray).heap.size := by rw [size_putRowK]; exact hlt
      rw [heap_grow_old _ _ e1]
      unfold putRowK putRow mapBlock
      simp only [Array.getElem?_modify]
      rw [if_pos trivial, show (Sort.ahead w1 m).heap[g]? = w1.heap[g]? from rfl, h3]
      exact ⟨_, rfl, by simp [putCells]⟩
    obtain ⟨cur2, hb1, hb2⟩ := hb
    refine .inr ⟨g, cap, cur2, rfl, h2, hb1, h4, h5, by rw [hb2]; exact h6, ?_⟩
    have hc := (cells_of_heap hb1).1
    refine List.ext_getElem? fun j => ?_
    by_cases hj : j < n * 6
    · rw [List.getElem?_take_of_lt hj]
      have hj2 : j < (s.flatMap encE).length := by rw [flat_length, hl]; exact hj
      have e1 := hHd j _ (List.getElem?_eq_getElem hj2)
      rw [List.getElem?_eq_getElem hj2]
      have hj3 : j < cur2.size := by
        rw [hb2, h6]
        exact Nat.lt_of_lt_of_le hj (Nat.mul_le_mul_right 6 h4)
      have e2 := hc j _ (Array.getElem?_eq_getElem hj3)
      rw [Nat.zero_add] at e1
      rw [e1] at e2
      rw [Array.getElem?_toList, Array.getElem?_eq_getElem hj3, e2]
    · rw [List.getElem?_eq_none (by rw [List.length_take]; omega), List.getElem?_eq_none (by rw [flat_length, hl]; omega)]
theorem midE_end (s : List Ent) (x : Ent) : midE s x s.length = s ++ [x] := by
  unfold midE; rw [List.take_length, List.drop_length]
set_option maxHeartbeats 1000000 in
set_option maxRecDepth 100000 in
theorem rsort_is (l : List Ent) (hl : l.length ≤ 1000000) (hk : ∀ x ∈ l, x.key.size ≤ maxLen) (v : Value) (w : World) (h : RowE w v l) :
    Calls Tryz.prog 94 #[v] w fun e w' => ∃ v' l', e = .returned v' ∧ w'.ownsRow w.heap.size 111 6 v' l'.length (l'.flatMap encE) ∧ l'.Perm l ∧ SortedE l' ∧ Below w.heap.size w w' := by
  obtain ⟨p, c, rfl, -⟩ := len_of_row h
  have HV := Lib.hid h; clear h
  have HKS := Lib.hid hk; clear hk
  go_enter Tryz.func94, Tryz.ntmps94
  go_wp2_with fail
  go_loopw [3, 4] (fun vo vi wr => ∃ (i : Nat) (s : List Ent) (sv : Value), sv = vo ∧ vi = .int .i64 i ∧ i ≤ l.length ∧ Hid (wr.ownsRow w.heap.size 111 6 sv s.length (s.flatMap encE)) ∧ Hid (s.Perm (l.take i)) ∧ Hid (SortedE s) ∧ Hid (Below w.heap.size w wr)) (fun _ v _ => l.length - (intOf v).toNat)
  case atStart => exact ⟨0, [], _, rfl, rfl, Nat.zero_le _, ⟨rfl, .inl ⟨rfl, rfl⟩⟩, List.Perm.refl _, List.Pairwise.nil, Below.refl _ _⟩
  case round =>
    obtain ⟨i, s, vo, hvo, rfl, hi, HO, HP, HS, HB⟩ := hrel
    subst hvo
    by_cases hpi : i < l.length
    · have hpz : (i : Int) < (l.length : Int) := by omega
      have hn : s.length = i := by
        have := HP.out.length_eq
        rw [List.length_take] at this
        omega
      have HR := Lib.hid (HV.out.below HB.out)
      rcases HR.out with ⟨_, h0⟩ | ⟨b, o, cap, hv, hbl, hc⟩
      · rw [h0] at hpi; simp at hpi
      obtain ⟨a0, a1, a2, a3, a4, a5⟩ := at_of hc i hpi
      have hpp : p = some ⟨b, o, none⟩ := by cases hv; rfl
      have htk : l.take (i + 1) = l.take i ++ [l[i]] := List.take_succ_eq_append_getElem hpi
      have hkx : (l[i]).key.size ≤ maxLen := HKS.out _ (List.getElem_mem _)
      obtain ⟨x, hx⟩ : ∃ x, l[i] = x := ⟨_, rfl⟩
      rw [hx] at a0 a1 a2 a3 a4 a5 htk hkx
      have HTK := Lib.hid htk; clear htk hx hc hv
      subst hpp
      obtain ⟨ps, cs, rfl⟩ : ∃ ps cs, vo = .slice ps s.length cs := by
        rcases HO.out.2 with ⟨h1, h2⟩ | ⟨g1, c1, _, h1, _⟩
        · exact ⟨none, 0, by rw [h1, h2]⟩
        · exact ⟨_, _, h1⟩
      have HN := Lib.hid hn; clear hn
      obtain ⟨i0, hi0, hz0, hz1, hz2⟩ := info_parts infoE
      have hsn : s.length ≤ 1000000 := by have := HN.out; omega
      go_wp2_with (first
        | (at_builtin; refine wpList_append_lies _ rfl _ _ 39 rfl w.heap.size 111 i0 _ 6 56 Tryz.underlying39 hi0 hz0 hz1 hz2 rfl (by omega) (.slice ps s.length cs) s.length (s.flatMap encE) rfl (HO.out.alloc _) ⟨wr.heap.size, 0, none⟩ 1 1 (encE x) rfl rfl (World.news_of_block (cs := (encE x).toArray) (t := 111) (fr := (0, 0)) (heap_alloc_new wr _)) (encE_one x) (by omega) (by unfold maxLen; omega) (by omega) (by have := HB.out.size; simp; omega) (wr.heap.size + 1) (by simp) ?_; intro g cap w1 hown1 hgrow1 _ hlt1; have HO1 := Lib.hid hown1; clear hown1; have HG1 := Lib.hid hgrow1; clear hgrow1))
      have hx0 : s.flatMap encE ++ encE x = (midE s x s.length).flatMap encE := by rw [midE_end]; simp
      have ho1 := HO1.out
      rw [hx0] at ho1
      have hH := holds_of_own ho1 (midE_length s x s.length (Nat.le_refl _)).symm
      have R : RowK encE 6 w1 g 0 (midE s x s.length).toArray := ⟨encE_length, encE_one, hH, hlt1⟩
      have HRK := Lib.hid R
      have HO2 := Lib.hid ho1
      have HB1 := Lib.hid (show Below w.heap.size w w1 from (HB.out.alloc HB.out.size _).grown HG1.out (by have := HB.out.size; simp; omega) (own_ge HO.out))
      clear R hx0 ho1 HG1 HO1 HO HB HR HV a0 a1 a2 a3 a4 a5
      have hfin : ∀ (k : Nat) (W : World), k ≤ s.length → SWK encE 6 w1 g 0 (midE s x k).toArray W → (∀ y ∈ s.drop k, AheadE x y) → (k = 0 ∨ ¬ AheadE x (s.getD (k - 1) default)) →
          W.ownsRow w.heap.size 111 6 (.slice (some ⟨g, 0, none⟩) (s.length + 1) cap) (midE s x k).length ((midE s x k).flatMap encE) ∧ (midE s x k).Perm (l.take (i + 1)) ∧ SortedE (midE s x k) ∧ Below w.heap.size w W := fun k W hk hsw hah ht => by
        refine ⟨?_, ?_, midE_sorted HS.out hk hah ht, below_swk HB1.out HB1.out.size ?_ hsw⟩
        · rw [midE_length s x k hk]
          exact own_of_swk HO2.out (midE_length s x s.length (Nat.le_refl _)).symm hsw (midE_length s x k hk)
        · rw [HTK.out]
          exact (midE_perm s x k).trans ((List.Perm.cons x HP.out).trans (List.perm_append_comm (l₁ := [x]) (l₂ := l.take i)))
        · exact own_ge HO2.out g rfl
      have HFIN := Lib.hid hfin; clear hfin
      go_loopw [5] (fun vk wr2 => ∃ k : Nat, vk = .int .i64 k ∧ k ≤ s.length ∧ Hid (SWK encE 6 w1 g 0 (midE s x k).toArray wr2) ∧ Hid (∀ y ∈ s.drop k, AheadE x y)) (fun v _ => (intOf v).toNat)
      case atStart => exact ⟨s.length, rfl, Nat.le_refl _, SWK.start hH, by rw [List.drop_length]; intro y hy; cases hy⟩
      case round =>
        obtain ⟨k, rfl, hks, HSW, HAH⟩ := hrel
        clear hH
        by_cases hk0 : k = 0
        · subst hk0
          go_wp2_with fail
          go_quiet (fail)
          go_wp2
          have HFE := Lib.hid (HFIN.out 0 _ (Nat.zero_le _) (HSW.out.drewN nq) HAH.out (.inl rfl))
          go_roundw
          case rel => exact ⟨i + 1, midE s x 0, _, rfl, by go_num, by omega, HFE.out.1, HFE.out.2.1, HFE.out.2.2.1, HFE.out.2.2.2⟩
          case measure => simp [intOf]; omega
        · obtain ⟨k0, hk1⟩ : ∃ k0, k = k0 + 1 := ⟨k - 1, by omega⟩
          have hsz : (midE s x k).toArray.size = (midE s x s.length).toArray.size := by simp [midE_length s x k hks, midE_length s x s.length (Nat.le_refl _)]
          have hcl := flat_of_holds (HSW.out.holds hlt1 HRK.out.hH hsz)
          have hlk : (midE s x k).length = s.length + 1 := midE_length s x k hks
          obtain ⟨a0, a1, -, -, -, -⟩ := at_of hcl k (by omega)
          obtain ⟨b0, b1, -, -, -, -⟩ := at_of hcl k0 (by omega)
          rw [← getD_of, midE_at s x k hks, Nat.zero_add] at a0 a1
          rw [← getD_of, midE_lo s x k k0 hks (by omega), Nat.zero_add] at b0 b1
          obtain ⟨y, hy⟩ : ∃ y, s.getD k0 default = y := ⟨_, rfl⟩
          rw [hy] at b0 b1
          have hky : y.key.size ≤ maxLen := by
            rw [← hy, getD_of (by omega)]
            exact HKS.out _ (List.take_subset _ _ (HP.out.subset (List.getElem_mem _)))
          have e1 : IntKind.i64.wrap ((k : Int) - 1) = (k0 : Int) := by rw [hk1]; exact (IntWalk.i64_in _ (by omega)).trans (by omega)
          have e2 : (0 : Int) ≤ (k0 : Int) := by omega
          have e3 : (k0 : Int) < (s.length : Int) + 1 := by omega
          have e4 : (k : Int) < (s.length : Int) + 1 := by omega
          have e5 : (0 : Int) < (k : Int) := by omega
          have e6 : 0 < k := by omega
          obtain ⟨lb, hlb⟩ : ∃ lb, Op.bytesLess x.key.toList y.key.toList = lb := ⟨_, rfl⟩
          have cl : ∀ w : World, Calls Tryz.prog 66 #[.string x.key, .string y.key] w fun e w' => e = .returned (.bool lb) ∧ ∃ n, w' = w.drewN n := fun w => by
            rw [← hlb]; exact rless_is x.key y.key w hkx hky
          have CL := Lib.hid cl; clear cl
          have HLB := Lib.hid hlb; clear hlb
          have HY := Lib.hid hy; clear hy
          have HK1 := Lib.hid hk1; clear hk1
          have HSZ := Lib.hid hsz; clear hsz hcl
          have hdk : s.drop k0 = y :: s.drop k := by
            rw [List.drop_eq_getElem_cons (show k0 < s.length by have := HK1.out; omega), ← HY.out, getD_of (show k0 < s.length by have := HK1.out; omega)]
            exact congrArg (fun z => s[k0]'(by have := HK1.out; omega) :: List.drop z s) HK1.out.symm
          have HDK := Lib.hid hdk; clear hdk
          have hno : ¬ AheadE x y → ¬ AheadE x (s.getD (k - 1) default) := fun h => by rw [HK1.out, Nat.add_sub_cancel, HY.out]; exact h
          have HNO := Lib.hid hno; clear hno
          have hyes : AheadE x y → ∀ z ∈ s.drop k0, AheadE x z := fun h z hz => by
            rw [HDK.out] at hz
            rcases List.mem_cons.1 hz with rfl | hz
            · exact h
            · exact HAH.out z hz
          have HYES := Lib.hid hyes; clear hyes
          cases lb
          · by_cases hkk : x.key = y.key
            · have ht : (x.key.toList == y.key.toList) = true := by rw [hkk]; simp
              by_cases hid' : y.id < x.id
              · have ha : AheadE x y := .inr ⟨hkk, hid'⟩
                have HA := Lib.hid (HYES.out ha)
                have HKK := Lib.hid hkk; clear hkk ha
                go_wp2_with fail
                go_quiet ((go_at_call 66; first | exact quiet_add CL.out | exact quiet_any CL.out))
                go_upto_region 9 with (fail)
                have XS : SWK encE 6 w1 g 0 (midE s x k).toArray (wr.drewN nq) := HSW.out.drewN nq
                obtain ⟨wq, hwq⟩ : ∃ wq, wr.drewN nq = wq := ⟨_, rfl⟩
                rw [hwq] at XS ⊢
                clear hwq a0 a1 b0 b1
                obtain ⟨K6, h6⟩ : ∃ K6 : Nat, K6 = 6 := ⟨6, rfl⟩
                obtain ⟨P, hP⟩ : ∃ P, P = Tryz.prog := ⟨_, rfl⟩
                have R6 : RowK encE K6 w1 g 0 (midE s x s.length).toArray := by rw [h6]; exact HRK.out
                have X6 : SWK encE K6 w1 g 0 (midE s x k).toArray wq := by rw [h6]; exact XS
                have aE : ∀ w, (isAgg 111).run P w = .ok true w := by rw [hP]; exact Tryz.isAgg111
                have zE : ∀ w, (Go.sizeOf 111).run P w = .ok K6 w := by rw [hP, h6]; exact Tryz.sizeOf111
                have mixed : P.follows .mixedOrders = true := by rw [hP]; kernel_rfl
                have t3 : P.underlying 3 = some (.int .i64) := by rw [hP]; exact Tryz.underlying3
                have a3 : ∀ w, (isAgg 3).run P w = .ok false w := by rw [hP]; exact Tryz.isAgg3
                have z3 : ∀ w, (Go.sizeOf 3).run P w = .ok 1 w := by rw [hP]; exact Tryz.sizeOf3
                have t41 : P.underlying 39 = some (.slice 111) := by rw [hP]; exact Tryz.underlying39
                have a41 : ∀ w, (isAgg 39).run P w = .ok false w := by rw [hP]; exact Tryz.isAgg39
                have z41 : ∀ w, (Go.sizeOf 39).run P w = .ok 1 w := by rw [hP]; exact Tryz.sizeOf39
                have u41 := run_underlying t41
                have hks1 : k < (midE s x k).toArray.size := by rw [List.size_toArray, hlk]; omega
                have hks0 : k0 < (midE s x k).toArray.size := by rw [List.size_toArray, hlk]; omega
                have la := X6.ld1 R6 HSZ.out P k0 hks0
                have lb := X6.ld1 R6 HSZ.out P k hks1
                have s1 := X6.st1 R6 HSZ.out P k hks1 ((midE s x k).toArray[k0]!)
                have s2 := X6.st2 R6 HSZ.out P k k0 hks1 hks0 ((midE s x k).toArray[k0]!) ((midE s x k).toArray[k]!)
                have sw := X6.swapped R6 k k0 hks1 hks0
                have hsw2 : swp (midE s x k).toArray k k0 = (midE s x k0).toArray := by rw [HK1.out]; exact midE_swap s x k0 (by have := HK1.out; omega)
                rw [hsw2] at sw
                have kA : (encE ((midE s x k).toArray[k0]!)).length = K6 := R6.hk _
                have kB : (encE ((midE s x k).toArray[k]!)).length = K6 := R6.hk _
                obtain ⟨cA, hcA⟩ : ∃ c, encE ((midE s x k).toArray[k0]!) = c := ⟨_, rfl⟩
                obtain ⟨cB, hcB⟩ : ∃ c, encE ((midE s x k).toArray[k]!) = c := ⟨_, rfl⟩
                rw [hcA] at la s1 s2 sw kA
                rw [hcB] at lb s2 sw kB
                simp only [Nat.zero_add] at la lb s1 s2 sw
                have SW := Lib.hid sw
                have H6 := Lib.hid h6
                clear hcA hcB sw hsw2 XS X6 R6 h6 hks0 hks1
                rw [← hP]
                have HPP := Lib.hid hP
                clear hP
                go_big_region_o
                all_goals go_wp2
                go_roundw
                case rel => exact ⟨k0, rfl, by have := HK1.out; omega, by have h6 := H6.out; subst h6; exact SW.out, HA.out⟩
                case measure => have := HK1.out; simp [intOf]; omega
              · have hlb := HLB.out
                have ha : ¬ AheadE x y := by
                  rintro (h | ⟨_, h⟩)
                  · rw [hlb] at h; cases h
                  · exact hid' h
                have HA := Lib.hid ha
                have HKK := Lib.hid hkk; clear hkk ha hlb
                go_wp2_with fail
                go_quiet ((go_at_call 66; first | exact quiet_add CL.out | exact quiet_any CL.out))
                go_wp2
                have HFE := Lib.hid (HFIN.out k _ hks (HSW.out.drewN nq) HAH.out (.inr (HNO.out HA.out)))
                go_roundw
                case rel => exact ⟨i + 1, midE s x k, _, rfl, by go_num, by omega, HFE.out.1, HFE.out.2.1, HFE.out.2.2.1, HFE.out.2.2.2⟩
                case measure => simp [intOf]; omega
            · have ht : (x.key.toList == y.key.toList) = false := by
                rw [beq_eq_false_iff_ne]; exact fun h => hkk (list_inj_data h)
              have hlb := HLB.out
              have ha : ¬ AheadE x y := by
                rintro (h | ⟨h, _⟩)
                · rw [hlb] at h; cases h
                · exact hkk h
              have HA := Lib.hid ha
              have HKK := Lib.hid hkk; clear hkk ha hlb
              go_wp2_with fail
              go_quiet ((go_at_call 66; first | exact quiet_add CL.out | exact quiet_any CL.out))
              go_wp2
              have HFE := Lib.hid (HFIN.out k _ hks (HSW.out.drewN nq) HAH.out (.inr (HNO.out HA.out)))
              go_roundw
              case rel => exact ⟨i + 1, midE s x k, _, rfl, by go_num, by omega, HFE.out.1, HFE.out.2.1, HFE.out.2.2.1, HFE.out.2.2.2⟩
              case measure => simp [intOf]; omega
          · have ha : AheadE x y := .inl HLB.out
            have HA := Lib.hid (HYES.out ha)
            clear ha
            go_wp2_with fail
            go_quiet ((go_at_call 66; first | exact quiet_add CL.out | exact quiet_any CL.out))
            go_upto_region 9 with (fail)
            have XS : SWK encE 6 w1 g 0 (midE s x k).toArray (wr.drewN nq) := HSW.out.drewN nq
            obtain ⟨wq, hwq⟩ : ∃ wq, wr.drewN nq = wq := ⟨_, rfl⟩
            rw [hwq] at XS ⊢
            clear hwq a0 a1 b0 b1
            obtain ⟨K6, h6⟩ : ∃ K6 : Nat, K6 = 6 := ⟨6, rfl⟩
            obtain ⟨P, hP⟩ : ∃ P, P = Tryz.prog := ⟨_, rfl⟩
            have R6 : RowK encE K6 w1 g 0 (midE s x s.length).toArray := by rw [h6]; exact HRK.out
            have X6 : SWK encE K6 w1 g 0 (midE s x k).toArray wq := by rw [h6]; exact XS
            have aE : ∀ w, (isAgg 111).run P w = .ok true w := by rw [hP]; exact Tryz.isAgg111
            have zE : ∀ w, (Go.sizeOf 111).run P w = .ok K6 w := by rw [hP, h6]; exact Tryz.sizeOf111
            have mixed : P.follows .mixedOrders = true := by rw [hP]; kernel_rfl
            have t3 : P.underlying 3 = some (.int .i64) := by rw [hP]; exact Tryz.underlying3
            have a3 : ∀ w, (isAgg 3).run P w = .ok false w := by rw [hP]; exact Tryz.isAgg3
            have z3 : ∀ w, (Go.sizeOf 3).run P w = .ok 1 w := by rw [hP]; exact Tryz.sizeOf3
            have t41 : P.underlying 39 = some (.slice 111) := by rw [hP]; exact Tryz.underlying39
            have a41 : ∀ w, (isAgg 39).run P w = .ok false w := by rw [hP]; exact Tryz.isAgg39
            have z41 : ∀ w, (Go.sizeOf 39).run P w = .ok 1 w := by rw [hP]; exact Tryz.sizeOf39
            have u41 := run_underlying t41
            have hks1 : k < (midE s x k).toArray.size := by rw [List.size_toArray, hlk]; omega
            have hks0 : k0 < (midE s x k).toArray.size := by rw [List.size_toArray, hlk]; omega
            have la := X6.ld1 R6 HSZ.out P k0 hks0
            have lb := X6.ld1 R6 HSZ.out P k hks1
            have s1 := X6.st1 R6 HSZ.out P k hks1 ((midE s x k).toArray[k0]!)
            have s2 := X6.st2 R6 HSZ.out P k k0 hks1 hks0 ((midE s x k).toArray[k0]!) ((midE s x k).toArray[k]!)
            have sw := X6.swapped R6 k k0 hks1 hks0
            have hsw2 : swp (midE s x k).toArray k k0 = (midE s x k0).toArray := by rw [HK1.out]; exact midE_swap s x k0 (by have := HK1.out; omega)
            rw [hsw2] at sw
            have kA : (encE ((midE s x k).toArray[k0]!)).length = K6 := R6.hk _
            have kB : (encE ((midE s x k).toArray[k]!)).length = K6 := R6.hk _
            obtain ⟨cA, hcA⟩ : ∃ c, encE ((midE s x k).toArray[k0]!) = c := ⟨_, rfl⟩
            obtain ⟨cB, hcB⟩ : ∃ c, encE ((midE s x k).toArray[k]!) = c := ⟨_, rfl⟩
            rw [hcA] at la s1 s2 sw kA
            rw [hcB] at lb s2 sw kB
            simp only [Nat.zero_add] at la lb s1 s2 sw
            have SW := Lib.hid sw
            have H6 := Lib.hid h6
            clear hcA hcB sw hsw2 XS X6 R6 h6 hks0 hks1
            rw [← hP]
            have HPP := Lib.hid hP
            clear hP
            go_big_region_o
            all_goals go_wp2
            go_roundw
            case rel => exact ⟨k0, rfl, by have := HK1.out; omega, by have h6 := H6.out; subst h6; exact SW.out, HA.out⟩
            case measure => have := HK1.out; simp [intOf]; omega
    · have hpz : (l.length : Int) ≤ (i : Int) := by omega
      have hil : i = l.length := by omega
      have HIL := Lib.hid hil; clear hil
      go_wp2
      go_ret
      refine ⟨_, s, rfl, HO.out, ?_, HS.out, HB.out⟩
      have := HP.out
      rwa [HIL.out, List.take_length] at this
end Go.Proofs.YtjbjcfnbgcloiaaGreatDoor

namespace Go.Proofs.YtjbjcfnbgcloiaaGreatDoor
open Go.Shelf Go.RowKit Go.Lib Nam

def pgB (vs : Bool) (q : AskV) (x : Ent) : Bool := if vs then verB q x else objB q x
def pgId (vs : Bool) (n : Nat) (f : List Ent) : Int := if vs then cutId n f else 0
theorem pgB_eq (vs : Bool) (q : AskV) (x : Ent) (pb : Bool) :
    (pb && pgB vs q x) = ((pb && (vs || (x.latest && !x.mark))) && (q.fr.toList.isEmpty || Op.bytesLess q.fr.toList x.key.toList || (vs && ((x.key.toList == q.fr.toList) && decide (x.id < q.fid))))) := by
  unfold pgB verB objB
  cases vs <;> cases pb <;> cases x.latest <;> cases x.mark <;> cases q.fr.toList.isEmpty <;> cases Op.bytesLess q.fr.toList x.key.toList <;> simp
set_option maxHeartbeats 4000000 in
set_option maxRecDepth 100000 in
theorem rpages_is (vs : Bool) (q : AskV) (l : List Ent) (hl : l.length ≤ 1000000) (hk : ∀ x ∈ l, x.key.size ≤ maxLen) (hq : q.pre.size ≤ maxLen) (hqf : q.fr.size ≤ maxLen) (hm : 1 ≤ q.most ∧ q.most ≤ 1000) (v : Value) (w : World) (hv : RowE w v l) :
    Calls Tryz.prog 93 #[v, .agg (encA q).toArray, .bool vs] w fun e w' =>
      ∃ l' sv, l'.Perm l ∧ SortedE l' ∧ RowE w' sv ((selE (pgB vs q) q l').take q.most.toNat) ∧ (∀ b o n c, sv = .slice (some ⟨b, o, none⟩) n c → w.heap.size ≤ b) ∧ Below w.heap.size w w' ∧
        e = .returned (.tuple #[.agg #[sv, .bool (decide (q.most.toNat < (selE (pgB vs q) q l').length)), .string (cutKey q.most.toNat (selE (pgB vs q) q l')), .int .i64 (pgId vs q.most.toNat (selE (pgB vs q) q l'))], .int .i64 0]) := by
  obtain ⟨pre, fr, fid, most⟩ := q
  obtain ⟨i0, hi, hz0, hz1, hz2⟩ := info_parts infoE
  unfold encA
  have HV := Lib.hid hv; clear hv
  have HK := Lib.hid hk; clear hk
  obtain ⟨hm1, hm2⟩ := hm
  simp only [] at hm1 hm2 hq hqf
  go_enter Tryz.func93, Tryz.ntmps93
  go_wp2_with fail
  generalize hw3 : (((w.alloc _).alloc _).alloc _) = w3
  have s3 : w3.heap.size = w.heap.size + 3 := by rw [← hw3]; simp
  have hb3 : Below w.heap.size w w3 := by
    rw [← hw3]
    exact (((Below.refl _ _).alloc (Nat.le_refl _) _).alloc (by simp) _).alloc (by simp; omega) _
  have h30 : w3.heap[w.heap.size]? = some (.cells #[.string pre, .string fr, .int .i64 fid, .int .i64 most] 32 (0, 0)) := by
    rw [← hw3, heap_alloc_old _ _ (by simp; omega), heap_alloc_old _ _ (by simp), heap_alloc_new]
  have h31 : w3.heap[w.heap.size + 1]? = some (.cells #[.slice none 0 0, .bool false, .string ⟨#[]⟩, .int .i64 0] 41 (0, 0)) := by
    rw [← hw3, heap_alloc_old _ _ (by simp)]
    have := heap_alloc_new (w.alloc (.cells #[.string pre, .string fr, .int .i64 fid, .int .i64 most] 32)) (.cells #[.slice none 0 0, .bool false, .string ⟨#[]⟩, .int .i64 0] 41)
    simpa using this
  have h32 : w3.heap[w.heap.size + 1 + 1]? = some (.cells #[.slice none 0 0, .bool false, .string ⟨#[]⟩, .int .i64 0] 41 (0, 0)) := by
    rw [← hw3]
    have := heap_alloc_new ((w.alloc (.cells #[.string pre, .string fr, .int .i64 fid, .int .i64 most] 32)).alloc (.cells #[.slice none 0 0, .bool false, .string ⟨#[]⟩, .int .i64 0] 41)) (.cells #[.slice none 0 0, .bool false, .string ⟨#[]⟩, .int .i64 0] 41)
    simpa using this
  clear hw3
  refine (rsort_is l hl HK.out v w3 (HV.out.below hb3)).mono ?_
  rintro e w4 ⟨v4, l', rfl, hO, hperm, hsort, hb4⟩
  have hR := (rowE_own hO).1
  have hfresh := (rowE_own hO).2
  clear hO
  have hs4 := hb4.size
  have h40 : w4.heap[w.heap.size]? = _ := (hb4.block _ (by omega)).trans h30
  have h41 : w4.heap[w.heap.size + 1]? = _ := (hb4.block _ (by omega)).trans h31
  have h42 : w4.heap[w.heap.size + 1 + 1]? = _ := (hb4.block _ (by omega)).trans h32
  have hbw4 : Below w.heap.size w w4 := hb3.trans (hb4.mono (by omega))
  obtain ⟨pp, cc, rfl, hrow⟩ := len_of_row hR
  have hll : l'.length = l.length := hperm.length_eq
  have HROW := Lib.hid hrow; clear hrow
  have H40 := Lib.hid h40; clear h40
  have H41 := Lib.hid h41; clear h41
  have HPM := Lib.hid hperm; clear hperm
  have HSO := Lib.hid hsort; clear hsort
  have HFR := Lib.hid hfresh; clear hfresh
  have HLL : l'.length ≤ 1000000 := by omega
  clear h30 h31 h32 hR hll
  have HB4 := Lib.hid hb4; clear hb4
  have HS3 := Lib.hid s3
  have hs4' : w.heap.size + 3 ≤ w4.heap.size := by omega
  clear s3
  go_wp2_with fail
  have hbox : ∀ W : World, KeptBut w4.heap.size (w.heap.size + 1 + 1) w4 W → W.cell? ⟨w.heap.size, 0, none⟩ = some (.string pre) ∧ W.cell? ⟨w.heap.size, 1, none⟩ = some (.string fr) ∧ W.cell? ⟨w.heap.size, 2, none⟩ = some (.int .i64 fid) ∧ W.cell? ⟨w.heap.size, 3, none⟩ = some (.int .i64 most) := fun W hK => by
    have h1 := (cells_of_heap H40.out).1
    have hs := HS3.out
    have hh : ∀ k, W.cell? ⟨w.heap.size, k, none⟩ = w4.cell? ⟨w.heap.size, k, none⟩ := fun k => hK.cell (p := ⟨w.heap.size, k, none⟩) (by show w.heap.size < _; omega) (by show w.heap.size ≠ _; omega)
    exact ⟨by rw [hh]; exact h1 0 _ rfl, by rw [hh]; exact h1 1 _ rfl, by rw [hh]; exact h1 2 _ rfl, by rw [hh]; exact h1 3 _ rfl⟩
  have HBOX := Lib.hid hbox; clear hbox
  obtain ⟨Q, hQ⟩ : ∃ Q : AskV, Q = ⟨pre, fr, fid, most⟩ := ⟨_, rfl⟩
  go_loopw [10] (fun vi wr => ∃ (i : Nat) (sv : Value) (f : List Ent), vi = .int .i64 i ∧ i ≤ l'.length ∧ Hid (KeptBut w4.heap.size (w.heap.size + 1 + 1) w4 wr) ∧
    Hid (wr.heap[w.heap.size + 1 + 1]? = some (.cells #[sv, .bool false, .string ⟨#[]⟩, .int .i64 0] 41 (0, 0))) ∧
    Hid (wr.ownsRow w4.heap.size 111 6 sv f.length (f.flatMap encE)) ∧ Hid (f = selE (pgB vs Q) Q (l'.take i)) ∧ f.length ≤ most.toNat) (fun vi _ => l'.length - (intOf vi).toNat)
  case atStart => exact ⟨0, .slice none 0 0, [], rfl, Nat.zero_le _, KeptBut.refl _ _ _, h42, ⟨rfl, .inl ⟨rfl, rfl⟩⟩, by show _ = _; rw [List.take_zero]; rfl, Nat.zero_le _⟩
  case round =>
    clear h42
    obtain ⟨i, sv, f, rfl, hi', HKB, H8, HOWN, HF, hfm⟩ := hrel
    have hwr : w4.heap.size ≤ wr.heap.size := HKB.out.size
    by_cases hpi : i < l'.length
    · have hpz : (i : Int) < (l'.length : Int) := by omega
      obtain ⟨b, o, rfl, hbl, hc⟩ := HROW.out (by omega)
      have hb8 : b ≠ w.heap.size + 1 + 1 := by
        have h1 := HFR.out b o _ _ rfl
        have h2 := HS3.out
        omega
      obtain ⟨a0, a1, a2, a3, a4, a5⟩ := at_of (W := wr) (fun j u hj => by rw [HKB.out.cell (p := ⟨b, o + j, none⟩) hbl hb8]; exact hc j u hj) i hpi
      clear hc
      have hmem := l'.getElem_mem hpi
      have hks := HK.out _ (HPM.out.subset hmem)
      have htk : l'.take (i + 1) = l'.take i ++ [l'[i]] := List.take_succ_eq_append_getElem hpi
      obtain ⟨x, hx⟩ : ∃ x, l'[i] = x := ⟨_, rfl⟩
      rw [hx] at a0 a1 a2 a3 a4 a5 hks htk
      have HTK := Lib.hid htk; clear htk
      clear hx hmem
      obtain ⟨pb, hpb⟩ : ∃ b, prefixB x.key.data.toList pre.data.toList = b := ⟨_, rfl⟩
      have cpre : ∀ W : World, Calls Tryz.prog 100 #[.string x.key, .string pre] W fun e w' => e = .returned (.bool pb) ∧ W = w' := fun W => by rw [← hpb]; exact rprefix_is _ _ W hks hq
      have CPRE := Lib.hid cpre; clear cpre
      obtain ⟨le, hle⟩ : ∃ b, Op.bytesLess fr.toList x.key.toList = b := ⟨_, rfl⟩
      have cless : ∀ W : World, Calls Tryz.prog 66 #[.string fr, .string x.key] W fun e w' => e = .returned (.bool le) ∧ ∃ n, w' = W.drewN n := fun W => by rw [← hle]; exact rless_is _ _ W hqf hks
      have CLESS := Lib.hid cless; clear cless
      obtain ⟨em, hem⟩ : ∃ b, fr.toList.isEmpty = b := ⟨_, rfl⟩
      have hem2 : (fr.toList == []) = em := by rw [← hem]; cases fr.toList <;> rfl
      obtain ⟨eq, heq⟩ : ∃ b, (x.key.toList == fr.toList) = b := ⟨_, rfl⟩
      obtain ⟨ie, hie⟩ : ∃ b, decide (x.id < fid) = b := ⟨_, rfl⟩
      obtain ⟨la, hla⟩ : ∃ b, x.latest = b := ⟨_, rfl⟩
      obtain ⟨mk, hmk⟩ : ∃ b, x.mark = b := ⟨_, rfl⟩
      have hpg : (pb && pgB vs Q x) = ((pb && (vs || (la && !mk))) && (em || le || (vs && (eq && ie)))) := by
        rw [pgB_eq, hQ, hla, hmk, hem, hle, heq, hie]
      have HPB := Lib.hid hpb; clear hpb
      have hsel : Hid (selE (pgB vs Q) Q (l'.take (i + 1)) = f ++ (if (pb && pgB vs Q x) = true then [x] else [])) := by
        show _ = _
        rw [HTK.out, HF.out]
        unfold selE
        rw [List.filter_append]
        congr 1
        rw [List.filter_cons, show Q.pre = pre by rw [hQ], HPB.out]
        rfl
      have HPG := Lib.hid hpg; clear hpg
      go_upto_region 9 with (fail)
      obtain ⟨W8, hW8⟩ : ∃ W8, wr.alloc (.cells #[.string x.key, .int .i64 x.id, .bool mk, .int .i64 x.size, .int .u32 x.sum, .bool la] 111) = W8 := ⟨_, rfl⟩
      rw [hW8]
      have hE : W8.heap[wr.heap.size]? = some (.cells #[.string x.key, .int .i64 x.id, .bool mk, .int .i64 x.size, .int .u32 x.sum, .bool la] 111 (0, 0)) := by rw [← hW8]; exact heap_alloc_new wr _
      have K8 : KeptBut w4.heap.size (w.heap.size + 1 + 1) w4 W8 := by rw [← hW8]; exact HKB.out.alloc hwr _
      have h88 : W8.heap[w.heap.size + 1 + 1]? = some (.cells #[sv, .bool false, .string ⟨#[]⟩, .int .i64 0] 41 (0, 0)) := by rw [← hW8]; exact (heap_alloc_old _ _ (by omega)).trans H8.out
      have own8 : W8.ownsRow w4.heap.size 111 6 sv f.length (f.flatMap encE) := by rw [← hW8]; exact HOWN.out.alloc _
      have s8 : W8.heap.size = wr.heap.size + 1 := by rw [← hW8]; simp
      have cE := (cells_of_heap hE).1
      have e0 := cE 0 _ rfl
      have e1 := cE 1 _ rfl
      have e2 := cE 2 _ rfl
      have e3 := cE 3 _ rfl
      have e4 := cE 4 _ rfl
      have e5 := cE 5 _ rfl
      obtain ⟨p0, p1, p2, p3⟩ := HBOX.out W8 K8
      have HK8 := Lib.hid K8
      have H88 := Lib.hid h88
      have HOW8 := Lib.hid own8
      have HS8 := Lib.hid s8
      clear hW8 K8 h88 own8 s8 cE hE a0 a1 a2 a3 a4 a5 H8 HOWN HKB
      go_cut [12] from 26 to 99 (fun v wx => v = .bool (pb && (vs || (la && !mk))) ∧ wx = W8)
      case first =>
        as_aux_lemma =>
          clear HROW HFR
          cases pb <;> cases vs <;> cases la <;> cases mk
          all_goals
            go_wp2_with (go_at_call 100; refine (CPRE.out _).mono ?_; rintro e w' ⟨rfl, rfl⟩)
            go_meet
            case rel => exact ⟨rfl, rfl⟩
      case rest =>
      obtain ⟨rfl, rfl⟩ := hcut
      obtain ⟨b1, hb1⟩ : ∃ b, (pb && (vs || (la && !mk))) = b := ⟨_, rfl⟩
      rw [hb1]
      have HB1 := Lib.hid hb1; clear hb1
      go_upto_region 10 with (fail)
      go_cut [12] from 26 to 99 (fun v wx => v = .bool (b1 && (em || le || (vs && (eq && ie)))) ∧ ∃ n, wx = wc.drewN n)
      case first =>
        as_aux_lemma =>
          clear HROW HFR
          cases b1
          · go_wp2_with fail
            go_meet
            case rel => exact ⟨rfl, 0, rfl⟩
          cases em
          · cases vs <;> cases le <;> cases eq
            all_goals
              go_wp2_with (go_at_call 66; refine (CLESS.out _).mono ?_; rintro e w' ⟨rfl, nn, rfl⟩)
              go_meet
              case rel => exact ⟨congrArg Value.bool (by simp), nn, rfl⟩
          · go_wp2_with fail
            go_meet
            case rel => exact ⟨rfl, 0, rfl⟩
      case rest =>
      obtain ⟨rfl, nn, rfl⟩ := hcut
      obtain ⟨w6, hw6⟩ : ∃ w6, wc.drewN nn = w6 := ⟨_, rfl⟩
      rw [hw6]
      have K6 : KeptBut w4.heap.size (w.heap.size + 1 + 1) w4 w6 := by rw [← hw6]; exact HK8.out.drewN nn
      have h86 : w6.heap[w.heap.size + 1 + 1]? = some (.cells #[sv, .bool false, .string ⟨#[]⟩, .int .i64 0] 41 (0, 0)) := by rw [← hw6]; exact H88.out
      have hown6 : w6.ownsRow w4.heap.size 111 6 sv f.length (f.flatMap encE) := by rw [← hw6]; exact HOW8.out
      have s6 : w6.heap.size = wr.heap.size + 1 := by rw [← hw6]; exact HS8.out
      have E0 : w6.cell? ⟨wr.heap.size, 0, none⟩ = some (.string x.key) := by rw [← hw6]; exact e0
      have E1 : w6.cell? ⟨wr.heap.size, 1, none⟩ = some (.int .i64 x.id) := by rw [← hw6]; exact e1
      have E2 : w6.cell? ⟨wr.heap.size, 2, none⟩ = some (.bool mk) := by rw [← hw6]; exact e2
      have E3 : w6.cell? ⟨wr.heap.size, 3, none⟩ = some (.int .i64 x.size) := by rw [← hw6]; exact e3
      have E4 : w6.cell? ⟨wr.heap.size, 4, none⟩ = some (.int .u32 x.sum) := by rw [← hw6]; exact e4
      have E5 : w6.cell? ⟨wr.heap.size, 5, none⟩ = some (.bool la) := by rw [← hw6]; exact e5
      have P3 : w6.cell? ⟨w.heap.size, 3, none⟩ = some (.int .i64 most) := (HBOX.out w6 K6).2.2.2
      clear hw6 e0 e1 e2 e3 e4 e5 p0 p1 p2 p3 HK8 H88 HOW8 HS8
      obtain ⟨b2, hb2⟩ : ∃ b, (b1 && (em || le || (vs && (eq && ie)))) = b := ⟨_, rfl⟩
      rw [hb2]
      have HB2 : Hid ((pb && pgB vs Q x) = b2) := by show _ = _; rw [HPG.out, HB1.out]; exact hb2
      clear hb2 hem hem2 heq hie HPG HB1 CLESS CPRE
      have hhx : (⟨x.key, x.id, mk, x.size, x.sum, la⟩ : Ent) = x := by rw [← hla, ← hmk]
      have hex : encE x = [.string x.key, .int .i64 x.id, .bool mk, .int .i64 x.size, .int .u32 x.sum, .bool la] := by rw [← hla, ← hmk]; rfl
      have HEX := Lib.hid hex
      clear hla hmk hhx hex hle
      have hw6 : w4.heap.size ≤ w6.heap.size := K6.size
      have hws : wr.heap.size < w6.heap.size := by omega
      have HK6 := Lib.hid K6
      have H86 := Lib.hid h86
      have HO6 := Lib.hid hown6
      have HS6 := Lib.hid s6
      cases b2
      · have HSE : Hid (selE (pgB vs Q) Q (l'.take (i + 1)) = f) := by show _ = _; rw [hsel.out, HB2.out]; simp
        clear K6 h86 hown6 s6
        go_wp2_with fail
        go_roundw
        case rel => exact ⟨i + 1, sv, f, by go_num, by omega, HK6, H86, HO6, HSE.out.symm, hfm⟩
        case measure => simp [intOf]; omega
      · have HSE : Hid (selE (pgB vs Q) Q (l'.take (i + 1)) = f ++ [x]) := by show _ = _; rw [hsel.out, HB2.out]; simp
        clear hsel HB2
        obtain ⟨ps, cs, rfl⟩ : ∃ ps cs, sv = .slice ps f.length cs := by
          rcases hown6.2 with ⟨h1, h2⟩ | ⟨g1, c1, _, h1, _⟩
          · exact ⟨none, 0, by rw [h1, h2]⟩
          · exact ⟨_, _, h1⟩
        have hsb : ∀ k, (Value.slice ps f.length cs).ownBlock = some k → w4.heap.size ≤ k := fun k hk => (hown6.lt k hk).1
        have HSB := Lib.hid hsb; clear hsb
        have c80 := (cells_of_heap h86).1 0 _ rfl
        clear K6 h86 hown6 s6
        by_cases hfl : f.length < most.toNat
        · have hflz : ((f.length : Int) == most) = false := by rw [beq_eq_false_iff_ne]; omega
          have g86 : w.heap.size + 1 + 1 < w6.heap.size := by omega
          have hown6a : ∀ o, (w6.alloc o).ownsRow w4.heap.size 111 6 (.slice ps f.length cs) f.length (f.flatMap encE) := fun o => HO6.out.alloc o
          have HOA := Lib.hid hown6a; clear hown6a
          go_wp2_with (first
            | (at_builtin; refine wpList_append_lies _ rfl _ _ 39 rfl w4.heap.size 111 i0 _ 6 56 Tryz.underlying39 hi hz0 hz1 hz2 rfl (by omega) (.slice ps f.length cs) f.length (f.flatMap encE) rfl (HOA.out _) ⟨w6.heap.size, 0, none⟩ 1 1 [.string x.key, .int .i64 x.id, .bool mk, .int .i64 x.size, .int .u32 x.sum, .bool la] rfl rfl (World.news_of_block (cs := #[.string x.key, .int .i64 x.id, .bool mk, .int .i64 x.size, .int .u32 x.sum, .bool la]) (t := 111) (fr := (0, 0)) (heap_alloc_new w6 _)) (by rw [← HEX.out]; exact encE_one x) (by omega) (by unfold maxLen; omega) (by omega) (by simp; omega) (w6.heap.size + 1) (by simp) ?_; intro gg cap w7 hown7 hgrow7 hat hlt; have h87 : w7.heap[w.heap.size + 1 + 1]? = some (.cells #[.slice ps f.length cs, .bool false, .string ⟨#[]⟩, .int .i64 0] 41 (0, 0)) := (hgrow7.block _ (by simp; omega) (fun e => by have := HSB.out _ e.symm; omega)).trans ((heap_alloc_old _ _ g86).trans H86.out); have c87 := (cells_of_heap h87).1 0 _ rfl; have f87 := (cells_of_heap h87).2 0))
          go_roundw
          case rel =>
            refine ⟨i + 1, .slice (some ⟨gg, 0, none⟩) (f.length + 1) cap, f ++ [x], by go_num, by omega, ((HK6.out.alloc hw6 _).grown (by simp; omega) hgrow7 HSB.out).setCell 0 _, by have := heap_set h87 0 (.slice (some ⟨gg, 0, none⟩) (f.length + 1) cap); show _ = _; simpa using this, ?_, HSE.out.symm, by simp; omega⟩
            have e1 : (f ++ [x]).length = f.length + 1 := by simp
            have e2 : (f ++ [x]).flatMap encE = f.flatMap encE ++ encE x := by simp
            show World.ownsRow _ _ _ _ _ _ _
            rw [e1, e2, HEX.out]
            exact ownsRow_setCell_below hown7 (by show w.heap.size + 1 + 1 < _; omega) _
          case measure => simp [intOf]; omega
        · have hmn : most = (f.length : Int) := by omega
          have hf0 : 0 < f.length := by omega
          obtain ⟨g1, rfl⟩ : ∃ g1, ps = some ⟨g1, 0, none⟩ := by
            rcases HO6.out.2 with ⟨_, h2⟩ | ⟨g1, c1, _, h1, _⟩
            · omega
            · injection h1 with h1 _ _
              exact ⟨g1, h1⟩
          obtain ⟨n1, hn1⟩ : ∃ n1, f.length = n1 + 1 := ⟨f.length - 1, by omega⟩
          have hgd : f.getD n1 default = f[n1]'(by omega) := by rw [List.getD_eq_getElem?_getD, List.getElem?_eq_getElem (by omega)]; rfl
          obtain ⟨y, hy⟩ : ∃ y, f[n1]'(by omega) = y := ⟨_, rfl⟩
          have hlaW : ∀ V : World, V.ownsRow w4.heap.size 111 6 (.slice (some ⟨g1, 0, none⟩) f.length cs) f.length (f.flatMap encE) → AtE V g1 (n1 * 6) y := fun V hV => by
            have := at_of (W := V) (b := g1) (o := 0) (l := f) (fun j u hj => by
              have hj' : j < f.length * 6 := by rw [← flat_length]; exact (List.getElem?_eq_some_iff.1 hj).1
              rw [Nat.zero_add, hV.cellAt j hj']; exact hj) n1 (by omega)
            rw [Nat.zero_add, hy] at this
            exact this
          have HLAW := Lib.hid hlaW; clear hlaW
          rw [hy] at hgd
          clear hy
          have hmb : ((f.length : Int) == most) = true := by rw [hmn]; simp
          have wm : IntKind.i64.wrap ((f.length : Int) - 1) = (n1 : Int) := by rw [IntWalk.i64_in _ (by omega)]; omega
          have nn : (n1 : Int) < (f.length : Int) := by omega
          have n0 : (0 : Int) ≤ (n1 : Int) := by omega
          have HGD := Lib.hid hgd; clear hgd
          have HN1 := Lib.hid hn1; clear hn1
          have HMN := Lib.hid hmn; clear hmn
          have c81 := (cells_of_heap H86.out).1 1 _ rfl
          have f81 := (cells_of_heap H86.out).2 1
          clear E0 E1 E2 E3 E4 E5
          go_upto_region 16 with (fail)
          have hb8' : w.heap.size + 1 + 1 < w4.heap.size := by omega
          obtain ⟨W9, hW9⟩ : ∃ W9, w6.setCell ⟨w.heap.size + 1 + 1, 1, none⟩ (.bool true) = W9 := ⟨_, rfl⟩
          rw [hW9]
          have h89 : W9.heap[w.heap.size + 1 + 1]? = some (.cells #[.slice (some ⟨g1, 0, none⟩) f.length cs, .bool true, .string ⟨#[]⟩, .int .i64 0] 41 (0, 0)) := by rw [← hW9]; exact heap_set H86.out 1 (.bool true)
          have K9 : KeptBut w4.heap.size (w.heap.size + 1 + 1) w4 W9 := by rw [← hW9]; exact HK6.out.setCell 1 _
          have own9 : W9.ownsRow w4.heap.size 111 6 (.slice (some ⟨g1, 0, none⟩) f.length cs) f.length (f.flatMap encE) := by rw [← hW9]; exact ownsRow_setCell_below HO6.out (a := ⟨w.heap.size + 1 + 1, 1, none⟩) hb8' _
          have s9 : w4.heap.size ≤ W9.heap.size := K9.size
          obtain ⟨l0, l1, l2, l3, l4, l5⟩ := HLAW.out W9 own9
          have c90 := (cells_of_heap h89).1 0 _ rfl
          have H89 := Lib.hid h89; clear h89
          have HK9 := Lib.hid K9; clear K9
          have HO9 := Lib.hid own9; clear own9
          clear hW9 H86 HK6 HO6 c80 c81 f81
          go_upto_region 17 with (fail)
          obtain ⟨W10, hW10⟩ : ∃ W10, W9.alloc (.cells #[.string y.key, .int .i64 y.id, .bool y.mark, .int .i64 y.size, .int .u32 y.sum, .bool y.latest] 111) = W10 := ⟨_, rfl⟩
          rw [hW10]
          have h810 : W10.heap[w.heap.size + 1 + 1]? = some (.cells #[.slice (some ⟨g1, 0, none⟩) f.length cs, .bool true, .string ⟨#[]⟩, .int .i64 0] 41 (0, 0)) := by rw [← hW10]; exact (heap_alloc_old _ _ (by omega)).trans H89.out
          have K10 : KeptBut w4.heap.size (w.heap.size + 1 + 1) w4 W10 := by rw [← hW10]; exact HK9.out.alloc s9 _
          have own10 : W10.ownsRow w4.heap.size 111 6 (.slice (some ⟨g1, 0, none⟩) f.length cs) f.length (f.flatMap encE) := by rw [← hW10]; exact HO9.out.alloc _
          have hL10 : W10.heap[W9.heap.size]? = some (.cells #[.string y.key, .int .i64 y.id, .bool y.mark, .int .i64 y.size, .int .u32 y.sum, .bool y.latest] 111 (0, 0)) := by rw [← hW10]; exact heap_alloc_new W9 _
          have m0 := (cells_of_heap hL10).1 0 _ rfl
          have d2 := (cells_of_heap h810).1 2 _ rfl
          have f2 := (cells_of_heap h810).2 2
          have H810 := Lib.hid h810; clear h810
          have HK10 := Lib.hid K10; clear K10
          have HO10 := Lib.hid own10; clear own10
          have HL10 := Lib.hid hL10; clear hL10
          clear hW10 H89 HK9 HO9 l0 l1 l2 l3 l4 l5 c90
          go_upto_region 18 with (fail)
          obtain ⟨W11, hW11⟩ : ∃ W11, W10.setCell ⟨w.heap.size + 1 + 1, 2, none⟩ (.string y.key) = W11 := ⟨_, rfl⟩
          rw [hW11]
          have h811 : W11.heap[w.heap.size + 1 + 1]? = some (.cells #[.slice (some ⟨g1, 0, none⟩) f.length cs, .bool true, .string y.key, .int .i64 0] 41 (0, 0)) := by rw [← hW11]; exact heap_set H810.out 2 (.string y.key)
          have K11 : KeptBut w4.heap.size (w.heap.size + 1 + 1) w4 W11 := by rw [← hW11]; exact HK10.out.setCell 2 _
          have own11 : W11.ownsRow w4.heap.size 111 6 (.slice (some ⟨g1, 0, none⟩) f.length cs) f.length (f.flatMap encE) := by rw [← hW11]; exact ownsRow_setCell_below HO10.out (a := ⟨w.heap.size + 1 + 1, 2, none⟩) hb8' _
          have m1 : W11.cell? ⟨W9.heap.size, 1, none⟩ = some (.int .i64 y.id) := by
            rw [← hW11, World.cell?_setCell_other _ _ _ _ (fun h => by injection h with h1 _; omega)]
            exact (cells_of_heap HL10.out).1 1 _ rfl
          have d3 := (cells_of_heap h811).1 3 _ rfl
          have f3 := (cells_of_heap h811).2 3
          clear hW11 H810 HK10 HO10 m0 d2 f2
          have hfin : ∀ (W12 : World) (idv : Int), W12.heap[w.heap.size + 1 + 1]? = some (.cells #[.slice (some ⟨g1, 0, none⟩) f.length cs, .bool true, .string y.key, .int .i64 idv] 41 (0, 0)) → KeptBut w4.heap.size (w.heap.size + 1 + 1) w4 W12 → True := fun _ _ _ _ => trivial
          clear hfin
          have hF : ∃ r, selE (pgB vs Q) Q l' = f ++ x :: r := by
            refine ⟨selE (pgB vs Q) Q (l'.drop (i + 1)), ?_⟩
            have h1 : selE (pgB vs Q) Q l' = selE (pgB vs Q) Q (l'.take (i + 1)) ++ selE (pgB vs Q) Q (l'.drop (i + 1)) := by
              conv => lhs; rw [← List.take_append_drop (i + 1) l']
              unfold selE
              rw [List.filter_append]
            rw [h1, HSE.out, List.append_assoc]
            rfl
          obtain ⟨r, hF⟩ := hF
          have HF2 := Lib.hid hF; clear hF
          have HK11 := Lib.hid K11; clear K11
          have HO11 := Lib.hid own11; clear own11
          have H811 := Lib.hid h811; clear h811
          have HQ := Lib.hid hQ; clear hQ
          cases vs
          · go_upto_region 20 with (fail)
            have h6 : W11.heap[w.heap.size + 1]? = some (.cells #[.slice none 0 0, .bool false, .string ⟨#[]⟩, .int .i64 0] 41 (0, 0)) := (HK11.out.block (w.heap.size + 1) (by omega) (by omega)).trans H41.out
            have t0 : W11.cell? ⟨w.heap.size + 1 + 1, 0, none⟩ = some (.slice (some ⟨g1, 0, none⟩) f.length cs) := (cells_of_heap H811.out).1 0 _ rfl
            have t1 : W11.cell? ⟨w.heap.size + 1 + 1, 1, none⟩ = some (.bool true) := (cells_of_heap H811.out).1 1 _ rfl
            have t2 : W11.cell? ⟨w.heap.size + 1 + 1, 2, none⟩ = some (.string y.key) := (cells_of_heap H811.out).1 2 _ rfl
            have t3 : W11.cell? ⟨w.heap.size + 1 + 1, 3, none⟩ = some (.int .i64 0) := (cells_of_heap H811.out).1 3 _ rfl
            have r0 : W11.cell? ⟨w.heap.size + 1, 0, none⟩ = some (.slice none 0 0) := (cells_of_heap h6).1 0 _ rfl
            have r1 : W11.cell? ⟨w.heap.size + 1, 1, none⟩ = some (.bool false) := (cells_of_heap h6).1 1 _ rfl
            have r2 : W11.cell? ⟨w.heap.size + 1, 2, none⟩ = some (.string ⟨#[]⟩) := (cells_of_heap h6).1 2 _ rfl
            have r3 : W11.cell? ⟨w.heap.size + 1, 3, none⟩ = some (.int .i64 0) := (cells_of_heap h6).1 3 _ rfl
            have z0 : W11.frozen? ⟨w.heap.size + 1, 0, none⟩ = false := (cells_of_heap h6).2 0
            have z1 : W11.frozen? ⟨w.heap.size + 1, 1, none⟩ = false := (cells_of_heap h6).2 1
            have z2 : W11.frozen? ⟨w.heap.size + 1, 2, none⟩ = false := (cells_of_heap h6).2 2
            have z3 : W11.frozen? ⟨w.heap.size + 1, 3, none⟩ = false := (cells_of_heap h6).2 3
            have H6W := Lib.hid h6; clear h6
            go_wp2
            (try simp only [Exit.inBlock, Exit.then])
            have h61 := heap_set (heap_set (heap_set (heap_set H6W.out 0 (.slice (some ⟨g1, 0, none⟩) f.length cs)) 1 (.bool true)) 2 (.string y.key)) 3 (.int .i64 0)
            refine bodyPost_ret (ret_pair rfl _ _ (w.heap.size + 1) _ _ _ _ rfl h61 Tryz.underlying41 rfl (by kernel_rfl)) rfl ?_
            have hmf : most.toNat = f.length := by have := HMN.out; omega
            have hnl : most.toNat < (f ++ x :: r).length := by rw [hmf]; simp
            have hb6 : w.heap.size + 1 < w4.heap.size := by omega
            have hown' := ownsRow_setCell_below (ownsRow_setCell_below (ownsRow_setCell_below (ownsRow_setCell_below HO11.out (a := ⟨w.heap.size + 1, 0, none⟩) hb6 (.slice (some ⟨g1, 0, none⟩) f.length cs)) (a := ⟨w.heap.size + 1, 1, none⟩) hb6 (.bool true)) (a := ⟨w.heap.size + 1, 2, none⟩) hb6 (.string y.key)) (a := ⟨w.heap.size + 1, 3, none⟩) hb6 (.int .i64 0)
            have hF2 := HF2.out
            rw [HQ.out] at hF2
            refine ⟨l', .slice (some ⟨g1, 0, none⟩) f.length cs, HPM.out, HSO.out, ?_, ?_, ?_, ?_⟩
            · rw [hF2, show (⟨pre, fr, fid, most⟩ : AskV).most.toNat = f.length from hmf, List.take_left]
              exact (rowE_own hown').1
            · intro b o n c h
              exact Nat.le_trans (by omega) ((rowE_own HO11.out).2 b o n c h)
            · exact ((((HK11.out.toBelow hbw4 (by omega) (by omega)).setCell (p := ⟨w.heap.size + 1, 0, none⟩) (Nat.le_succ _) _).setCell (p := ⟨w.heap.size + 1, 1, none⟩) (Nat.le_succ _) _).setCell (p := ⟨w.heap.size + 1, 2, none⟩) (Nat.le_succ _) _).setCell (p := ⟨w.heap.size + 1, 3, none⟩) (Nat.le_succ _) _
            · rw [hF2]
              unfold cutKey pgId
              have hg : (f ++ x :: r).getD (most.toNat - 1) default = y := by
                have h0 := HN1.out
                rw [← HGD.out, hmf, show f.length - 1 = n1 by omega, List.getD_eq_getElem?_getD, List.getElem?_append_left (by omega), ← List.getD_eq_getElem?_getD]
              rw [if_pos hnl, if_neg (by simp), decide_eq_true hnl, hg]
              rfl
          · go_upto_region 20 with (fail)
            obtain ⟨W12, hW12⟩ : ∃ W12, W11.setCell ⟨w.heap.size + 1 + 1, 3, none⟩ (.int .i64 y.id) = W12 := ⟨_, rfl⟩
            rw [hW12]
            have H8W : Hid (W12.heap[w.heap.size + 1 + 1]? = some (.cells #[.slice (some ⟨g1, 0, none⟩) f.length cs, .bool true, .string y.key, .int .i64 y.id] 41 (0, 0))) := by show _ = _; rw [← hW12]; exact heap_set H811.out 3 (.int .i64 y.id)
            have HKW : Hid (KeptBut w4.heap.size (w.heap.size + 1 + 1) w4 W12) := by rw [← hW12]; exact HK11.out.setCell 3 _
            have HOW : Hid (W12.ownsRow w4.heap.size 111 6 (.slice (some ⟨g1, 0, none⟩) f.length cs) f.length (f.flatMap encE)) := by rw [← hW12]; exact ownsRow_setCell_below HO11.out (a := ⟨w.heap.size + 1 + 1, 3, none⟩) hb8' _
            clear hW12 H811 HK11 HO11 m1 d3 f3
            have h6 : W12.heap[w.heap.size + 1]? = some (.cells #[.slice none 0 0, .bool false, .string ⟨#[]⟩, .int .i64 0] 41 (0, 0)) := (HKW.out.block (w.heap.size + 1) (by omega) (by omega)).trans H41.out
            have t0 : W12.cell? ⟨w.heap.size + 1 + 1, 0, none⟩ = some (.slice (some ⟨g1, 0, none⟩) f.length cs) := (cells_of_heap H8W.out).1 0 _ rfl
            have t1 : W12.cell? ⟨w.heap.size + 1 + 1, 1, none⟩ = some (.bool true) := (cells_of_heap H8W.out).1 1 _ rfl
            have t2 : W12.cell? ⟨w.heap.size + 1 + 1, 2, none⟩ = some (.string y.key) := (cells_of_heap H8W.out).1 2 _ rfl
            have t3 : W12.cell? ⟨w.heap.size + 1 + 1, 3, none⟩ = some (.int .i64 y.id) := (cells_of_heap H8W.out).1 3 _ rfl
            have r0 : W12.cell? ⟨w.heap.size + 1, 0, none⟩ = some (.slice none 0 0) := (cells_of_heap h6).1 0 _ rfl
            have r1 : W12.cell? ⟨w.heap.size + 1, 1, none⟩ = some (.bool false) := (cells_of_heap h6).1 1 _ rfl
            have r2 : W12.cell? ⟨w.heap.size + 1, 2, none⟩ = some (.string ⟨#[]⟩) := (cells_of_heap h6).1 2 _ rfl
            have r3 : W12.cell? ⟨w.heap.size + 1, 3, none⟩ = some (.int .i64 0) := (cells_of_heap h6).1 3 _ rfl
            have z0 : W12.frozen? ⟨w.heap.size + 1, 0, none⟩ = false := (cells_of_heap h6).2 0
            have z1 : W12.frozen? ⟨w.heap.size + 1, 1, none⟩ = false := (cells_of_heap h6).2 1
            have z2 : W12.frozen? ⟨w.heap.size + 1, 2, none⟩ = false := (cells_of_heap h6).2 2
            have z3 : W12.frozen? ⟨w.heap.size + 1, 3, none⟩ = false := (cells_of_heap h6).2 3
            have H6W := Lib.hid h6; clear h6
            go_wp2
            (try simp only [Exit.inBlock, Exit.then])
            have h61 := heap_set (heap_set (heap_set (heap_set H6W.out 0 (.slice (some ⟨g1, 0, none⟩) f.length cs)) 1 (.bool true)) 2 (.string y.key)) 3 (.int .i64 y.id)
            refine bodyPost_ret (ret_pair rfl _ _ (w.heap.size + 1) _ _ _ _ rfl h61 Tryz.underlying41 rfl (by kernel_rfl)) rfl ?_
            have hmf : most.toNat = f.length := by have := HMN.out; omega
            have hnl : most.toNat < (f ++ x :: r).length := by rw [hmf]; simp
            have hb6 : w.heap.size + 1 < w4.heap.size := by omega
            have hown' := ownsRow_setCell_below (ownsRow_setCell_below (ownsRow_setCell_below (ownsRow_setCell_below HOW.out (a := ⟨w.heap.size + 1, 0, none⟩) hb6 (.slice (some ⟨g1, 0, none⟩) f.length cs)) (a := ⟨w.heap.size + 1, 1, none⟩) hb6 (.bool true)) (a := ⟨w.heap.size + 1, 2, none⟩) hb6 (.string y.key)) (a := ⟨w.heap.size + 1, 3, none⟩) hb6 (.int .i64 y.id)
            have hF2 := HF2.out
            rw [HQ.out] at hF2
            refine ⟨l', .slice (some ⟨g1, 0, none⟩) f.length cs, HPM.out, HSO.out, ?_, ?_, ?_, ?_⟩
            · rw [hF2, show (⟨pre, fr, fid, most⟩ : AskV).most.toNat = f.length from hmf, List.take_left]
              exact (rowE_own hown').1
            · intro b o n c h
              exact Nat.le_trans (by omega) ((rowE_own HOW.out).2 b o n c h)
            · exact ((((HKW.out.toBelow hbw4 (by omega) (by omega)).setCell (p := ⟨w.heap.size + 1, 0, none⟩) (Nat.le_succ _) _).setCell (p := ⟨w.heap.size + 1, 1, none⟩) (Nat.le_succ _) _).setCell (p := ⟨w.heap.size + 1, 2, none⟩) (Nat.le_succ _) _).setCell (p := ⟨w.heap.size + 1, 3, none⟩) (Nat.le_succ _) _
            · rw [hF2]
              unfold cutKey pgId cutId
              have hg : (f ++ x :: r).getD (most.toNat - 1) default = y := by
                have h0 := HN1.out
                rw [← HGD.out, hmf, show f.length - 1 = n1 by omega, List.getD_eq_getElem?_getD, List.getElem?_append_left (by omega), ← List.getD_eq_getElem?_getD]
              rw [if_pos hnl, if_pos rfl, if_pos hnl, decide_eq_true hnl, hg]
              rfl
    · have hpz : (l'.length : Int) ≤ (i : Int) := by omega
      have hil : i = l'.length := by omega
      have hF : selE (pgB vs Q) Q l' = f := by rw [HF.out, hil, List.take_length]
      obtain ⟨ps, cs, rfl⟩ : ∃ ps cs, sv = .slice ps f.length cs := by
        rcases HOWN.out.2 with ⟨h1, h2⟩ | ⟨g1, c1, _, h1, _⟩
        · exact ⟨none, 0, by rw [h1, h2]⟩
        · exact ⟨_, _, h1⟩
      have h6 : wr.heap[w.heap.size + 1]? = some (.cells #[.slice none 0 0, .bool false, .string ⟨#[]⟩, .int .i64 0] 41 (0, 0)) := (HKB.out.block (w.heap.size + 1) (by omega) (by omega)).trans H41.out
      have t0 : wr.cell? ⟨w.heap.size + 1 + 1, 0, none⟩ = some (.slice ps f.length cs) := (cells_of_heap H8.out).1 0 _ rfl
      have t1 : wr.cell? ⟨w.heap.size + 1 + 1, 1, none⟩ = some (.bool false) := (cells_of_heap H8.out).1 1 _ rfl
      have t2 : wr.cell? ⟨w.heap.size + 1 + 1, 2, none⟩ = some (.string ⟨#[]⟩) := (cells_of_heap H8.out).1 2 _ rfl
      have t3 : wr.cell? ⟨w.heap.size + 1 + 1, 3, none⟩ = some (.int .i64 0) := (cells_of_heap H8.out).1 3 _ rfl
      have r0 : wr.cell? ⟨w.heap.size + 1, 0, none⟩ = some (.slice none 0 0) := (cells_of_heap h6).1 0 _ rfl
      have r1 : wr.cell? ⟨w.heap.size + 1, 1, none⟩ = some (.bool false) := (cells_of_heap h6).1 1 _ rfl
      have r2 : wr.cell? ⟨w.heap.size + 1, 2, none⟩ = some (.string ⟨#[]⟩) := (cells_of_heap h6).1 2 _ rfl
      have r3 : wr.cell? ⟨w.heap.size + 1, 3, none⟩ = some (.int .i64 0) := (cells_of_heap h6).1 3 _ rfl
      have z0 : wr.frozen? ⟨w.heap.size + 1, 0, none⟩ = false := (cells_of_heap h6).2 0
      have z1 : wr.frozen? ⟨w.heap.size + 1, 1, none⟩ = false := (cells_of_heap h6).2 1
      have z2 : wr.frozen? ⟨w.heap.size + 1, 2, none⟩ = false := (cells_of_heap h6).2 2
      have z3 : wr.frozen? ⟨w.heap.size + 1, 3, none⟩ = false := (cells_of_heap h6).2 3
      have HFN := Lib.hid hF; clear hF
      have HIL := Lib.hid hil; clear hil
      have H6W := Lib.hid h6; clear h6
      have HQ := Lib.hid hQ; clear hQ
      go_wp2
      (try simp only [Exit.inBlock, Exit.then])
      have h61 := heap_set (heap_set (heap_set (heap_set H6W.out 0 (.slice ps f.length cs)) 1 (.bool false)) 2 (.string ⟨#[]⟩)) 3 (.int .i64 0)
      refine bodyPost_ret (ret_pair rfl _ _ (w.heap.size + 1) _ _ _ _ rfl h61 Tryz.underlying41 rfl (by kernel_rfl)) rfl ?_
      have hnl : ¬ most.toNat < f.length := by omega
      have hrow := rowE_own HOWN.out
      have hb6 : w.heap.size + 1 < w4.heap.size := by omega
      have hown' := ownsRow_setCell_below (ownsRow_setCell_below (ownsRow_setCell_below (ownsRow_setCell_below HOWN.out (a := ⟨w.heap.size + 1, 0, none⟩) hb6 (.slice ps f.length cs)) (a := ⟨w.heap.size + 1, 1, none⟩) hb6 (.bool false)) (a := ⟨w.heap.size + 1, 2, none⟩) hb6 (.string ⟨#[]⟩)) (a := ⟨w.heap.size + 1, 3, none⟩) hb6 (.int .i64 0)
      have hF2 := HFN.out
      rw [HQ.out] at hF2
      refine ⟨l', .slice ps f.length cs, HPM.out, HSO.out, ?_, ?_, ?_, ?_⟩
      · rw [hF2, List.take_of_length_le (by show f.length ≤ most.toNat; omega)]
        exact (rowE_own hown').1
      · intro b o n c h
        exact Nat.le_trans (by omega) ((rowE_own HOWN.out).2 b o n c h)
      · exact ((((HKB.out.toBelow hbw4 (by omega) (by omega)).setCell (p := ⟨w.heap.size + 1, 0, none⟩) (Nat.le_succ _) _).setCell (p := ⟨w.heap.size + 1, 1, none⟩) (Nat.le_succ _) _).setCell (p := ⟨w.heap.size + 1, 2, none⟩) (Nat.le_succ _) _).setCell (p := ⟨w.heap.size + 1, 3, none⟩) (Nat.le_succ _) _
      · rw [hF2]
        unfold cutKey pgId cutId
        rw [if_neg hnl, if_neg hnl, ite_self, decide_eq_false hnl]
        rfl
end Go.Proofs.YtjbjcfnbgcloiaaGreatDoor

namespace Go.Proofs.YtjbjcfnbgcloiaaGreatDoor
open Go.Shelf Go.RowKit Go.Lib Nam

def PgPost (w : World) (X : List Ent → Bool → ByteArray → Int → Int → Prop) (ek : IntKind) (e : Ending) (w' : World) : Prop :=
  ∃ sv L mo ke ci er, e = .returned (.tuple #[.agg #[sv, .bool mo, .string ke, .int .i64 ci], .int ek er]) ∧ RowE w' sv L ∧ (∀ b o n c, sv = .slice (some ⟨b, o, none⟩) n c → w.heap.size ≤ b) ∧ Below w.heap.size w w' ∧ X L mo ke ci er
set_option maxHeartbeats 1000000 in
set_option maxRecDepth 100000 in
theorem rvers_of (q : AskV) (v : Value) (w : World) (X : List Ent → Bool → ByteArray → Int → Int → Prop)
    (h : ∀ W, Below w.heap.size w W → Calls Tryz.prog 93 #[v, .agg #[.string q.pre, .string q.fr, .int .i64 q.fid, .int .i64 q.most], .bool true] W (PgPost W X .i64)) :
    Calls Tryz.prog 72 #[v, .agg #[.string q.pre, .string q.fr, .int .i64 q.fid, .int .i64 q.most]] w (PgPost w X .i64) := by
  obtain ⟨w2, hw2⟩ : ∃ w2, (w.alloc (.cells #[.string q.pre, .string q.fr, .int .i64 q.fid, .int .i64 q.most] 32)).alloc (.cells #[.slice none 0 0, .bool false, .string ⟨#[]⟩, .int .i64 0] 41) = w2 := ⟨_, rfl⟩
  have s2 : w2.heap.size = w.heap.size + 2 := by rw [← hw2]; simp
  have hb2 : Below w.heap.size w w2 := by
    rw [← hw2]
    exact ((Below.refl _ _).alloc (Nat.le_refl _) _).alloc (by simp) _
  have h20 : w2.heap[w.heap.size]? = some (.cells #[.string q.pre, .string q.fr, .int .i64 q.fid, .int .i64 q.most] 32 (0, 0)) := by
    rw [← hw2, heap_alloc_old _ _ (by simp), heap_alloc_new]
  have h21 : w2.heap[w.heap.size + 1]? = some (.cells #[.slice none 0 0, .bool false, .string ⟨#[]⟩, .int .i64 0] 41 (0, 0)) := by
    rw [← hw2]
    have := heap_alloc_new (w.alloc (.cells #[.string q.pre, .string q.fr, .int .i64 q.fid, .int .i64 q.most] 32)) (.cells #[.slice none 0 0, .bool false, .string ⟨#[]⟩, .int .i64 0] 41)
    simpa using this
  have hat : AskAt w2 w.heap.size q := ⟨by omega, (cells_of_heap h20).1 0 _ rfl, (cells_of_heap h20).1 1 _ rfl, (cells_of_heap h20).1 2 _ rfl, (cells_of_heap h20).1 3 _ rfl⟩
  have HC := Lib.hid (h w2 hb2 ); clear h
  have HW := Lib.hid hw2; clear hw2
  clear hat h20
  obtain ⟨pre, fr, fid, most⟩ := q
  go_enter Tryz.func72, Tryz.ntmps72
  go_wp2_with fail
  rw [show (w.alloc (.cells #[.string pre, .string fr, .int .i64 fid, .int .i64 most] 32)).alloc (.cells #[.slice none 0 0, .bool false, .string ⟨#[]⟩, .int .i64 0] 41) = w2 from HW.out]
  refine HC.out.mono ?_
  rintro e w3 ⟨sv, L, mo, ke, ci, er, rfl, hrow, hfr, hb3, hX⟩
  have h31 : w3.heap[w.heap.size + 1]? = some (.cells #[.slice none 0 0, .bool false, .string ⟨#[]⟩, .int .i64 0] 41 (0, 0)) := (hb3.block _ (by omega)).trans h21
  have r0 : w3.cell? ⟨w.heap.size + 1, 0, none⟩ = some (.slice none 0 0) := (cells_of_heap h31).1 0 _ rfl
  have r1 : w3.cell? ⟨w.heap.size + 1, 1, none⟩ = some (.bool false) := (cells_of_heap h31).1 1 _ rfl
  have r2 : w3.cell? ⟨w.heap.size + 1, 2, none⟩ = some (.string ⟨#[]⟩) := (cells_of_heap h31).1 2 _ rfl
  have r3 : w3.cell? ⟨w.heap.size + 1, 3, none⟩ = some (.int .i64 0) := (cells_of_heap h31).1 3 _ rfl
  have z0 : w3.frozen? ⟨w.heap.size + 1, 0, none⟩ = false := (cells_of_heap h31).2 0
  have z1 : w3.frozen? ⟨w.heap.size + 1, 1, none⟩ = false := (cells_of_heap h31).2 1
  have z2 : w3.frozen? ⟨w.heap.size + 1, 2, none⟩ = false := (cells_of_heap h31).2 2
  have z3 : w3.frozen? ⟨w.heap.size + 1, 3, none⟩ = false := (cells_of_heap h31).2 3
  obtain ⟨ps, cs, rfl, -⟩ := len_of_row hrow
  obtain ⟨nn, hnn⟩ : ∃ nn, L.length = nn := ⟨_, rfl⟩
  rw [hnn] at hrow hfr ⊢
  have H31 := Lib.hid h31; clear h31
  have HROW := Lib.hid hrow; clear hrow
  have HXX := Lib.hid hX; clear hX
  have HS2 := Lib.hid s2; clear s2
  clear hnn h21
  go_wp2
  (try simp only [Exit.inBlock, Exit.then])
  have h61 := heap_set (heap_set (heap_set (heap_set H31.out 0 (.slice ps nn cs)) 1 (.bool mo)) 2 (.string ke)) 3 (.int .i64 ci)
  refine bodyPost_ret (ret_pair rfl _ _ (w.heap.size + 1) _ _ _ _ rfl h61 Tryz.underlying41 rfl (by kernel_rfl)) rfl ?_
  have hne : ∀ b o n c, Value.slice ps nn cs = .slice (some ⟨b, o, none⟩) n c → b ≠ w.heap.size + 1 := fun b o n c h => by
    have h1 := hfr b o n c h
    have h2 := HS2.out
    omega
  refine ⟨.slice ps nn cs, L, mo, ke, ci, er, rfl, rowE_set (rowE_set (rowE_set (rowE_set HROW.out hne _ _) hne _ _) hne _ _) hne _ _, fun b o n c h => ?_, ?_, HXX.out⟩
  · have h1 := hfr b o n c h
    have h2 := HS2.out
    omega
  · have h2 := HS2.out
    exact ((((hb2.trans (hb3.mono (by omega))).setCell (p := ⟨w.heap.size + 1, 0, none⟩) (Nat.le_succ _) _).setCell (p := ⟨w.heap.size + 1, 1, none⟩) (Nat.le_succ _) _).setCell (p := ⟨w.heap.size + 1, 2, none⟩) (Nat.le_succ _) _).setCell (p := ⟨w.heap.size + 1, 3, none⟩) (Nat.le_succ _) _
set_option maxHeartbeats 1000000 in
set_option maxRecDepth 100000 in
theorem robjs_of (q : AskV) (v : Value) (w : World) (X : List Ent → Bool → ByteArray → Int → Int → Prop)
    (h : ∀ W, Below w.heap.size w W → Calls Tryz.prog 93 #[v, .agg #[.string q.pre, .string q.fr, .int .i64 q.fid, .int .i64 q.most], .bool false] W (PgPost W X .i64)) :
    Calls Tryz.prog 74 #[v, .agg #[.string q.pre, .string q.fr, .int .i64 q.fid, .int .i64 q.most]] w (PgPost w X .i64) := by
  obtain ⟨w2, hw2⟩ : ∃ w2, (w.alloc (.cells #[.string q.pre, .string q.fr, .int .i64 q.fid, .int .i64 q.most] 32)).alloc (.cells #[.slice none 0 0, .bool false, .string ⟨#[]⟩, .int .i64 0] 41) = w2 := ⟨_, rfl⟩
  have s2 : w2.heap.size = w.heap.size + 2 := by rw [← hw2]; simp
  have hb2 : Below w.heap.size w w2 := by
    rw [← hw2]
    exact ((Below.refl _ _).alloc (Nat.le_refl _) _).alloc (by simp) _
  have h20 : w2.heap[w.heap.size]? = some (.cells #[.string q.pre, .string q.fr, .int .i64 q.fid, .int .i64 q.most] 32 (0, 0)) := by
    rw [← hw2, heap_alloc_old _ _ (by simp), heap_alloc_new]
  have h21 : w2.heap[w.heap.size + 1]? = some (.cells #[.slice none 0 0, .bool false, .string ⟨#[]⟩, .int .i64 0] 41 (0, 0)) := by
    rw [← hw2]
    have := heap_alloc_new (w.alloc (.cells #[.string q.pre, .string q.fr, .int .i64 q.fid, .int .i64 q.most] 32)) (.cells #[.slice none 0 0, .bool false, .string ⟨#[]⟩, .int .i64 0] 41)
    simpa using this
  have hat : AskAt w2 w.heap.size q := ⟨by omega, (cells_of_heap h20).1 0 _ rfl, (cells_of_heap h20).1 1 _ rfl, (cells_of_heap h20).1 2 _ rfl, (cells_of_heap h20).1 3 _ rfl⟩
  have HC := Lib.hid (h w2 hb2 ); clear h
  have HW := Lib.hid hw2; clear hw2
  clear hat h20
  obtain ⟨pre, fr, fid, most⟩ := q
  go_enter Tryz.func74, Tryz.ntmps74
  go_wp2_with fail
  rw [show (w.alloc (.cells #[.string pre, .string fr, .int .i64 fid, .int .i64 most] 32)).alloc (.cells #[.slice none 0 0, .bool false, .string ⟨#[]⟩, .int .i64 0] 41) = w2 from HW.out]
  refine HC.out.mono ?_
  rintro e w3 ⟨sv, L, mo, ke, ci, er, rfl, hrow, hfr, hb3, hX⟩
  have h31 : w3.heap[w.heap.size + 1]? = some (.cells #[.slice none 0 0, .bool false, .string ⟨#[]⟩, .int .i64 0] 41 (0, 0)) := (hb3.block _ (by omega)).trans h21
  have r0 : w3.cell? ⟨w.heap.size + 1, 0, none⟩ = some (.slice none 0 0) := (cells_of_heap h31).1 0 _ rfl
  have r1 : w3.cell? ⟨w.heap.size + 1, 1, none⟩ = some (.bool false) := (cells_of_heap h31).1 1 _ rfl
  have r2 : w3.cell? ⟨w.heap.size + 1, 2, none⟩ = some (.string ⟨#[]⟩) := (cells_of_heap h31).1 2 _ rfl
  have r3 : w3.cell? ⟨w.heap.size + 1, 3, none⟩ = some (.int .i64 0) := (cells_of_heap h31).1 3 _ rfl
  have z0 : w3.frozen? ⟨w.heap.size + 1, 0, none⟩ = false := (cells_of_heap h31).2 0
  have z1 : w3.frozen? ⟨w.heap.size + 1, 1, none⟩ = false := (cells_of_heap h31).2 1
  have z2 : w3.frozen? ⟨w.heap.size + 1, 2, none⟩ = false := (cells_of_heap h31).2 2
  have z3 : w3.frozen? ⟨w.heap.size + 1, 3, none⟩ = false := (cells_of_heap h31).2 3
  obtain ⟨ps, cs, rfl, -⟩ := len_of_row hrow
  obtain ⟨nn, hnn⟩ : ∃ nn, L.length = nn := ⟨_, rfl⟩
  rw [hnn] at hrow hfr ⊢
  have H31 := Lib.hid h31; clear h31
  have HROW := Lib.hid hrow; clear hrow
  have HXX := Lib.hid hX; clear hX
  have HS2 := Lib.hid s2; clear s2
  clear hnn h21
  go_wp2
  (try simp only [Exit.inBlock, Exit.then])
  have h61 := heap_set (heap_set (heap_set (heap_set H31.out 0 (.slice ps nn cs)) 1 (.bool mo)) 2 (.string ke)) 3 (.int .i64 ci)
  refine bodyPost_ret (ret_pair rfl _ _ (w.heap.size + 1) _ _ _ _ rfl h61 Tryz.underlying41 rfl (by kernel_rfl)) rfl ?_
  have hne : ∀ b o n c, Value.slice ps nn cs = .slice (some ⟨b, o, none⟩) n c → b ≠ w.heap.size + 1 := fun b o n c h => by
    have h1 := hfr b o n c h
    have h2 := HS2.out
    omega
  refine ⟨.slice ps nn cs, L, mo, ke, ci, er, rfl, rowE_set (rowE_set (rowE_set (rowE_set HROW.out hne _ _) hne _ _) hne _ _) hne _ _, fun b o n c h => ?_, ?_, HXX.out⟩
  · have h1 := hfr b o n c h
    have h2 := HS2.out
    omega
  · have h2 := HS2.out
    exact ((((hb2.trans (hb3.mono (by omega))).setCell (p := ⟨w.heap.size + 1, 0, none⟩) (Nat.le_succ _) _).setCell (p := ⟨w.heap.size + 1, 1, none⟩) (Nat.le_succ _) _).setCell (p := ⟨w.heap.size + 1, 2, none⟩) (Nat.le_succ _) _).setCell (p := ⟨w.heap.size + 1, 3, none⟩) (Nat.le_succ _) _
end Go.Proofs.YtjbjcfnbgcloiaaGreatDoor

/- The document's own model: the entries of a bucket, in order. -/
set_option linter.unusedSimpArgs false
set_option linter.unusedVariables false
namespace Go.Proofs.YtjbjcfnbgcloiaaGreatDoor
open Go.RowKit Nam YtjbjcfnbgcloiaaGreatDoorW.PrintWords

theorem refE_at {L : List Ob} {b : List UInt8} {j : Nat} {o : Ob} (ho : L[j]? = some o) : refE (L.take (j + 1)) b = refE (L.take j) b ++ (if o.bk = b then entsK o.ky o.rs else []) := by
  unfold refE
  rw [List.take_add_one, ho, List.flatMap_append]
  simp
theorem refE_take_len {L : List Ob} {b : List UInt8} (h : ∀ o ∈ L, o.rs.length ≤ 64) : ∀ j, (refE (L.take j) b).length ≤ j * 64
  | 0 => by simp [refE]
  | j + 1 => by
    have ih := refE_take_len h j (b := b)
    cases ho : L[j]? with
    | none =>
      rw [List.take_add_one, ho]
      simp
      omega
    | some o =>
      rw [refE_at ho, List.length_append]
      have : (if o.bk = b then entsK o.ky o.rs else []).length ≤ 64 := by
        split
        · rw [entsK_length]; exact h o (List.mem_of_getElem? ho)
        · exact Nat.zero_le _
      omega
theorem refE_keyz {L : List Ob} {b : List UInt8} {x : Ent} (hx : x ∈ refE L b) : ∃ o ∈ L, x.key = mkS o.ky := by
  unfold refE at hx
  obtain ⟨o, ho, hx⟩ := List.mem_flatMap.1 hx
  refine ⟨o, ho, ?_⟩
  split at hx
  · unfold entsK at hx
    obtain ⟨p, _, e⟩ := List.mem_map.1 hx
    rw [← e]
    rfl
  · cases hx
def REntIs (L : List Ob) (b : List UInt8) (w : World) (e : Ending) (w' : World) : Prop :=
  (∃ (v : Value) (l' : List Ent), e = .returned v ∧ l'.Perm (refE L b) ∧ SortedE l' ∧ RowE w' v l' ∧ ∀ b o n c, v = .slice (some ⟨b, o, none⟩) n c → w.heap.size ≤ b) ∧ Below w.heap.size w w'
set_option maxHeartbeats 4000000 in
set_option maxRecDepth 100000 in
theorem rents_is (w : World) (g : Nat) (B : List (List UInt8)) (L : List Ob) (b0 : Nat) (Q F : Nat → Prop) (b : List UInt8) (hL : L.length ≤ 1000) (hrs : ∀ o ∈ L, o.rs.length ≤ 64) (hky : ∀ o ∈ L, o.ky.length ≤ 100000) (hm : RefM w g B L b0 Q F) :
    Calls Tryz.prog 73 #[.pointer (some ⟨g, 0, none⟩), .string (mkS b)] w (REntIs L b w) := by
  obtain ⟨A, c, A2, c2, hcB, hcL, HG, HBc, HO⟩ := hm.lay
  obtain ⟨n, hn⟩ : ∃ n, L.length = n := ⟨_, rfl⟩
  rw [hn] at HG hcL hL
  have HN := Lib.hid hn
  have HLen : Hid (∀ j, j ≤ n → (refE (L.take j) b).length ≤ 64000) := fun j hj => by have := refE_take_len hrs j (b := b); omega
  have HRS := Lib.hid hrs
  have HKY := Lib.hid hky
  clear hn hm hrs hky
  go_enter Tryz.func73, Tryz.ntmps73
  go_wp2_with fail
  have HR0 : Hid (Below w.heap.size w w) := Below.refl _ _
  have HO0 : Hid (w.ownsRow w.heap.size 111 6 (.slice none 0 0) (refE (L.take 0) b).length ((refE (L.take 0) b).flatMap encE)) := ⟨rfl, .inl ⟨rfl, rfl⟩⟩
  go_loopw [5, 6] (fun va vi wr => ∃ (j : Nat) (sv : Value), sv = va ∧ vi = .int .i64 j ∧ j ≤ n ∧ Hid (Below w.heap.size w wr) ∧ Hid (wr.ownsRow w.heap.size 111 6 sv (refE (L.take j) b).length ((refE (L.take j) b).flatMap encE))) (fun _ vi _ => n - (intOf vi).toNat)
  case atStart => exact ⟨0, _, rfl, rfl, Nat.zero_le _, HR0, HO0⟩
  case round =>
    clear HR0 HO0
    obtain ⟨j, sv, hsv, rfl, hj, HW, HOj⟩ := hrel
    subst hsv
    obtain ⟨g0, g1⟩ := HG.out _ HW.out
    by_cases hlt : j < n
    · have hltz : (j : Int) < (n : Int) := by omega
      obtain ⟨o, ho⟩ : ∃ o, L[j]? = some o := ⟨_, List.getElem?_eq_getElem (by have := HN.out; omega)⟩
      obtain ⟨gl, vs, ds, rfl, hv, hd, hcell⟩ := HO.out j o ho
      obtain ⟨r, hr⟩ : ∃ r, o.rs.length = r := ⟨_, rfl⟩
      obtain ⟨vp, vc, rfl, hvc⟩ := hv.slice
      rw [hr] at hvc hv hcell
      have hr64 : r ≤ 64 := by rw [← hr]; exact HRS.out o (List.mem_of_getElem? ho)
      have HCell := Lib.hid hcell
      have HV := Lib.hid hv
      have HHO := Lib.hid ho
      have HHR := Lib.hid hr
      by_cases hbk : o.bk = b
      · have HAt : Hid (refE (L.take (j + 1)) b = refE (L.take j) b ++ entsK o.ky o.rs) := by show _ = _; rw [refE_at ho, if_pos hbk]
        have q := streq_yes b
        rw [hbk] at HCell
        clear hcell hv hd ho hr hbk
        obtain ⟨wo, rfl⟩ : ∃ wo : World, wo = wr := ⟨_, rfl⟩
        clear g0 g1
        have HO1 : Hid (wo.ownsRow w.heap.size 111 6 sv (refE (L.take j) b ++ (entsK o.ky o.rs).take 0).length ((refE (L.take j) b ++ (entsK o.ky o.rs).take 0).flatMap encE)) := by
          show World.ownsRow _ _ _ _ _ _ _
          rw [List.take_zero, List.append_nil]
          exact HOj.out
        obtain ⟨g0, g1⟩ := HG.out _ HW.out
        go_wp2_with fail
        clear g0 g1
        go_loopw [5, 7] (fun va vi wr => ∃ (i : Nat) (sv : Value), sv = va ∧ vi = .int .i64 i ∧ i ≤ r ∧ Hid (Below w.heap.size w wr) ∧ Hid (wr.ownsRow w.heap.size 111 6 sv (refE (L.take j) b ++ (entsK o.ky o.rs).take i).length ((refE (L.take j) b ++ (entsK o.ky o.rs).take i).flatMap encE))) (fun _ vi _ => r - (intOf vi).toNat)
        case atStart => exact ⟨0, _, rfl, rfl, Nat.zero_le _, HW, HO1⟩
        case round =>
          clear HO1 HOj HW
          obtain ⟨i, sw, hsw, rfl, hi, HW, HOi⟩ := hrel
          subst hsw
          obtain ⟨g0, g1⟩ := HG.out _ HW.out
          obtain ⟨a0, a1, a2, _⟩ := HCell.out _ HW.out
          by_cases hlt2 : i < r
          · have hltz2 : (i : Int) < (r : Int) := by omega
            obtain ⟨x, hx⟩ : ∃ x, o.rs[i]? = some x := ⟨_, List.getElem?_eq_getElem (by have := HHR.out; omega)⟩
            obtain ⟨gv, c5, cs, e, _, e2, hc5⟩ := HV.out.at_ i hx
            rw [show cs = [Value.int .i64 x.id, .bool x.mark, .int .i64 x.sz, .int .u32 x.sum] from e2] at hc5
            injection e with e e6 e7
            subst e
            subst e7
            have n0 := pw_cell_below HW.out (hc5 0 _ (by omega) rfl)
            have n1 := pw_cell_below HW.out (hc5 1 _ (by omega) rfl)
            have n2 := pw_cell_below HW.out (hc5 2 _ (by omega) rfl)
            have n3 := pw_cell_below HW.out (hc5 3 _ (by omega) rfl)
            rw [Nat.add_zero] at n0
            obtain ⟨la, hla⟩ : ∃ la, ((i : Int) == (r : Int) - 1) = la := ⟨_, rfl⟩
            have HLA : Hid (la = decide (i + 1 = r)) := by
              show _ = _
              rw [← hla, Bool.eq_iff_iff, beq_iff_eq, decide_eq_true_eq]
              omega
            obtain ⟨E, hE⟩ : ∃ E, refE (L.take j) b ++ (entsK o.ky o.rs).take i = E := ⟨_, rfl⟩
            have hcnt : E.length ≤ 70000 := by
              have h1 := HLen.out j hj
              rw [← hE, List.length_append, List.length_take]
              omega
            rw [hE] at HOi
            have HE := Lib.hid hE
            have HX := Lib.hid hx
            have wj : IntKind.i64.wrap ((r : Int) - 1) = (r : Int) - 1 := IntWalk.i64_in _ (by omega)
            have hbs : w.heap.size ≤ wr.heap.size := HW.out.size
            have HKeep : Hid (∀ V, Below w.heap.size w V → V.cell? ⟨g, 1, none⟩ = some (.slice (some ⟨gl, 0, none⟩) n c2) ∧ V.cell? ⟨gl, j * 4, none⟩ = some (.string (mkS b)) ∧ V.cell? ⟨gl, j * 4 + 1, none⟩ = some (.string (mkS o.ky)) ∧ V.cell? ⟨gl, j * 4 + 2, none⟩ = some (.slice (some ⟨gv, 0, none⟩) r vc) ∧
                V.cell? ⟨gv, i * 4, none⟩ = some (.int .i64 x.id) ∧ V.cell? ⟨gv, i * 4 + 1, none⟩ = some (.bool x.mark) ∧ V.cell? ⟨gv, i * 4 + 2, none⟩ = some (.int .i64 x.sz) ∧ V.cell? ⟨gv, i * 4 + 3, none⟩ = some (.int .u32 x.sum)) := fun V hV => by
              obtain ⟨_, k1⟩ := HG.out _ hV
              obtain ⟨b0, b1, b2, _⟩ := HCell.out _ hV
              exact ⟨k1, b0, b1, b2, pw_cell_below hV (by have := hc5 0 _ (by omega) rfl; rwa [Nat.add_zero] at this), pw_cell_below hV (hc5 1 _ (by omega) rfl), pw_cell_below hV (hc5 2 _ (by omega) rfl), pw_cell_below hV (hc5 3 _ (by omega) rfl)⟩
            clear hE hx hc5 e6 e2
            go_wp2_with fail
            have hS := HKeep.out _ (HW.out.drew)
            have hSa := fun o => HKeep.out _ ((HW.out.alloc HW.out.size o).drew)
            go_region_held_law (fun V => V.cell? ⟨g, 1, none⟩ = some (.slice (some ⟨gl, 0, none⟩) n c2) ∧ V.cell? ⟨gl, j * 4, none⟩ = some (.string (mkS b)) ∧ V.cell? ⟨gl, j * 4 + 1, none⟩ = some (.string (mkS o.ky)) ∧ V.cell? ⟨gl, j * 4 + 2, none⟩ = some (.slice (some ⟨gv, 0, none⟩) r vc) ∧
                V.cell? ⟨gv, i * 4, none⟩ = some (.int .i64 x.id) ∧ V.cell? ⟨gv, i * 4 + 1, none⟩ = some (.bool x.mark) ∧ V.cell? ⟨gv, i * 4 + 2, none⟩ = some (.int .i64 x.sz) ∧ V.cell? ⟨gv, i * 4 + 3, none⟩ = some (.int .u32 x.sum))
              (first | exact hS | exact hSa _ | exact hSb | go_keep)
              ((refine step_append_rowE (xs := E) (base := w.heap.size) (by rfl) (.tmp 42) (.tmp 75) (by rfl) (by rfl) (pw_own_below HOi.out (((Below.refl _ _).alloc (Nat.le_refl _) _).drew)) (by rfl) ((rowE_one wr ⟨mkS o.ky, x.id, x.mark, x.sz, x.sum, la⟩).below (Below.refl _ _).drew) (by simp; omega) (HW.out.alloc HW.out.size _).drew.size ?_; intro v2 wa hown2 hgr2 _; have HB2 : Hid (Below w.heap.size w wa) := (HW.out.alloc HW.out.size _).drew.grown hgr2 (HW.out.alloc HW.out.size _).drew.size (own_ge HOi.out); have hSb := HKeep.out _ HB2.out; have HO2 := Lib.hid hown2; clear hown2 hgr2))
            all_goals
              go_wp2_with fail
              have HO10 : Hid (wa.ownsRow w.heap.size 111 6 v2 (refE (L.take j) b ++ (entsK o.ky o.rs).take (i + 1)).length ((refE (L.take j) b ++ (entsK o.ky o.rs).take (i + 1)).flatMap encE)) := by
                show World.ownsRow _ _ _ _ _ _ _
                have e : refE (L.take j) b ++ (entsK o.ky o.rs).take (i + 1) = E ++ [⟨mkS o.ky, x.id, x.mark, x.sz, x.sum, la⟩] := by
                  rw [entsK_take o.ky _ i x HX.out, ← List.append_assoc, HE.out, HLA.out, HHR.out]
                  rfl
                rw [e]
                exact HO2.out
              go_roundw
              case rel => exact ⟨i + 1, _, rfl, by go_num, by omega, HB2, HO10⟩
              case measure => simp [intOf]; omega
          · obtain rfl : i = r := by omega
            have HOn : Hid (wr.ownsRow w.heap.size 111 6 sw (refE (L.take (j + 1)) b).length ((refE (L.take (j + 1)) b).flatMap encE)) := by
              show World.ownsRow _ _ _ _ _ _ _
              rw [HAt.out]
              have := HOi.out
              rwa [List.take_of_length_le (l := entsK o.ky o.rs) (by rw [entsK_length, HHR.out]; exact Nat.le_refl _)] at this
            clear HOi
            go_wp2_with fail
            go_roundw
            case rel => exact ⟨j + 1, _, rfl, by go_num, by omega, HW, HOn⟩
            case measure => simp [intOf]; omega
      · have HAt : Hid (wr.ownsRow w.heap.size 111 6 sv (refE (L.take (j + 1)) b).length ((refE (L.take (j + 1)) b).flatMap encE)) := by
          show World.ownsRow _ _ _ _ _ _ _
          rw [refE_at ho, if_neg hbk, List.append_nil]
          exact HOj.out
        have q := streq_no hbk
        obtain ⟨a0, a1, a2, _⟩ := hcell _ HW.out
        clear hcell hv hd ho hr hbk HOj
        go_wp2_with fail
        refine wp_loop_rounds 1 ?_
        rw [rounds_succ]
        by_cases hr0 : 0 < r
        all_goals
          have hr0z : decide ((0 : Int) < (r : Int)) = decide (0 < r) := by simp
          go_wp2_with fail
          go_roundw
          case rel => exact ⟨j + 1, _, rfl, by go_num, by omega, HW, HAt⟩
          case measure => simp [intOf]; omega
    · have hltz : ¬ (j : Int) < (n : Int) := by omega
      obtain ⟨l, hl⟩ : ∃ l, refE L b = l := ⟨_, rfl⟩
      have hto : refE (L.take j) b = l := by rw [← hl, List.take_of_length_le (by have := HN.out; omega)]
      have hro := HOj.out
      rw [hto] at hro
      have hll : l.length ≤ 1000000 := by rw [← hto]; have := HLen.out j hj; omega
      have hlk : ∀ x ∈ l, x.key.size ≤ maxLen := fun x hx => by
        rw [← hl] at hx
        obtain ⟨o, ho, e⟩ := refE_keyz hx
        rw [e, mkS_size]
        have := HKY.out o ho
        unfold maxLen
        omega
      have HSort : Hid (Calls Tryz.prog 94 #[sv] wr fun e w' => REntIs L b w e w') := (rsort_is l hll hlk sv wr (rowE_own hro).1).mono fun e w' ⟨v', l', he, h1, h2, h3, h4⟩ => by
        have hre := rowE_own h1
        exact ⟨⟨v', l', he, by rw [hl]; exact h2, h3, hre.1, fun b o n c hv => Nat.le_trans HW.out.size (hre.2 b o n c hv)⟩, HW.out.trans (h4.mono HW.out.size)⟩
      clear hto hro hll hlk hl HOj
      go_wp2_with fail
      refine HSort.out.mono ?_
      intro e w2 hre
      obtain ⟨⟨v', l', rfl, hh⟩, hb2⟩ := hre
      have HH := Lib.hid hh
      clear hh
      go_wp2_with fail
      go_ret
      exact ⟨⟨v', l', rfl, HH.out⟩, hb2⟩
end Go.Proofs.YtjbjcfnbgcloiaaGreatDoor

/- The document's own model: a page of a bucket's entries. -/
set_option linter.unusedSimpArgs false
set_option linter.unusedVariables false
namespace Go.Proofs.YtjbjcfnbgcloiaaGreatDoor
open Go.RowKit Nam YtjbjcfnbgcloiaaGreatDoorW.PrintWords

def RRes (L : List Ob) (b : List UInt8) (q : AskV) (vs : Bool) (o : List Ent) (m : Bool) (k : ByteArray) (i : Int) : Prop :=
  ∃ l', l'.Perm (refE L b) ∧ SortedE l' ∧ o = (selE (pgB vs q) q l').take q.most.toNat ∧ m = decide (q.most.toNat < (selE (pgB vs q) q l').length) ∧ k = cutKey q.most.toNat (selE (pgB vs q) q l') ∧ i = pgId vs q.most.toNat (selE (pgB vs q) q l')
def RTells (B : List (List UInt8)) (L : List Ob) (b : List UInt8) (q : AskV) (vs : Bool) (er : Int) (o : List Ent) (m : Bool) (k : ByteArray) (i : Int) : Prop :=
  if bucketB b = false then er = 12 ∧ o = [] ∧ m = false ∧ k = ⟨#[]⟩ ∧ i = 0
  else if okA q = false then er = 1 ∧ o = [] ∧ m = false ∧ k = ⟨#[]⟩ ∧ i = 0
  else if b ∉ B then er = 13 ∧ o = [] ∧ m = false ∧ k = ⟨#[]⟩ ∧ i = 0
  else er = 0 ∧ RRes L b q vs o m k i
def RPgOk (B : List (List UInt8)) (L : List Ob) (b : List UInt8) (q : AskV) (vs : Bool) (w : World) (e : Ending) (w' : World) : Prop :=
  (∃ (p : Option Addr) (nn cc : Nat) (m : Bool) (k : ByteArray) (i er : Int) (o : List Ent), e = .returned (.tuple #[.agg #[.slice p nn cc, .bool m, .string k, .int .i64 i], .int .i64 er]) ∧ RowE w' (.slice p nn cc) o ∧ (∀ b f n c, Value.slice p nn cc = .slice (some ⟨b, f, none⟩) n c → w.heap.size ≤ b) ∧ RTells B L b q vs er o m k i) ∧ Below w.heap.size w w'
theorem rpg_nil {B : List (List UInt8)} {L : List Ob} {b : List UInt8} {q : AskV} {vs : Bool} {w w' : World} {er : Int} (h : RTells B L b q vs er [] false ⟨#[]⟩ 0) (hb : Below w.heap.size w w') :
    RPgOk B L b q vs w (.returned (.tuple #[.agg #[.slice none 0 0, .bool false, .string ⟨#[]⟩, .int .i64 0], .int .i64 er])) w' :=
  ⟨⟨none, 0, 0, false, ⟨#[]⟩, 0, er, [], rfl, .inl ⟨rfl, rfl⟩, (fun b f n c e => by cases e), h⟩, hb⟩
set_option maxHeartbeats 4000000 in
set_option maxRecDepth 100000 in
theorem rpage_is (w : World) (g : Nat) (B : List (List UInt8)) (L : List Ob) (b0 : Nat) (Q F : Nat → Prop) (b : List UInt8) (q : AskV) (vs : Bool) (hb : b.length ≤ 100000) (hB : B.length ≤ 100000) (hL : L.length ≤ 1000) (hrs : ∀ o ∈ L, o.rs.length ≤ 64) (hky : ∀ o ∈ L, o.ky.length ≤ 100000) (hq : q.pre.size ≤ maxLen) (hqf : q.fr.size ≤ maxLen) (hm : RefM w g B L b0 Q F) :
    Calls Tryz.prog 46 #[.pointer (some ⟨g, 0, none⟩), .string (mkS b), .agg #[.string q.pre, .string q.fr, .int .i64 q.fid, .int .i64 q.most], .bool vs] w (RPgOk B L b q vs w) := by
  have hsz : (mkS b).size ≤ maxLen := by rw [mkS_size]; unfold maxLen; omega
  have hlen : (refE L b).length ≤ 64000 := by
    have := refE_take_len hrs L.length (b := b)
    rw [List.take_of_length_le (Nat.le_refl _)] at this
    omega
  have hkz : ∀ x ∈ refE L b, x.key.size ≤ maxLen := fun x hx => by
    obtain ⟨o, ho, e⟩ := refE_keyz hx
    rw [e, mkS_size]
    have := hky o ho
    unfold maxLen
    omega
  obtain ⟨pre, fr, fid, most⟩ := q
  obtain ⟨w2, hw2⟩ : ∃ w2, (w.alloc (.cells #[.string pre, .string fr, .int .i64 fid, .int .i64 most] 32)).alloc (.cells #[.slice none 0 0, .bool false, .string ⟨#[]⟩, .int .i64 0] 41) = w2 := ⟨_, rfl⟩
  have hs2 : w2.heap.size = w.heap.size + 2 := by rw [← hw2]; simp
  have hb2 : Below w.heap.size w w2 := by
    rw [← hw2]
    exact ((Below.refl _ _).alloc (Nat.le_refl _) _).alloc (by simp) _
  have h20 : w2.heap[w.heap.size]? = some (.cells #[.string pre, .string fr, .int .i64 fid, .int .i64 most] 32 (0, 0)) := by
    rw [← hw2, heap_alloc_old _ _ (by simp), heap_alloc_new]
  have h21 : w2.heap[w.heap.size + 1]? = some (.cells #[.slice none 0 0, .bool false, .string ⟨#[]⟩, .int .i64 0] 41 (0, 0)) := by
    rw [← hw2]
    have := heap_alloc_new (w.alloc (.cells #[.string pre, .string fr, .int .i64 fid, .int .i64 most] 32)) (.cells #[.slice none 0 0, .bool false, .string ⟨#[]⟩, .int .i64 0] 41)
    simpa using this
  obtain ⟨ok, hok⟩ : ∃ ok, bucketB b = ok := ⟨_, rfl⟩
  have HBk : Hid (Calls Tryz.prog 18 #[.string (mkS b)] w2 fun e w' => e = .returned (.bool ok) ∧ Below w2.heap.size w2 w') := by
    have := rbucket_is (mkS b) w2 hsz
    rw [mkS_list, hok] at this
    exact this.mono fun e w' ⟨he, hw⟩ => ⟨he, hw ▸ Below.refl _ _⟩
  have HTh : Hid (∀ V, Below w2.heap.size w2 V → Calls Tryz.prog 65 #[.pointer (some ⟨g, 0, none⟩), .string (mkS b)] V fun e w' => e = .returned (.bool (decide (b ∈ B))) ∧ Below w2.heap.size w2 w') := fun V hV =>
    (rthere_is V g B L b0 Q F b hB ((hm.below hb2).below hV)).mono fun e w' ⟨he, h⟩ => ⟨he, hV.trans (h.mono hV.size)⟩
  have HEn : Hid (∀ V, Below w2.heap.size w2 V → Calls Tryz.prog 73 #[.pointer (some ⟨g, 0, none⟩), .string (mkS b)] V (REntIs L b V)) := fun V hV => rents_is V g B L b0 Q F b hL hrs hky ((hm.below hb2).below hV)
  have HPg : Hid (∀ V (v : Value) (l' : List Ent), okA ⟨pre, fr, fid, most⟩ = true → RowE V v l' → l'.Perm (refE L b) → Calls Tryz.prog (if vs = true then 72 else 74) #[v, .agg #[.string pre, .string fr, .int .i64 fid, .int .i64 most]] V (PgPost V (fun o m k i er => er = 0 ∧ RRes L b ⟨pre, fr, fid, most⟩ vs o m k i) .i64)) := fun V v l' hoa hv hp => by
    have hmo : 1 ≤ most ∧ most ≤ 1000 := by
      unfold okA at hoa
      exact of_decide_eq_true hoa
    have hll : l'.length ≤ 1000000 := by rw [hp.length_eq]; omega
    have hpg : ∀ W, Below V.heap.size V W → Calls Tryz.prog 93 #[v, .agg #[.string pre, .string fr, .int .i64 fid, .int .i64 most], .bool vs] W (PgPost W (fun o m k i er => er = 0 ∧ RRes L b ⟨pre, fr, fid, most⟩ vs o m k i) .i64) := fun W hW =>
      Calls.mono (rpages_is vs ⟨pre, fr, fid, most⟩ l' hll (fun x hx => hkz x (hp.mem_iff.1 hx)) hq hqf hmo v W (hv.below hW)) fun e w' ⟨l2, sv, hp2, hs2, h1, h2, h3, he⟩ =>
        ⟨sv, _, _, _, _, _, he, h1, h2, h3, rfl, l2, hp2.trans hp, hs2, rfl, rfl, rfl, rfl⟩
    cases vs with
    | true =>
      rw [if_pos rfl]
      exact rvers_of ⟨pre, fr, fid, most⟩ v V _ hpg
    | false =>
      rw [if_neg (by decide)]
      exact robjs_of ⟨pre, fr, fid, most⟩ v V _ hpg
  have HBX : Hid (∀ V, Below w2.heap.size w2 V → V.heap[w.heap.size]? = some (.cells #[.string pre, .string fr, .int .i64 fid, .int .i64 most] 32 (0, 0)) ∧ V.heap[w.heap.size + 1]? = some (.cells #[.slice none 0 0, .bool false, .string ⟨#[]⟩, .int .i64 0] 41 (0, 0)) ∧ w.heap.size + 2 ≤ V.heap.size) := fun V hV =>
    ⟨(hV.block _ (by omega)).trans h20, (hV.block _ (by omega)).trans h21, by have := hV.size; omega⟩
  have HEnd : Hid (∀ (V : World) (a : Value) (b c d : Value), Below w2.heap.size w2 V → Below w.heap.size w ((((V.setCell ⟨w.heap.size + 1, 0, none⟩ a).setCell ⟨w.heap.size + 1, 1, none⟩ b).setCell ⟨w.heap.size + 1, 2, none⟩ c).setCell ⟨w.heap.size + 1, 3, none⟩ d)) := fun V a b c d hV =>
    (((((hb2.trans (hV.mono (by omega))).setCell (p := ⟨w.heap.size + 1, 0, none⟩) (Nat.le_succ _) _).setCell (p := ⟨w.heap.size + 1, 1, none⟩) (Nat.le_succ _) _).setCell (p := ⟨w.heap.size + 1, 2, none⟩) (Nat.le_succ _) _).setCell (p := ⟨w.heap.size + 1, 3, none⟩) (Nat.le_succ _) _)
  have HW := Lib.hid hw2
  have HOK := Lib.hid hok
  have HS2 := Lib.hid hs2
  clear hok hm hw2 h20 h21 hb2 hs2 hrs hky hkz
  cases ok with
  | false =>
    go_enter Tryz.func46, Tryz.ntmps46
    go_wp2_with fail
    rw [show (w.alloc (.cells #[.string pre, .string fr, .int .i64 fid, .int .i64 most] 32)).alloc (.cells #[.slice none 0 0, .bool false, .string ⟨#[]⟩, .int .i64 0] 41) = w2 from HW.out]
    refine HBk.out.mono ?_
    rintro e w3 ⟨rfl, hb3⟩
    obtain ⟨_, h31, _⟩ := HBX.out w3 hb3
    have r0 : w3.cell? ⟨w.heap.size + 1, 0, none⟩ = some (.slice none 0 0) := (cells_of_heap h31).1 0 _ rfl
    have r1 : w3.cell? ⟨w.heap.size + 1, 1, none⟩ = some (.bool false) := (cells_of_heap h31).1 1 _ rfl
    have r2 : w3.cell? ⟨w.heap.size + 1, 2, none⟩ = some (.string ⟨#[]⟩) := (cells_of_heap h31).1 2 _ rfl
    have r3 : w3.cell? ⟨w.heap.size + 1, 3, none⟩ = some (.int .i64 0) := (cells_of_heap h31).1 3 _ rfl
    have z0 : w3.frozen? ⟨w.heap.size + 1, 0, none⟩ = false := (cells_of_heap h31).2 0
    have z1 : w3.frozen? ⟨w.heap.size + 1, 1, none⟩ = false := (cells_of_heap h31).2 1
    have z2 : w3.frozen? ⟨w.heap.size + 1, 2, none⟩ = false := (cells_of_heap h31).2 2
    have z3 : w3.frozen? ⟨w.heap.size + 1, 3, none⟩ = false := (cells_of_heap h31).2 3
    have H31 := Lib.hid h31; clear h31
    have HB3 := Lib.hid hb3; clear hb3
    go_wp2
    (try simp only [Exit.inBlock, Exit.then])
    have h61 := heap_set (heap_set (heap_set (heap_set H31.out 0 (.slice none 0 0)) 1 (.bool false)) 2 (.string ⟨#[]⟩)) 3 (.int .i64 0)
    refine bodyPost_ret (ret_pair rfl _ _ (w.heap.size + 1) _ _ _ _ rfl h61 Tryz.underlying41 rfl (by kernel_rfl)) rfl ?_
    refine rpg_nil ?_ (HEnd.out _ _ _ _ _ HB3.out)
    unfold RTells
    rw [if_pos HOK.out]
    exact ⟨rfl, rfl, rfl, rfl, rfl⟩
  | true =>
    obtain ⟨oa, hoa⟩ : ∃ oa, okA ⟨pre, fr, fid, most⟩ = oa := ⟨_, rfl⟩
    have HOA := Lib.hid hoa
    cases oa with
    | false =>
      have hmo : ¬ (1 ≤ most ∧ most ≤ 1000) := by
        unfold okA at hoa
        exact of_decide_eq_false hoa
      clear hoa
      by_cases hm1 : most < 1
      all_goals
        first
        | have hm2 : ¬ most < 1 := hm1
          have hm3 : 1000 < most := by omega
        | skip
        clear hmo
        go_enter Tryz.func46, Tryz.ntmps46
        go_wp2_with fail
        rw [show (w.alloc (.cells #[.string pre, .string fr, .int .i64 fid, .int .i64 most] 32)).alloc (.cells #[.slice none 0 0, .bool false, .string ⟨#[]⟩, .int .i64 0] 41) = w2 from HW.out]
        refine HBk.out.mono ?_
        rintro e w3 ⟨rfl, hb3⟩
        obtain ⟨h30, h31, _⟩ := HBX.out w3 hb3
        have q3 : w3.cell? ⟨w.heap.size, 3, none⟩ = some (.int .i64 most) := (cells_of_heap h30).1 3 _ rfl
        have r0 : w3.cell? ⟨w.heap.size + 1, 0, none⟩ = some (.slice none 0 0) := (cells_of_heap h31).1 0 _ rfl
        have r1 : w3.cell? ⟨w.heap.size + 1, 1, none⟩ = some (.bool false) := (cells_of_heap h31).1 1 _ rfl
        have r2 : w3.cell? ⟨w.heap.size + 1, 2, none⟩ = some (.string ⟨#[]⟩) := (cells_of_heap h31).1 2 _ rfl
        have r3 : w3.cell? ⟨w.heap.size + 1, 3, none⟩ = some (.int .i64 0) := (cells_of_heap h31).1 3 _ rfl
        have z0 : w3.frozen? ⟨w.heap.size + 1, 0, none⟩ = false := (cells_of_heap h31).2 0
        have z1 : w3.frozen? ⟨w.heap.size + 1, 1, none⟩ = false := (cells_of_heap h31).2 1
        have z2 : w3.frozen? ⟨w.heap.size + 1, 2, none⟩ = false := (cells_of_heap h31).2 2
        have z3 : w3.frozen? ⟨w.heap.size + 1, 3, none⟩ = false := (cells_of_heap h31).2 3
        have H31 := Lib.hid h31; clear h31 h30
        have HB3 := Lib.hid hb3; clear hb3
        go_wp2
        (try simp only [Exit.inBlock, Exit.then])
        have h61 := heap_set (heap_set (heap_set (heap_set H31.out 0 (.slice none 0 0)) 1 (.bool false)) 2 (.string ⟨#[]⟩)) 3 (.int .i64 0)
        refine bodyPost_ret (ret_pair rfl _ _ (w.heap.size + 1) _ _ _ _ rfl h61 Tryz.underlying41 rfl (by kernel_rfl)) rfl ?_
        refine rpg_nil ?_ (HEnd.out _ _ _ _ _ HB3.out)
        unfold RTells
        rw [if_neg (by rw [HOK.out]; simp), if_pos HOA.out]
        exact ⟨rfl, rfl, rfl, rfl, rfl⟩
    | true =>
      have hmo : 1 ≤ most ∧ most ≤ 1000 := by
        unfold okA at hoa
        exact of_decide_eq_true hoa
      obtain ⟨hm1, hm2⟩ := hmo
      clear hoa
      by_cases hin : b ∈ B
      · have dm : decide (b ∈ B) = true := decide_eq_true hin
        rw [dm] at HTh
        have HIN := Lib.hid hin
        clear dm hin
        cases vs with
        | true =>
          rw [if_pos rfl] at HPg
          go_enter Tryz.func46, Tryz.ntmps46
          go_wp2_with fail
          rw [show (w.alloc (.cells #[.string pre, .string fr, .int .i64 fid, .int .i64 most] 32)).alloc (.cells #[.slice none 0 0, .bool false, .string ⟨#[]⟩, .int .i64 0] 41) = w2 from HW.out]
          refine HBk.out.mono ?_
          rintro e w3 ⟨rfl, hb3⟩
          obtain ⟨h30, _, _⟩ := HBX.out w3 hb3
          have q3 : w3.cell? ⟨w.heap.size, 3, none⟩ = some (.int .i64 most) := (cells_of_heap h30).1 3 _ rfl
          have HB3 := Lib.hid hb3
          clear hb3 h30
          go_wp2_with fail
          refine (HTh.out _ HB3.out).mono ?_
          rintro e w4 ⟨rfl, hb4⟩
          have HB4 := Lib.hid hb4
          clear q3 HB3
          go_wp2_with fail
          have HAk : Hid (∀ V, Below w2.heap.size w2 V → V.cell? ⟨w.heap.size, 0, none⟩ = some (.string pre) ∧ V.cell? ⟨w.heap.size, 1, none⟩ = some (.string fr) ∧ V.cell? ⟨w.heap.size, 2, none⟩ = some (.int .i64 fid) ∧ V.cell? ⟨w.heap.size, 3, none⟩ = some (.int .i64 most)) := fun V hV => by
            obtain ⟨h30, _, _⟩ := HBX.out V hV
            exact ⟨(cells_of_heap h30).1 0 _ rfl, (cells_of_heap h30).1 1 _ rfl, (cells_of_heap h30).1 2 _ rfl, (cells_of_heap h30).1 3 _ rfl⟩
          have hb4d : Below w2.heap.size w2 w4.drew := hb4.drew
          go_region_held3 (fun V => V.cell? ⟨w.heap.size, 0, none⟩ = some (.string pre) ∧ V.cell? ⟨w.heap.size, 1, none⟩ = some (.string fr) ∧ V.cell? ⟨w.heap.size, 2, none⟩ = some (.int .i64 fid) ∧ V.cell? ⟨w.heap.size, 3, none⟩ = some (.int .i64 most)) (first | exact HAk.out _ hb4d | exact HAk.out _ hb5 | exact HAk.out _ hb6 | exact ⟨k0, k1, k2, k3⟩ | go_keep) (first
            | (go_at_call 73; refine (HEn.out _ hb4d).mono ?_; intro e w5 hre; obtain ⟨⟨v5, l5, rfl, hp5, hs5, hr5, _⟩, hb5a⟩ := hre; have hb5 : Below w2.heap.size w2 w5 := hb4d.trans (hb5a.mono hb4d.size); have HP5 := Lib.hid (HPg.out w5 v5 l5 HOA.out hr5 hp5); clear hp5 hs5 hr5 hb5a)
            | (go_at_call 72; refine HP5.out.mono ?_; intro e w6 hpg; obtain ⟨sv, o6, mo6, ke6, ci6, er6, rfl, hr6, hf6, hb6a, he6, hres6⟩ := hpg; have hb6 : Below w2.heap.size w2 w6 := hb5.trans (hb6a.mono hb5.size); have HF6 : Hid (∀ b f n c, sv = .slice (some ⟨b, f, none⟩) n c → w.heap.size + 2 ≤ b) := (fun b f n c h => by have h1 := hf6 b f n c h; have h2 := hb5.size; have h3 := HS2.out; omega); obtain ⟨p6, c6, hsv, _⟩ := len_of_row hr6; subst hsv; subst he6; have HR6 := Lib.hid hr6; have HX6 := Lib.hid hres6; have h31 := (HBX.out w6 hb6).2.1; have r0 : w6.cell? ⟨w.heap.size + 1, 0, none⟩ = some (.slice none 0 0) := (cells_of_heap h31).1 0 _ rfl; have r1 : w6.cell? ⟨w.heap.size + 1, 1, none⟩ = some (.bool false) := (cells_of_heap h31).1 1 _ rfl; have r2 : w6.cell? ⟨w.heap.size + 1, 2, none⟩ = some (.string ⟨#[]⟩) := (cells_of_heap h31).1 2 _ rfl; have r3 : w6.cell? ⟨w.heap.size + 1, 3, none⟩ = some (.int .i64 0) := (cells_of_heap h31).1 3 _ rfl; have z0 : w6.frozen? ⟨w.heap.size + 1, 0, none⟩ = false := (cells_of_heap h31).2 0; have z1 : w6.frozen? ⟨w.heap.size + 1, 1, none⟩ = false := (cells_of_heap h31).2 1; have z2 : w6.frozen? ⟨w.heap.size + 1, 2, none⟩ = false := (cells_of_heap h31).2 2; have z3 : w6.frozen? ⟨w.heap.size + 1, 3, none⟩ = false := (cells_of_heap h31).2 3; have H31 := Lib.hid h31; obtain ⟨k0, k1, k2, k3⟩ := HAk.out _ hb6; clear hr6 hf6 hb6a hres6 h31))
          all_goals
            go_wp2
            (try simp only [Exit.inBlock, Exit.then])
            have h61 := heap_set (heap_set (heap_set (heap_set H31.out 0 (.slice p6 o6.length c6)) 1 (.bool mo6)) 2 (.string ke6)) 3 (.int .i64 ci6)
            refine bodyPost_ret (ret_pair rfl _ _ (w.heap.size + 1) _ _ _ _ rfl h61 Tryz.underlying41 rfl (by kernel_rfl)) rfl ?_
            refine ⟨⟨p6, _, c6, mo6, ke6, ci6, 0, o6, rfl, rowE_set (rowE_set (rowE_set (rowE_set HR6.out (fun b f n c h => by have := HF6.out b f n c h; omega) _ _) (fun b f n c h => by have := HF6.out b f n c h; omega) _ _) (fun b f n c h => by have := HF6.out b f n c h; omega) _ _) (fun b f n c h => by have := HF6.out b f n c h; omega) _ _, fun b f n c h => by have := HF6.out b f n c h; omega, ?_⟩, HEnd.out _ _ _ _ _ hb6⟩
            unfold RTells
            rw [if_neg (by rw [HOK.out]; simp), if_neg (by rw [HOA.out]; simp), if_neg (fun e => e HIN.out)]
            exact ⟨rfl, HX6.out⟩
        | false =>
          rw [if_neg (by decide)] at HPg
          go_enter Tryz.func46, Tryz.ntmps46
          go_wp2_with fail
          rw [show (w.alloc (.cells #[.string pre, .string fr, .int .i64 fid, .int .i64 most] 32)).alloc (.cells #[.slice none 0 0, .bool false, .string ⟨#[]⟩, .int .i64 0] 41) = w2 from HW.out]
          refine HBk.out.mono ?_
          rintro e w3 ⟨rfl, hb3⟩
          obtain ⟨h30, _, _⟩ := HBX.out w3 hb3
          have q3 : w3.cell? ⟨w.heap.size, 3, none⟩ = some (.int .i64 most) := (cells_of_heap h30).1 3 _ rfl
          have HB3 := Lib.hid hb3
          clear hb3 h30
          go_wp2_with fail
          refine (HTh.out _ HB3.out).mono ?_
          rintro e w4 ⟨rfl, hb4⟩
          have HB4 := Lib.hid hb4
          clear q3 HB3
          go_wp2_with fail
          have HAk : Hid (∀ V, Below w2.heap.size w2 V → V.cell? ⟨w.heap.size, 0, none⟩ = some (.string pre) ∧ V.cell? ⟨w.heap.size, 1, none⟩ = some (.string fr) ∧ V.cell? ⟨w.heap.size, 2, none⟩ = some (.int .i64 fid) ∧ V.cell? ⟨w.heap.size, 3, none⟩ = some (.int .i64 most)) := fun V hV => by
            obtain ⟨h30, _, _⟩ := HBX.out V hV
            exact ⟨(cells_of_heap h30).1 0 _ rfl, (cells_of_heap h30).1 1 _ rfl, (cells_of_heap h30).1 2 _ rfl, (cells_of_heap h30).1 3 _ rfl⟩
          have hb4d : Below w2.heap.size w2 w4.drew := hb4.drew
          go_region_held3 (fun V => V.cell? ⟨w.heap.size, 0, none⟩ = some (.string pre) ∧ V.cell? ⟨w.heap.size, 1, none⟩ = some (.string fr) ∧ V.cell? ⟨w.heap.size, 2, none⟩ = some (.int .i64 fid) ∧ V.cell? ⟨w.heap.size, 3, none⟩ = some (.int .i64 most)) (first | exact HAk.out _ hb4d | exact HAk.out _ hb5 | exact HAk.out _ hb6 | exact ⟨k0, k1, k2, k3⟩ | go_keep) (first
            | (go_at_call 73; refine (HEn.out _ hb4d).mono ?_; intro e w5 hre; obtain ⟨⟨v5, l5, rfl, hp5, hs5, hr5, _⟩, hb5a⟩ := hre; have hb5 : Below w2.heap.size w2 w5 := hb4d.trans (hb5a.mono hb4d.size); have HP5 := Lib.hid (HPg.out w5 v5 l5 HOA.out hr5 hp5); clear hp5 hs5 hr5 hb5a)
            | (go_at_call 74; refine HP5.out.mono ?_; intro e w6 hpg; obtain ⟨sv, o6, mo6, ke6, ci6, er6, rfl, hr6, hf6, hb6a, he6, hres6⟩ := hpg; have hb6 : Below w2.heap.size w2 w6 := hb5.trans (hb6a.mono hb5.size); have HF6 : Hid (∀ b f n c, sv = .slice (some ⟨b, f, none⟩) n c → w.heap.size + 2 ≤ b) := (fun b f n c h => by have h1 := hf6 b f n c h; have h2 := hb5.size; have h3 := HS2.out; omega); obtain ⟨p6, c6, hsv, _⟩ := len_of_row hr6; subst hsv; subst he6; have HR6 := Lib.hid hr6; have HX6 := Lib.hid hres6; have h31 := (HBX.out w6 hb6).2.1; have r0 : w6.cell? ⟨w.heap.size + 1, 0, none⟩ = some (.slice none 0 0) := (cells_of_heap h31).1 0 _ rfl; have r1 : w6.cell? ⟨w.heap.size + 1, 1, none⟩ = some (.bool false) := (cells_of_heap h31).1 1 _ rfl; have r2 : w6.cell? ⟨w.heap.size + 1, 2, none⟩ = some (.string ⟨#[]⟩) := (cells_of_heap h31).1 2 _ rfl; have r3 : w6.cell? ⟨w.heap.size + 1, 3, none⟩ = some (.int .i64 0) := (cells_of_heap h31).1 3 _ rfl; have z0 : w6.frozen? ⟨w.heap.size + 1, 0, none⟩ = false := (cells_of_heap h31).2 0; have z1 : w6.frozen? ⟨w.heap.size + 1, 1, none⟩ = false := (cells_of_heap h31).2 1; have z2 : w6.frozen? ⟨w.heap.size + 1, 2, none⟩ = false := (cells_of_heap h31).2 2; have z3 : w6.frozen? ⟨w.heap.size + 1, 3, none⟩ = false := (cells_of_heap h31).2 3; have H31 := Lib.hid h31; obtain ⟨k0, k1, k2, k3⟩ := HAk.out _ hb6; clear hr6 hf6 hb6a hres6 h31))
          all_goals
            go_wp2
            (try simp only [Exit.inBlock, Exit.then])
            have h61 := heap_set (heap_set (heap_set (heap_set H31.out 0 (.slice p6 o6.length c6)) 1 (.bool mo6)) 2 (.string ke6)) 3 (.int .i64 ci6)
            refine bodyPost_ret (ret_pair rfl _ _ (w.heap.size + 1) _ _ _ _ rfl h61 Tryz.underlying41 rfl (by kernel_rfl)) rfl ?_
            refine ⟨⟨p6, _, c6, mo6, ke6, ci6, 0, o6, rfl, rowE_set (rowE_set (rowE_set (rowE_set HR6.out (fun b f n c h => by have := HF6.out b f n c h; omega) _ _) (fun b f n c h => by have := HF6.out b f n c h; omega) _ _) (fun b f n c h => by have := HF6.out b f n c h; omega) _ _) (fun b f n c h => by have := HF6.out b f n c h; omega) _ _, fun b f n c h => by have := HF6.out b f n c h; omega, ?_⟩, HEnd.out _ _ _ _ _ hb6⟩
            unfold RTells
            rw [if_neg (by rw [HOK.out]; simp), if_neg (by rw [HOA.out]; simp), if_neg (fun e => e HIN.out)]
            exact ⟨rfl, HX6.out⟩
      · have dm : decide (b ∈ B) = false := decide_eq_false hin
        rw [dm] at HTh
        have HIN := Lib.hid hin
        clear dm hin HPg
        go_enter Tryz.func46, Tryz.ntmps46
        go_wp2_with fail
        rw [show (w.alloc (.cells #[.string pre, .string fr, .int .i64 fid, .int .i64 most] 32)).alloc (.cells #[.slice none 0 0, .bool false, .string ⟨#[]⟩, .int .i64 0] 41) = w2 from HW.out]
        refine HBk.out.mono ?_
        rintro e w3 ⟨rfl, hb3⟩
        obtain ⟨h30, _, _⟩ := HBX.out w3 hb3
        have q3 : w3.cell? ⟨w.heap.size, 3, none⟩ = some (.int .i64 most) := (cells_of_heap h30).1 3 _ rfl
        have HB3 := Lib.hid hb3
        clear hb3 h30
        go_wp2_with fail
        refine (HTh.out _ HB3.out).mono ?_
        rintro e w4 ⟨rfl, hb4⟩
        obtain ⟨_, h31, _⟩ := HBX.out w4 hb4
        have r0 : w4.cell? ⟨w.heap.size + 1, 0, none⟩ = some (.slice none 0 0) := (cells_of_heap h31).1 0 _ rfl
        have r1 : w4.cell? ⟨w.heap.size + 1, 1, none⟩ = some (.bool false) := (cells_of_heap h31).1 1 _ rfl
        have r2 : w4.cell? ⟨w.heap.size + 1, 2, none⟩ = some (.string ⟨#[]⟩) := (cells_of_heap h31).1 2 _ rfl
        have r3 : w4.cell? ⟨w.heap.size + 1, 3, none⟩ = some (.int .i64 0) := (cells_of_heap h31).1 3 _ rfl
        have z0 : w4.frozen? ⟨w.heap.size + 1, 0, none⟩ = false := (cells_of_heap h31).2 0
        have z1 : w4.frozen? ⟨w.heap.size + 1, 1, none⟩ = false := (cells_of_heap h31).2 1
        have z2 : w4.frozen? ⟨w.heap.size + 1, 2, none⟩ = false := (cells_of_heap h31).2 2
        have z3 : w4.frozen? ⟨w.heap.size + 1, 3, none⟩ = false := (cells_of_heap h31).2 3
        have H31 := Lib.hid h31; clear h31
        have HB4 := Lib.hid hb4; clear hb4 q3
        go_wp2
        (try simp only [Exit.inBlock, Exit.then])
        have h61 := heap_set (heap_set (heap_set (heap_set H31.out 0 (.slice none 0 0)) 1 (.bool false)) 2 (.string ⟨#[]⟩)) 3 (.int .i64 0)
        refine bodyPost_ret (ret_pair rfl _ _ (w.heap.size + 1) _ _ _ _ rfl h61 Tryz.underlying41 rfl (by kernel_rfl)) rfl ?_
        refine rpg_nil ?_ (HEnd.out _ _ _ _ _ HB4.out)
        unfold RTells
        rw [if_neg (by rw [HOK.out]; simp), if_neg (by rw [HOA.out]; simp), if_pos HIN.out]
        exact ⟨rfl, rfl, rfl, rfl, rfl⟩
end Go.Proofs.YtjbjcfnbgcloiaaGreatDoor
