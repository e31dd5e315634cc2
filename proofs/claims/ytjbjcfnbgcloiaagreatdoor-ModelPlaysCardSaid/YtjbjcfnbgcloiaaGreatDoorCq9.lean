/- page.cut: merged (pgm.py). -/
import Derived.Test.YtjbjcfnbgcloiaaGreatDoorCq8
import Derived.Deep.AppendLies
import Derived.Laws.ResultCell
import Derived.Test.YtjbjcfnbgcloiaaGreatDoorLaysB
set_option linter.unusedSimpArgs false
set_option linter.unusedVariables false

namespace Go.Proofs.YtjbjcfnbgcloiaaGreatDoor
open Go.Shelf Go.RowKit Go.Lib Nam

def selE (p : Ent → Bool) (q : AskV) (l : List Ent) : List Ent := l.filter fun x => prefixB x.key.data.toList q.pre.data.toList && p x
def cutKey (n : Nat) (f : List Ent) : ByteArray := if n < f.length then (f.getD (n - 1) default).key else ⟨#[]⟩
def cutId (n : Nat) (f : List Ent) : Int := if n < f.length then (f.getD (n - 1) default).id else 0
theorem infoE : (Tryz.prog.info? 111).map (fun i => (i.zero, i.size, i.bytes)) = some (some (.agg #[.string ⟨#[]⟩, .int .i64 0, .bool false, .int .i64 0, .int .u32 0, .bool false]), 6, 56) := by kernel_rfl
theorem ret_pair {P : Program} {fn : Func} {p u : Tmp} {ty : TypeId} (h : fn.results = #[.cell p ty, .tmp u]) (tmps : Array Value) (w : World) (g : Nat) (t : TypeId) (cs : Array Value) (fr : Nat × Nat) (d : TypeDesc)
    (hp : tmps.getD p undef = .pointer (some ⟨g, 0, none⟩)) (hg : w.heap[g]? = some (.cells cs t fr))
    (hu : P.underlying ty = some d) (hd : (match d with | .struct _ | .array _ _ => true | _ => false) = true) (hi : (P.info? ty).map (·.size) = some cs.size) :
    (results fn tmps).run P w = .ok (.tuple #[.agg cs, tmps.getD u undef]) w := by
  rw [results_cell_tmp h, hp]
  simp [asAddr, run_loadVar_row w g t ty cs fr d hg hu hd hi]
theorem rowE_own {W : World} {base : Nat} {sv : Value} {f : List Ent} (h : W.ownsRow base 111 6 sv f.length (f.flatMap encE)) : RowE W sv f ∧ ∀ b o n c, sv = .slice (some ⟨b, o, none⟩) n c → base ≤ b := by
  rcases h.2 with ⟨h1, h2⟩ | ⟨g, cap, cur, h1, h2, h3, _⟩
  · exact ⟨.inl ⟨h1, List.length_eq_zero_iff.1 h2⟩, fun b o n c hh => by rw [h1] at hh; cases hh⟩
  · subst h1
    refine ⟨.inr ⟨g, 0, cap, rfl, (Array.getElem?_eq_some_iff.1 h3).1, fun j u hj => ?_⟩, fun b o n c hh => by cases hh; exact h2⟩
    have hj' : j < f.length * 6 := by rw [← flat_length]; exact (List.getElem?_eq_some_iff.1 hj).1
    rw [Nat.zero_add, h.cellAt j hj']
    exact hj
def CutRel (w w4 : World) (p : Ent → Bool) (q : AskV) (l' : List Ent) (vi : Value) (wr : World) : Prop :=
  ∃ (i : Nat) (sv : Value) (f : List Ent), vi = .int .i64 i ∧ i ≤ l'.length ∧ KeptBut w4.heap.size (w.heap.size + 1 + 1) w4 wr ∧
    wr.heap[w.heap.size + 1 + 1]? = some (.cells #[sv, .bool false, .string ⟨#[]⟩, .int .i64 0] 85 (0, 0)) ∧
    wr.ownsRow w4.heap.size 111 6 sv f.length (f.flatMap encE) ∧ f = selE p q (l'.take i) ∧ f.length ≤ q.most.toNat
set_option maxHeartbeats 4000000 in
set_option maxRecDepth 100000 in
theorem cut_is (p : Ent → Bool) (q : AskV) (a g : Nat) (eg : ∀ args w, (callFunc g args).run Tryz.prog w = .ok (.enter g args) w)
    (hp : ∀ x W, AskAt W a q → Calls Tryz.prog g #[.agg (encE x).toArray, .pointer (some ⟨a, 0, none⟩)] W fun e w' => e = .returned (.bool (p x)) ∧ Below W.heap.size W w')
    (l : List Ent) (hl : l.length ≤ 1000000) (hk : ∀ x ∈ l, x.key.size ≤ maxLen) (hq : q.pre.size ≤ maxLen) (hm : 1 ≤ q.most ∧ q.most ≤ 1000) (v : Value) (w : World) (hv : RowE w v l) (ha : AskAt w a q) :
    Calls Tryz.prog 88 #[v, .agg (encA q).toArray, .func (.func g) #[] #[.pointer (some ⟨a, 0, none⟩)]] w fun e w' =>
      ∃ l' sv, l'.Perm l ∧ SortedE l' ∧ RowE w' sv ((selE p q l').take q.most.toNat) ∧ (∀ b o n c, sv = .slice (some ⟨b, o, none⟩) n c → w.heap.size ≤ b) ∧ Below w.heap.size w w' ∧
        e = .returned (.tuple #[.agg #[sv, .bool (decide (q.most.toNat < (selE p q l').length)), .string (cutKey q.most.toNat (selE p q l')), .int .i64 (cutId q.most.toNat (selE p q l'))], .int .i64 0]) := by
  obtain ⟨pre, fr, fid, most⟩ := q
  obtain ⟨i0, hi, hz0, hz1, hz2⟩ := info_parts infoE
  unfold encA
  have HP := Lib.hid hp; clear hp
  have HA := Lib.hid ha; clear ha
  have HV := Lib.hid hv; clear hv
  have HK := Lib.hid hk; clear hk
  obtain ⟨hm1, hm2⟩ := hm
  simp only [] at hm1 hm2 hq
  go_enter Tryz.func88, Tryz.ntmps88
  go_wp2_with fail
  generalize hw3 : (((w.alloc _).alloc _).alloc _) = w3
  have s3 : w3.heap.size = w.heap.size + 3 := by rw [← hw3]; simp
  have hb3 : Below w.heap.size w w3 := by
    rw [← hw3]
    exact (((Below.refl _ _).alloc (Nat.le_refl _) _).alloc (by simp) _).alloc (by simp; omega) _
  have h30 : w3.heap[w.heap.size]? = some (.cells #[.string pre, .string fr, .int .i64 fid, .int .i64 most] 88 (0, 0)) := by
    rw [← hw3, heap_alloc_old _ _ (by simp; omega), heap_alloc_old _ _ (by simp), heap_alloc_new]
  have h31 : w3.heap[w.heap.size + 1]? = some (.cells #[.slice none 0 0, .bool false, .string ⟨#[]⟩, .int .i64 0] 85 (0, 0)) := by
    rw [← hw3, heap_alloc_old _ _ (by simp)]
    have := heap_alloc_new (w.alloc (.cells #[.string pre, .string fr, .int .i64 fid, .int .i64 most] 88)) (.cells #[.slice none 0 0, .bool false, .string ⟨#[]⟩, .int .i64 0] 85)
    simpa using this
  have h32 : w3.heap[w.heap.size + 1 + 1]? = some (.cells #[.slice none 0 0, .bool false, .string ⟨#[]⟩, .int .i64 0] 85 (0, 0)) := by
    rw [← hw3]
    have := heap_alloc_new ((w.alloc (.cells #[.string pre, .string fr, .int .i64 fid, .int .i64 most] 88)).alloc (.cells #[.slice none 0 0, .bool false, .string ⟨#[]⟩, .int .i64 0] 85)) (.cells #[.slice none 0 0, .bool false, .string ⟨#[]⟩, .int .i64 0] 85)
    simpa using this
  clear hw3
  refine (psort_is l hl v w3 (HV.out.below hb3)).mono ?_
  rintro e w4 ⟨v4, l', rfl, hR, hperm, hsort, hfresh, hb4⟩
  have hs4 := hb4.size
  have h40 : w4.heap[w.heap.size]? = _ := (hb4.block _ (by omega)).trans h30
  have h41 : w4.heap[w.heap.size + 1]? = _ := (hb4.block _ (by omega)).trans h31
  have h42 : w4.heap[w.heap.size + 1 + 1]? = _ := (hb4.block _ (by omega)).trans h32
  have hbw4 : Below w.heap.size w w4 := hb3.trans (hb4.mono (by omega))
  obtain ⟨pp, cc, rfl, hrow⟩ := len_of_row hR
  have hll : l'.length = l.length := hperm.length_eq
  have HROW := Lib.hid hrow; clear hrow
  have H40 := Lib.hid h40; clear h40
  have H41 := Lib.hid h41; clear h41
  have HPM := Lib.hid hperm; clear hperm
  have HSO := Lib.hid hsort; clear hsort
  have HFR := Lib.hid hfresh; clear hfresh
  have HLL : l'.length ≤ 1000000 := by omega
  clear h30 h31 h32 hR hll
  have HB4 := Lib.hid hb4; clear hb4
  have HS3 := Lib.hid s3
  have hs4' : w.heap.size + 3 ≤ w4.heap.size := by omega
  clear s3
  go_wp2_with fail
  have hbox : ∀ W : World, KeptBut w4.heap.size (w.heap.size + 1 + 1) w4 W → W.cell? ⟨w.heap.size, 0, none⟩ = some (.string pre) ∧ W.cell? ⟨w.heap.size, 3, none⟩ = some (.int .i64 most) := fun W hK => by
    have h1 := (cells_of_heap H40.out).1
    have hs := HS3.out
    exact ⟨by rw [hK.cell (p := ⟨w.heap.size, 0, none⟩) (by show w.heap.size < _; omega) (by show w.heap.size ≠ _; omega)]; exact h1 0 _ rfl,
      by rw [hK.cell (p := ⟨w.heap.size, 3, none⟩) (by show w.heap.size < _; omega) (by show w.heap.size ≠ _; omega)]; exact h1 3 _ rfl⟩
  have hask : ∀ W : World, KeptBut w4.heap.size (w.heap.size + 1 + 1) w4 W → AskAt W a ⟨pre, fr, fid, most⟩ := fun W hK => by
    have hb := hK.toBelow hbw4 (by omega) (by omega)
    have h := HA.out
    exact ⟨Nat.lt_of_lt_of_le h.lt hb.size, by rw [hb.cell (p := ⟨a, 0, none⟩) h.lt]; exact h.pre, by rw [hb.cell (p := ⟨a, 1, none⟩) h.lt]; exact h.fr,
      by rw [hb.cell (p := ⟨a, 2, none⟩) h.lt]; exact h.fid, by rw [hb.cell (p := ⟨a, 3, none⟩) h.lt]; exact h.most⟩
  have HBOX := Lib.hid hbox; clear hbox
  have HASK := Lib.hid hask; clear hask
  go_loopw [24] (fun vi wr => CutRel w w4 p ⟨pre, fr, fid, most⟩ l' vi wr) (fun vi _ => l'.length - (intOf vi).toNat)
  case atStart => exact ⟨0, .slice none 0 0, [], rfl, Nat.zero_le _, KeptBut.refl _ _ _, h42, ⟨rfl, .inl ⟨rfl, rfl⟩⟩, by rw [List.take_zero]; rfl, Nat.zero_le _⟩
  case round =>
    clear h42
    obtain ⟨i, sv, f, rfl, hi', K, h8, hown, hf, hfm⟩ := hrel
    by_cases hpi : i < l'.length
    · have hpz : (i : Int) < (l'.length : Int) := by omega
      obtain ⟨b, o, rfl, hbl, hc⟩ := HROW.out (by omega)
      have hb8 : b ≠ w.heap.size + 1 + 1 := by
        have h1 := HFR.out b o _ _ rfl
        have h2 := HS3.out
        omega
      obtain ⟨a0, a1, a2, a3, a4, a5⟩ := at_of (W := wr) (fun j u hj => by rw [K.cell (p := ⟨b, o + j, none⟩) hbl hb8]; exact hc j u hj) i hpi
      clear hc
      have hmem := l'.getElem_mem hpi
      have hks := HK.out _ (HPM.out.subset hmem)
      have htk : l'.take (i + 1) = l'.take i ++ [l'[i]] := List.take_succ_eq_append_getElem hpi
      obtain ⟨x, hx⟩ : ∃ x, l'[i] = x := ⟨_, rfl⟩
      rw [hx] at a0 a1 a2 a3 a4 a5 hks htk
      have HTK := Lib.hid htk; clear htk
      clear hx hmem
      have hwr : w4.heap.size ≤ wr.heap.size := K.size
      have cP : ∀ o, (wr.alloc o).cell? ⟨w.heap.size, 0, none⟩ = some (.string pre) := fun o => (HBOX.out _ (K.alloc hwr o)).1
      obtain ⟨pb, hpb⟩ : ∃ b, prefixB x.key.data.toList pre.data.toList = b := ⟨_, rfl⟩
      have cpre : ∀ W : World, Calls Tryz.prog 99 #[.string x.key, .string pre] W fun e w' => e = .returned (.bool pb) ∧ W = w' := fun W => by rw [← hpb]; exact prefix_is _ _ W hks hq
      have CPRE := Lib.hid cpre; clear cpre
      have HPB := Lib.hid hpb; clear hpb
      have hsel : Hid (selE p ⟨pre, fr, fid, most⟩ (l'.take (i + 1)) = f ++ (if (pb && p x) = true then [x] else [])) := by
        show _ = _
        rw [HTK.out, hf]
        unfold selE
        rw [List.filter_append]
        congr 1
        rw [List.filter_cons, HPB.out]
        rfl
      cases pb
      · go_wp2_with (go_at_call 99; refine (CPRE.out _).mono ?_; rintro e w' ⟨rfl, rfl⟩)
        go_roundw
        case rel => exact ⟨i + 1, sv, f, by go_num, by omega, K.alloc hwr _, by rw [heap_alloc_old _ _ (by omega)]; exact h8, hown.alloc _, by rw [hsel.out]; simp, hfm⟩
        case measure => simp [intOf]; omega
      · go_wp2_with (go_at_call 99; refine (CPRE.out _).mono ?_; rintro e w' ⟨rfl, rfl⟩)
        refine (HP.out x _ (HASK.out _ (K.alloc hwr _))).mono ?_
        rintro e w6 ⟨rfl, hb6⟩
        have hE : w6.heap[wr.heap.size]? = _ := (hb6.block wr.heap.size (by simp)).trans (heap_alloc_new wr _)
        have K6 := (K.alloc hwr _).below (by simp; omega) hb6
        have h86 : w6.heap[w.heap.size + 1 + 1]? = _ := (hb6.block _ (by simp; omega)).trans ((heap_alloc_old _ _ (by omega)).trans h8)
        have hown6 := (hown.alloc _).kept (row := none) ⟨hb6.os, hb6.tape, hb6.output, hb6.size, fun k hk _ => hb6.block k hk⟩ (by cases sv.ownBlock <;> simp)
        have hw6 : w4.heap.size ≤ w6.heap.size := K6.size
        have hws : wr.heap.size < w6.heap.size := by have := hb6.size; simp at this; omega
        have cE := (cells_of_heap hE).1
        have e0 := cE 0 _ rfl
        have e1 := cE 1 _ rfl
        have e2 := cE 2 _ rfl
        have e3 := cE 3 _ rfl
        have e4 := cE 4 _ rfl
        have e5 := cE 5 _ rfl
        have c80 := (cells_of_heap h86).1 0 _ rfl
        have cM := (HBOX.out _ K6).2
        clear cE hE hb6 K h8 hown cP a0 a1 a2 a3 a4 a5
        obtain ⟨px, hpx⟩ : ∃ b, p x = b := ⟨_, rfl⟩
        rw [hpx] at hsel ⊢
        clear hpx
        cases px
        · go_wp2_with fail
          go_roundw
          case rel => exact ⟨i + 1, sv, f, by go_num, by omega, K6, h86, hown6, by rw [hsel.out]; simp, hfm⟩
          case measure => simp [intOf]; omega
        · have hfs : selE p ⟨pre, fr, fid, most⟩ (l'.take (i + 1)) = f ++ [x] := by rw [hsel.out]; simp
          have HFS := Lib.hid hfs; clear hfs hsel
          have HF := Lib.hid hf; clear hf
          obtain ⟨ps, cs, rfl⟩ : ∃ ps cs, sv = .slice ps f.length cs := by
            rcases hown6.2 with ⟨h1, h2⟩ | ⟨g1, c1, _, h1, _⟩
            · exact ⟨none, 0, by rw [h1, h2]⟩
            · exact ⟨_, _, h1⟩
          have hsb : ∀ k, (Value.slice ps f.length cs).ownBlock = some k → w4.heap.size ≤ k := fun k hk => (hown6.lt k hk).1
          have HSB := Lib.hid hsb; clear hsb
          change f.length ≤ most.toNat at hfm
          by_cases hfl : f.length < most.toNat
          · have hflz : (f.length : Int) < most := by omega
            have g86 : w.heap.size + 1 + 1 < w6.heap.size := by omega
            go_wp2_with (first
              | (at_builtin; refine wpList_append_lies _ rfl _ _ 39 rfl w4.heap.size 111 i0 _ 6 56 Tryz.underlying39 hi hz0 hz1 hz2 rfl (by omega) (.slice ps f.length cs) f.length (f.flatMap encE) rfl (hown6.alloc _) ⟨w6.heap.size, 0, none⟩ 1 1 (encE x) rfl rfl (World.news_of_block (cs := (encE x).toArray) (t := 111) (fr := (0, 0)) (heap_alloc_new w6 _)) (encE_one x) (by omega) (by unfold maxLen; omega) (by omega) (by simp; omega) (w6.heap.size + 1) (by simp) ?_; intro gg cap w7 hown7 hgrow7 hat hlt; have h87 : w7.heap[w.heap.size + 1 + 1]? = _ := (hgrow7.block _ (by simp; omega) (fun e => by have := HSB.out _ e.symm; omega)).trans ((heap_alloc_old _ _ g86).trans h86); have c87 := (cells_of_heap h87).1 0 _ rfl; have f87 := (cells_of_heap h87).2 0))
            go_roundw
            case rel =>
              refine ⟨i + 1, .slice (some ⟨gg, 0, none⟩) (f.length + 1) cap, f ++ [x], by go_num, by omega, ((K6.alloc hw6 _).grown (by simp; omega) hgrow7 HSB.out).setCell 0 _, by have := heap_set h87 0 (.slice (some ⟨gg, 0, none⟩) (f.length + 1) cap); simpa using this, ?_, HFS.out.symm, by simp; omega⟩
              have e1 : (f ++ [x]).length = f.length + 1 := by simp
              have e2 : (f ++ [x]).flatMap encE = f.flatMap encE ++ encE x := by simp
              rw [e1, e2]
              exact ownsRow_setCell_below hown7 (by show w.heap.size + 1 + 1 < _; omega) _
            case measure => simp [intOf]; omega
          · have hmn : most = (f.length : Int) := by omega
            have hf0 : 0 < f.length := by omega
            obtain ⟨g1, rfl⟩ : ∃ g1, ps = some ⟨g1, 0, none⟩ := by
              rcases hown6.2 with ⟨_, h2⟩ | ⟨g1, c1, _, h1, _⟩
              · omega
              · injection h1 with h1 _ _
                exact ⟨g1, h1⟩
            obtain ⟨n1, hn1⟩ : ∃ n1, f.length = n1 + 1 := ⟨f.length - 1, by omega⟩
            have hla := at_of (W := w6) (b := g1) (o := 0) (l := f) (fun j u hj => by
              have hj' : j < f.length * 6 := by rw [← flat_length]; exact (List.getElem?_eq_some_iff.1 hj).1
              rw [Nat.zero_add, hown6.cellAt j hj']; exact hj) n1 (by omega)
            rw [Nat.zero_add] at hla
            obtain ⟨l0, l1, l2, l3, l4, l5⟩ := hla
            have hgd : f.getD n1 default = f[n1]'(by omega) := by rw [List.getD_eq_getElem?_getD, List.getElem?_eq_getElem (by omega)]; rfl
            obtain ⟨y, hy⟩ : ∃ y, f[n1]'(by omega) = y := ⟨_, rfl⟩
            rw [hy] at l0 l1 l2 l3 l4 l5 hgd
            clear hy
            have wm : IntKind.i64.wrap (most - 1) = (n1 : Int) := by rw [IntWalk.i64_in _ (by omega)]; omega
            have nlt : most ≤ (f.length : Int) := by omega
            have nn : (n1 : Int) < (f.length : Int) := by omega
            have HGD := Lib.hid hgd; clear hgd
            have HN1 := Lib.hid hn1; clear hn1
            have HMN := Lib.hid hmn; clear hmn
            have c81 := (cells_of_heap h86).1 1 _ rfl
            have c82 := (cells_of_heap h86).1 2 _ rfl
            have c83 := (cells_of_heap h86).1 3 _ rfl
            have f81 := (cells_of_heap h86).2
            go_wp2_with fail
            have g86 : w.heap.size + 1 + 1 < w6.heap.size := by omega
            have hW9 : ∃ W9, w6.alloc (.cells #[.string y.key, .int .i64 y.id, .bool y.mark, .int .i64 y.size, .int .u32 y.sum, .bool y.latest] 111) = W9 := ⟨_, rfl⟩
            obtain ⟨W9, hW9⟩ := hW9
            rw [hW9]
            have h89 : W9.heap[w.heap.size + 1 + 1]? = some (.cells #[.slice (some ⟨g1, 0, none⟩) f.length cs, .bool false, .string ⟨#[]⟩, .int .i64 0] 85 (0, 0)) := by rw [← hW9]; exact (heap_alloc_old _ _ g86).trans h86
            have K9 : KeptBut w4.heap.size (w.heap.size + 1 + 1) w4 W9 := by rw [← hW9]; exact K6.alloc hw6 _
            have hown9 : W9.ownsRow w4.heap.size 111 6 (.slice (some ⟨g1, 0, none⟩) f.length cs) f.length (f.flatMap encE) := by rw [← hW9]; exact hown6.alloc _
            have hL : W9.heap[w6.heap.size]? = some (.cells #[.string y.key, .int .i64 y.id, .bool y.mark, .int .i64 y.size, .int .u32 y.sum, .bool y.latest] 111 (0, 0)) := by rw [← hW9]; exact heap_alloc_new w6 _
            have m0 : W9.cell? ⟨w6.heap.size, 0, none⟩ = some (.string y.key) := (cells_of_heap hL).1 0 _ rfl
            have m1 : W9.cell? ⟨w6.heap.size, 1, none⟩ = some (.int .i64 y.id) := (cells_of_heap hL).1 1 _ rfl
            have n1' : W9.cell? ⟨w.heap.size + 1 + 1, 1, none⟩ = some (.bool false) := (cells_of_heap h89).1 1 _ rfl
            have n2' : W9.cell? ⟨w.heap.size + 1 + 1, 2, none⟩ = some (.string ⟨#[]⟩) := (cells_of_heap h89).1 2 _ rfl
            have n3' : W9.cell? ⟨w.heap.size + 1 + 1, 3, none⟩ = some (.int .i64 0) := (cells_of_heap h89).1 3 _ rfl
            have o1 : W9.frozen? ⟨w.heap.size + 1 + 1, 1, none⟩ = false := (cells_of_heap h89).2 1
            have o2 : W9.frozen? ⟨w.heap.size + 1 + 1, 2, none⟩ = false := (cells_of_heap h89).2 2
            have o3 : W9.frozen? ⟨w.heap.size + 1 + 1, 3, none⟩ = false := (cells_of_heap h89).2 3
            have q0 : ∀ j u, (W9.setCell ⟨w.heap.size + 1 + 1, j, none⟩ u).cell? ⟨w6.heap.size, 0, none⟩ = some (.string y.key) := fun j u => by
              rw [World.cell?_setCell_other _ _ _ _ (fun h => by injection h with h1 _; omega)]; exact m0
            have q1 : ∀ j u, (W9.setCell ⟨w.heap.size + 1 + 1, j, none⟩ u).cell? ⟨w6.heap.size, 1, none⟩ = some (.int .i64 y.id) := fun j u => by
              rw [World.cell?_setCell_other _ _ _ _ (fun h => by injection h with h1 _; omega)]; exact m1
            have q2 : ∀ j u i u', ((W9.setCell ⟨w.heap.size + 1 + 1, j, none⟩ u).setCell ⟨w.heap.size + 1 + 1, i, none⟩ u').cell? ⟨w6.heap.size, 1, none⟩ = some (.int .i64 y.id) := fun j u i u' => by
              rw [World.cell?_setCell_other _ _ _ _ (fun h => by injection h with h1 _; omega)]; exact q1 j u
            clear hW9 hL
            go_big_region
            obtain ⟨W10, hW10⟩ : ∃ W10, (((W9.setCell ⟨w.heap.size + 1 + 1, 1, none⟩ (.bool true)).setCell ⟨w.heap.size + 1 + 1, 2, none⟩ (.string y.key)).setCell ⟨w.heap.size + 1 + 1, 3, none⟩ (.int .i64 y.id)).drew = W10 := ⟨_, rfl⟩
            rw [hW10]
            have hb8 : w.heap.size + 1 + 1 < w4.heap.size := by omega
            have h10 : W10.heap[w.heap.size + 1 + 1]? = some (.cells #[.slice (some ⟨g1, 0, none⟩) f.length cs, .bool true, .string y.key, .int .i64 y.id] 85 (0, 0)) := by
              rw [← hW10]
              exact heap_set (heap_set (heap_set h89 1 (.bool true)) 2 (.string y.key)) 3 (.int .i64 y.id)
            have K10 : KeptBut w4.heap.size (w.heap.size + 1 + 1) w4 W10 := by
              rw [← hW10]
              exact (((K9.setCell 1 _).setCell 2 _).setCell 3 _).drewN 1
            have hown10 : W10.ownsRow w4.heap.size 111 6 (.slice (some ⟨g1, 0, none⟩) f.length cs) f.length (f.flatMap encE) := by
              rw [← hW10]
              exact ownsRow_setCell_below (ownsRow_setCell_below (ownsRow_setCell_below hown9 (a := ⟨w.heap.size + 1 + 1, 1, none⟩) hb8 (.bool true)) (a := ⟨w.heap.size + 1 + 1, 2, none⟩) hb8 (.string y.key)) (a := ⟨w.heap.size + 1 + 1, 3, none⟩) hb8 (.int .i64 y.id)
            have hF : ∃ r, selE p ⟨pre, fr, fid, most⟩ l' = f ++ x :: r := by
              refine ⟨selE p ⟨pre, fr, fid, most⟩ (l'.drop (i + 1)), ?_⟩
              have h1 : selE p ⟨pre, fr, fid, most⟩ l' = selE p ⟨pre, fr, fid, most⟩ (l'.take (i + 1)) ++ selE p ⟨pre, fr, fid, most⟩ (l'.drop (i + 1)) := by
                conv => lhs; rw [← List.take_append_drop (i + 1) l']
                unfold selE
                rw [List.filter_append]
              rw [h1, HFS.out, List.append_assoc]
              rfl
            obtain ⟨r, hF⟩ := hF
            have HF2 := Lib.hid hF; clear hF
            clear hW10 q0 q1 q2 m0 m1 n1' n2' n3' o1 o2 o3 h89 K9 hown9 l0 l1 l2 l3 l4 l5 e0 e1 e2 e3 e4 e5 c80 cM c81 c82 c83 f81 K6 h86 hown6
            have h6 : W10.heap[w.heap.size + 1]? = some (.cells #[.slice none 0 0, .bool false, .string ⟨#[]⟩, .int .i64 0] 85 (0, 0)) := (K10.block (w.heap.size + 1) (by omega) (by omega)).trans H41.out
            have t0 : W10.cell? ⟨w.heap.size + 1 + 1, 0, none⟩ = some (.slice (some ⟨g1, 0, none⟩) f.length cs) := (cells_of_heap h10).1 0 _ rfl
            have t1 : W10.cell? ⟨w.heap.size + 1 + 1, 1, none⟩ = some (.bool true) := (cells_of_heap h10).1 1 _ rfl
            have t2 : W10.cell? ⟨w.heap.size + 1 + 1, 2, none⟩ = some (.string y.key) := (cells_of_heap h10).1 2 _ rfl
            have t3 : W10.cell? ⟨w.heap.size + 1 + 1, 3, none⟩ = some (.int .i64 y.id) := (cells_of_heap h10).1 3 _ rfl
            have r0 : W10.cell? ⟨w.heap.size + 1, 0, none⟩ = some (.slice none 0 0) := (cells_of_heap h6).1 0 _ rfl
            have r1 : W10.cell? ⟨w.heap.size + 1, 1, none⟩ = some (.bool false) := (cells_of_heap h6).1 1 _ rfl
            have r2 : W10.cell? ⟨w.heap.size + 1, 2, none⟩ = some (.string ⟨#[]⟩) := (cells_of_heap h6).1 2 _ rfl
            have r3 : W10.cell? ⟨w.heap.size + 1, 3, none⟩ = some (.int .i64 0) := (cells_of_heap h6).1 3 _ rfl
            have z0 : W10.frozen? ⟨w.heap.size + 1, 0, none⟩ = false := (cells_of_heap h6).2 0
            have z1 : W10.frozen? ⟨w.heap.size + 1, 1, none⟩ = false := (cells_of_heap h6).2 1
            have z2 : W10.frozen? ⟨w.heap.size + 1, 2, none⟩ = false := (cells_of_heap h6).2 2
            have z3 : W10.frozen? ⟨w.heap.size + 1, 3, none⟩ = false := (cells_of_heap h6).2 3
            go_wp2
            (try simp only [Exit.inBlock, Exit.then])
            have h61 := heap_set (heap_set (heap_set (heap_set h6 0 (.slice (some ⟨g1, 0, none⟩) f.length cs)) 1 (.bool true)) 2 (.string y.key)) 3 (.int .i64 y.id)
            refine bodyPost_ret (ret_pair rfl _ _ (w.heap.size + 1) _ _ _ _ rfl h61 Tryz.underlying85 rfl (by kernel_rfl)) rfl ?_
            have hmf : most.toNat = f.length := by have := HMN.out; omega
            have hnl : most.toNat < (f ++ x :: r).length := by rw [hmf]; simp
            have hb6 : w.heap.size + 1 < w4.heap.size := by omega
            have hown' := ownsRow_setCell_below (ownsRow_setCell_below (ownsRow_setCell_below (ownsRow_setCell_below hown10 (a := ⟨w.heap.size + 1, 0, none⟩) hb6 (.slice (some ⟨g1, 0, none⟩) f.length cs)) (a := ⟨w.heap.size + 1, 1, none⟩) hb6 (.bool true)) (a := ⟨w.heap.size + 1, 2, none⟩) hb6 (.string y.key)) (a := ⟨w.heap.size + 1, 3, none⟩) hb6 (.int .i64 y.id)
            refine ⟨l', .slice (some ⟨g1, 0, none⟩) f.length cs, HPM.out, HSO.out, ?_, ?_, ?_, ?_⟩
            · rw [HF2.out, show (⟨pre, fr, fid, most⟩ : AskV).most.toNat = f.length from hmf, List.take_left]
              exact (rowE_own hown').1
            · intro b o n c h
              exact Nat.le_trans (by omega) ((rowE_own hown10).2 b o n c h)
            · exact ((((K10.toBelow hbw4 (by omega) (by omega)).setCell (p := ⟨w.heap.size + 1, 0, none⟩) (Nat.le_succ _) _).setCell (p := ⟨w.heap.size + 1, 1, none⟩) (Nat.le_succ _) _).setCell (p := ⟨w.heap.size + 1, 2, none⟩) (Nat.le_succ _) _).setCell (p := ⟨w.heap.size + 1, 3, none⟩) (Nat.le_succ _) _
            · rw [HF2.out]
              unfold cutKey cutId
              have hg : (f ++ x :: r).getD (most.toNat - 1) default = y := by
                have h0 := HN1.out
                rw [← HGD.out, hmf, show f.length - 1 = n1 by omega, List.getD_eq_getElem?_getD, List.getElem?_append_left (by omega), ← List.getD_eq_getElem?_getD]
              rw [if_pos hnl, if_pos hnl, decide_eq_true hnl, hg]
              rfl
    · have hpz : (l'.length : Int) ≤ (i : Int) := by omega
      have hil : i = l'.length := by omega
      have hF : selE p ⟨pre, fr, fid, most⟩ l' = f := by rw [hf, hil, List.take_length]
      obtain ⟨ps, cs, rfl⟩ : ∃ ps cs, sv = .slice ps f.length cs := by
        rcases hown.2 with ⟨h1, h2⟩ | ⟨g1, c1, _, h1, _⟩
        · exact ⟨none, 0, by rw [h1, h2]⟩
        · exact ⟨_, _, h1⟩
      have h6 : wr.heap[w.heap.size + 1]? = some (.cells #[.slice none 0 0, .bool false, .string ⟨#[]⟩, .int .i64 0] 85 (0, 0)) := (K.block (w.heap.size + 1) (by omega) (by omega)).trans H41.out
      have t0 : wr.cell? ⟨w.heap.size + 1 + 1, 0, none⟩ = some (.slice ps f.length cs) := (cells_of_heap h8).1 0 _ rfl
      have t1 : wr.cell? ⟨w.heap.size + 1 + 1, 1, none⟩ = some (.bool false) := (cells_of_heap h8).1 1 _ rfl
      have t2 : wr.cell? ⟨w.heap.size + 1 + 1, 2, none⟩ = some (.string ⟨#[]⟩) := (cells_of_heap h8).1 2 _ rfl
      have t3 : wr.cell? ⟨w.heap.size + 1 + 1, 3, none⟩ = some (.int .i64 0) := (cells_of_heap h8).1 3 _ rfl
      have r0 : wr.cell? ⟨w.heap.size + 1, 0, none⟩ = some (.slice none 0 0) := (cells_of_heap h6).1 0 _ rfl
      have r1 : wr.cell? ⟨w.heap.size + 1, 1, none⟩ = some (.bool false) := (cells_of_heap h6).1 1 _ rfl
      have r2 : wr.cell? ⟨w.heap.size + 1, 2, none⟩ = some (.string ⟨#[]⟩) := (cells_of_heap h6).1 2 _ rfl
      have r3 : wr.cell? ⟨w.heap.size + 1, 3, none⟩ = some (.int .i64 0) := (cells_of_heap h6).1 3 _ rfl
      have z0 : wr.frozen? ⟨w.heap.size + 1, 0, none⟩ = false := (cells_of_heap h6).2 0
      have z1 : wr.frozen? ⟨w.heap.size + 1, 1, none⟩ = false := (cells_of_heap h6).2 1
      have z2 : wr.frozen? ⟨w.heap.size + 1, 2, none⟩ = false := (cells_of_heap h6).2 2
      have z3 : wr.frozen? ⟨w.heap.size + 1, 3, none⟩ = false := (cells_of_heap h6).2 3
      have HF := Lib.hid hF; clear hF
      have HIL := Lib.hid hil; clear hil
      have Hf := Lib.hid hf; clear hf
      go_wp2
      (try simp only [Exit.inBlock, Exit.then])
      have h61 := heap_set (heap_set (heap_set (heap_set h6 0 (.slice ps f.length cs)) 1 (.bool false)) 2 (.string ⟨#[]⟩)) 3 (.int .i64 0)
      refine bodyPost_ret (ret_pair rfl _ _ (w.heap.size + 1) _ _ _ _ rfl h61 Tryz.underlying85 rfl (by kernel_rfl)) rfl ?_
      have hnl : ¬ most.toNat < f.length := by omega
      have hrow := rowE_own hown
      have hb6 : w.heap.size + 1 < w4.heap.size := by omega
      have hown' := ownsRow_setCell_below (ownsRow_setCell_below (ownsRow_setCell_below (ownsRow_setCell_below hown (a := ⟨w.heap.size + 1, 0, none⟩) hb6 (.slice ps f.length cs)) (a := ⟨w.heap.size + 1, 1, none⟩) hb6 (.bool false)) (a := ⟨w.heap.size + 1, 2, none⟩) hb6 (.string ⟨#[]⟩)) (a := ⟨w.heap.size + 1, 3, none⟩) hb6 (.int .i64 0)
      refine ⟨l', HPM.out, HSO.out, .slice ps f.length cs, ?_, ?_, ?_, ?_⟩
      · rw [HF.out, List.take_of_length_le (by show f.length ≤ most.toNat; omega)]
        exact (rowE_own hown').1
      · intro b o n c h
        exact Nat.le_trans (by omega) ((rowE_own hown).2 b o n c h)
      · exact ((((K.toBelow hbw4 (by omega) (by omega)).setCell (p := ⟨w.heap.size + 1, 0, none⟩) (Nat.le_succ _) _).setCell (p := ⟨w.heap.size + 1, 1, none⟩) (Nat.le_succ _) _).setCell (p := ⟨w.heap.size + 1, 2, none⟩) (Nat.le_succ _) _).setCell (p := ⟨w.heap.size + 1, 3, none⟩) (Nat.le_succ _) _
      · rw [HF.out]
        unfold cutKey cutId
        rw [if_neg hnl, if_neg hnl, decide_eq_false hnl]
        rfl
end Go.Proofs.YtjbjcfnbgcloiaaGreatDoor

namespace Go.Proofs.YtjbjcfnbgcloiaaGreatDoor
open Go.Shelf Go.RowKit Go.Lib Nam

theorem quiet_any {P : Program} {f : FuncId} {args : Array Value} {w : World} {n : Nat} {v : Value} (h : ∀ W, Calls P f args W fun e w' => e = .returned v ∧ ∃ m, w' = W.drewN m) :
    Calls P f args (w.drewN n) fun e w'' => e = .returned v ∧ ∃ m, w'' = w.drewN m :=
  (h _).mono fun _ _ ⟨he, m, hm⟩ => ⟨he, n + m, by rw [hm, World.drewN_drewN]⟩
theorem encE_all (l : List Ent) : ∀ u ∈ l.flatMap encE, u.oneCell' = true := fun u hu => by
  obtain ⟨x, _, hx⟩ := List.mem_flatMap.1 hu
  exact encE_one x u hx
theorem append_rowE {w : World} {base : Nat} {v : Value} {xs : List Ent} (hown : w.ownsRow base 111 6 v xs.length (xs.flatMap encE)) {x : Value} {l : List Ent} (hx : RowE w x l)
    (hn : xs.length + l.length ≤ 1000000000) (hbase : base ≤ w.heap.size) (ty : TypeId) :
    ∃ v' w', (Builtin.append_ #[39, 39] ty #[v, x]).run Tryz.prog w = .ok v' w' ∧ w'.ownsRow base 111 6 v' (xs ++ l).length ((xs ++ l).flatMap encE) ∧ w.grownBy w' v.ownBlock ∧
      (v'.ownBlock = v.ownBlock ∨ v'.ownBlock = some w.heap.size) := by
  obtain ⟨i0, hi, hz0, hz1, hz2⟩ := info_parts infoE
  rcases hx with ⟨rfl, rfl⟩ | ⟨b, o, cap, rfl, hb, hc⟩
  · refine ⟨v, w, run_append_owned_none (P := Tryz.prog) (w := w) base _ ty _ i0 6 Tryz.underlying39 hi v _ _ hown, by simpa using hown, ⟨rfl, rfl, rfl, Nat.le_refl _, fun _ _ _ => rfl⟩, .inl rfl⟩
  · obtain ⟨v', w', h1, h2, h3, _, h5⟩ := run_append_own_at (P := Tryz.prog) (w := w) base _ ty _ i0 _ 6 56 Tryz.underlying39 hi hz0 hz1 hz2 rfl (by omega) v _ _ hown ⟨b, o, none⟩ l.length cap (l.flatMap encE) (flat_length l)
      (fun j u hj => by rw [Go.WideShapes.add_plain]; exact hc j u hj) (encE_all l) (by unfold maxLen; omega) (by omega) hbase
    refine ⟨v', w', h1, ?_, h3, h5⟩
    rw [List.length_append, List.flatMap_append]
    exact h2
theorem wp_append_rowE {w : World} {o : Oper} {a : Act} {K : Act → World → Prop} {Q : Exit → Act → World → Prop} (s u : Operand)
    (ho : o.op = .call { callee := .builtin .append, args := #[s, u], argTypes := #[39, 39] })
    {base : Nat} {v : Value} {xs : List Ent} (hs : a.eval s = v) (hown : w.ownsRow base 111 6 v xs.length (xs.flatMap encE)) {x : Value} {l : List Ent} (hu : a.eval u = x) (hx : RowE w x l)
    (hn : xs.length + l.length ≤ 1000000000) (hbase : base ≤ w.heap.size)
    (h : ∀ v' w', w'.ownsRow base 111 6 v' (xs ++ l).length ((xs ++ l).flatMap encE) → w.grownBy w' v.ownBlock → (v'.ownBlock = v.ownBlock ∨ v'.ownBlock = some w.heap.size) → K (a.put o.dst v') w') : o.wp Tryz.prog a w K Q := by
  obtain ⟨v', w', hr, h2, h3, h4⟩ := append_rowE hown hx hn hbase o.type
  unfold Oper.wp execOp
  simp only [ho, resolve, invoke, builtin, Sem.run_bind, Sem.run_pure, Result.andThen_ok, List.map_toArray, List.map_cons, List.map_nil, hs, hu, hr]
  exact h v' w' h2 h3 h4
theorem step_append_rowE {w : World} {ops : Array Oper} {o : Oper} {a : Act} {K : Act → World → Prop} {Q : Exit → Act → World → Prop} {E : Prop} (hgd : o.guard = none) (s u : Operand)
    (ho : o.op = .call { callee := .builtin .append, args := #[s, u], argTypes := #[39, 39] })
    {base : Nat} {v : Value} {xs : List Ent} (hs : a.eval s = v) (hown : w.ownsRow base 111 6 v xs.length (xs.flatMap encE)) {x : Value} {l : List Ent} (hu : a.eval u = x) (hx : RowE w x l)
    (hn : xs.length + l.length ≤ 1000000000) (hbase : base ≤ w.heap.size)
    (h : ∀ v' w', w'.ownsRow base 111 6 v' (xs ++ l).length ((xs ++ l).flatMap encE) → w.grownBy w' v.ownBlock → (v'.ownBlock = v.ownBlock ∨ v'.ownBlock = some w.heap.size) → K (a.put o.dst v') w') :
    if Region.wanted o (yielded ops a.tmps) = true then Oper.wp Tryz.prog o a w K Q else E := by
  have hw : Region.wanted o (yielded ops a.tmps) = true := by simp [Region.wanted, hgd]
  rw [if_pos hw]
  exact wp_append_rowE s u ho hs hown hu hx hn hbase h
theorem own_ge {w : World} {base n : Nat} {e : TypeId} {size : Nat} {v : Value} {xs : List Value} (h : w.ownsRow base e size v n xs) : ∀ k, v.ownBlock = some k → base ≤ k := by
  intro k hk
  rcases h.2 with ⟨h1, _⟩ | ⟨g, cap, cur, h1, h2, _⟩
  · subst h1; cases hk
  · subst h1; cases hk; exact h2
end Go.Proofs.YtjbjcfnbgcloiaaGreatDoor

/- page.Objects, page.Versions: merged (pgm.py). -/
namespace Go.Proofs.YtjbjcfnbgcloiaaGreatDoor
open Go.Shelf Go.RowKit Go.Lib Nam

theorem rowE_set {W : World} {sv : Value} {f : List Ent} {g : Nat} (h : RowE W sv f) (hne : ∀ b o n c, sv = .slice (some ⟨b, o, none⟩) n c → b ≠ g) (i : Nat) (u : Value) : RowE (W.setCell ⟨g, i, none⟩ u) sv f := by
  rcases h with h | ⟨b, o, cap, h1, h2, h3⟩
  · exact .inl h
  · refine .inr ⟨b, o, cap, h1, by simpa [World.setCell] using h2, fun j u' hj => ?_⟩
    rw [World.cell?_setCell_other _ _ _ _ (fun e => hne b o _ _ h1 (by injection e with e1 _; exact e1.symm))]
    exact h3 j u' hj
set_option maxHeartbeats 4000000 in
set_option maxRecDepth 100000 in
theorem pvers_is (q : AskV) (l : List Ent) (hl : l.length ≤ 1000000) (hk : ∀ x ∈ l, x.key.size ≤ maxLen) (hq : q.pre.size ≤ maxLen) (hm : 1 ≤ q.most ∧ q.most ≤ 1000) (v : Value) (w : World) (hv : RowE w v l) :
    Calls Tryz.prog 64 #[v, .agg (encA q).toArray] w fun e w' =>
      ∃ l' sv, l'.Perm l ∧ SortedE l' ∧ RowE w' sv ((selE (verB q) q l').take q.most.toNat) ∧ (∀ b o n c, sv = .slice (some ⟨b, o, none⟩) n c → w.heap.size ≤ b) ∧ Below w.heap.size w w' ∧
        e = .returned (.tuple #[.agg #[sv, .bool (decide (q.most.toNat < (selE (verB q) q l').length)), .string (cutKey q.most.toNat (selE (verB q) q l')), .int .i64 (cutId q.most.toNat (selE (verB q) q l'))], .int .i64 0]) := by
  obtain ⟨w2, hw2⟩ : ∃ w2, (w.alloc (.cells (encA q).toArray 88)).alloc (.cells #[.slice none 0 0, .bool false, .string ⟨#[]⟩, .int .i64 0] 85) = w2 := ⟨_, rfl⟩
  have s2 : w2.heap.size = w.heap.size + 2 := by rw [← hw2]; simp
  have hb2 : Below w.heap.size w w2 := by
    rw [← hw2]
    exact ((Below.refl _ _).alloc (Nat.le_refl _) _).alloc (by simp) _
  have h20 : w2.heap[w.heap.size]? = some (.cells (encA q).toArray 88 (0, 0)) := by
    rw [← hw2, heap_alloc_old _ _ (by simp), heap_alloc_new]
  have h21 : w2.heap[w.heap.size + 1]? = some (.cells #[.slice none 0 0, .bool false, .string ⟨#[]⟩, .int .i64 0] 85 (0, 0)) := by
    rw [← hw2]
    have := heap_alloc_new (w.alloc (.cells (encA q).toArray 88)) (.cells #[.slice none 0 0, .bool false, .string ⟨#[]⟩, .int .i64 0] 85)
    simpa using this
  have hat : AskAt w2 w.heap.size q := ⟨by omega, (cells_of_heap h20).1 0 _ rfl, (cells_of_heap h20).1 1 _ rfl, (cells_of_heap h20).1 2 _ rfl, (cells_of_heap h20).1 3 _ rfl⟩
  have hc := cut_is (verB q) q w.heap.size 91 (enters_of Tryz.func91 (by kernel_rfl) rfl) (fun x W h => verB_is q x w.heap.size W h) l hl hk hq hm v w2 (hv.below hb2) hat
  have HC := Lib.hid hc; clear hc
  have HW := Lib.hid hw2; clear hw2
  clear hv hat h20
  obtain ⟨pre, fr, fid, most⟩ := q
  unfold encA at HC HW ⊢
  go_enter Tryz.func64, Tryz.ntmps64
  go_wp2_with fail
  rw [show (w.alloc (.cells #[.string pre, .string fr, .int .i64 fid, .int .i64 most] 88)).alloc (.cells #[.slice none 0 0, .bool false, .string ⟨#[]⟩, .int .i64 0] 85) = w2 from HW.out]
  refine HC.out.mono ?_
  rintro e w3 ⟨l', sv, hpm, hso, hrow, hfr, hb3, rfl⟩
  obtain ⟨F, hF⟩ : ∃ F, selE (verB ⟨pre, fr, fid, most⟩) ⟨pre, fr, fid, most⟩ l' = F := ⟨_, rfl⟩
  have h31 : w3.heap[w.heap.size + 1]? = some (.cells #[.slice none 0 0, .bool false, .string ⟨#[]⟩, .int .i64 0] 85 (0, 0)) := (hb3.block _ (by omega)).trans h21
  have r0 : w3.cell? ⟨w.heap.size + 1, 0, none⟩ = some (.slice none 0 0) := (cells_of_heap h31).1 0 _ rfl
  have r1 : w3.cell? ⟨w.heap.size + 1, 1, none⟩ = some (.bool false) := (cells_of_heap h31).1 1 _ rfl
  have r2 : w3.cell? ⟨w.heap.size + 1, 2, none⟩ = some (.string ⟨#[]⟩) := (cells_of_heap h31).1 2 _ rfl
  have r3 : w3.cell? ⟨w.heap.size + 1, 3, none⟩ = some (.int .i64 0) := (cells_of_heap h31).1 3 _ rfl
  have z0 : w3.frozen? ⟨w.heap.size + 1, 0, none⟩ = false := (cells_of_heap h31).2 0
  have z1 : w3.frozen? ⟨w.heap.size + 1, 1, none⟩ = false := (cells_of_heap h31).2 1
  have z2 : w3.frozen? ⟨w.heap.size + 1, 2, none⟩ = false := (cells_of_heap h31).2 2
  have z3 : w3.frozen? ⟨w.heap.size + 1, 3, none⟩ = false := (cells_of_heap h31).2 3
  obtain ⟨ps, cs, hsv, _⟩ := len_of_row hrow
  obtain ⟨nn, hnn⟩ : ∃ nn, ((selE (verB ⟨pre, fr, fid, most⟩) ⟨pre, fr, fid, most⟩ l').take (⟨pre, fr, fid, most⟩ : AskV).most.toNat).length = nn := ⟨_, rfl⟩
  rw [hnn] at hsv
  subst hsv
  rw [hF] at hrow ⊢
  obtain ⟨mo, hmo⟩ : ∃ b, decide ((⟨pre, fr, fid, most⟩ : AskV).most.toNat < F.length) = b := ⟨_, rfl⟩
  obtain ⟨ke, hke⟩ : ∃ b, cutKey (⟨pre, fr, fid, most⟩ : AskV).most.toNat F = b := ⟨_, rfl⟩
  obtain ⟨ci, hci⟩ : ∃ b, cutId (⟨pre, fr, fid, most⟩ : AskV).most.toNat F = b := ⟨_, rfl⟩
  rw [hmo, hke, hci]
  have H31 := Lib.hid h31; clear h31
  have HROW := Lib.hid hrow; clear hrow
  have HX := Lib.hid (And.intro hF (And.intro hmo (And.intro hke hci)))
  clear hF hmo hke hci hnn h21
  have HS2 := Lib.hid s2; clear s2
  go_wp2
  (try simp only [Exit.inBlock, Exit.then])
  have h61 := heap_set (heap_set (heap_set (heap_set H31.out 0 (.slice ps nn cs)) 1 (.bool mo)) 2 (.string ke)) 3 (.int .i64 ci)
  refine bodyPost_ret (ret_pair rfl _ _ (w.heap.size + 1) _ _ _ _ rfl h61 Tryz.underlying85 rfl (by kernel_rfl)) rfl ?_
  obtain ⟨hF, hmo, hke, hci⟩ := HX.out
  have hne : ∀ b o n c, Value.slice ps nn cs = .slice (some ⟨b, o, none⟩) n c → b ≠ w.heap.size + 1 := fun b o n c h => by
    have h1 := hfr b o n c h
    have h2 := HS2.out
    omega
  refine ⟨l', .slice ps nn cs, hpm, hso, ?_, fun b o n c h => ?_, ?_, ?_⟩
  · rw [hF]
    exact rowE_set (rowE_set (rowE_set (rowE_set HROW.out hne _ _) hne _ _) hne _ _) hne _ _
  · have h1 := hfr b o n c h
    have h2 := HS2.out
    omega
  · have h2 := HS2.out
    exact ((((hb2.trans (hb3.mono (by omega))).setCell (p := ⟨w.heap.size + 1, 0, none⟩) (Nat.le_succ _) _).setCell (p := ⟨w.heap.size + 1, 1, none⟩) (Nat.le_succ _) _).setCell (p := ⟨w.heap.size + 1, 2, none⟩) (Nat.le_succ _) _).setCell (p := ⟨w.heap.size + 1, 3, none⟩) (Nat.le_succ _) _
  · rw [hF, hmo, hke, hci]
    rfl
set_option maxHeartbeats 4000000 in
set_option maxRecDepth 100000 in
theorem objects_is (q : AskV) (l : List Ent) (hl : l.length ≤ 1000000) (hk : ∀ x ∈ l, x.key.size ≤ maxLen) (hq : q.pre.size ≤ maxLen) (hm : 1 ≤ q.most ∧ q.most ≤ 1000) (v : Value) (w : World) (hv : RowE w v l) :
    Calls Tryz.prog 63 #[v, .agg (encA q).toArray] w fun e w' =>
      ∃ l' sv, l'.Perm l ∧ SortedE l' ∧ RowE w' sv ((selE (objB q) q l').take q.most.toNat) ∧ (∀ b o n c, sv = .slice (some ⟨b, o, none⟩) n c → w.heap.size ≤ b) ∧ Below w.heap.size w w' ∧
        e = .returned (.tuple #[.agg #[sv, .bool (decide (q.most.toNat < (selE (objB q) q l').length)), .string (cutKey q.most.toNat (selE (objB q) q l')), .int .i64 0], .int .i64 0]) := by
  obtain ⟨w2, hw2⟩ : ∃ w2, (w.alloc (.cells (encA q).toArray 88)).alloc (.cells #[.slice none 0 0, .bool false, .string ⟨#[]⟩, .int .i64 0] 85) = w2 := ⟨_, rfl⟩
  have s2 : w2.heap.size = w.heap.size + 2 := by rw [← hw2]; simp
  have hb2 : Below w.heap.size w w2 := by
    rw [← hw2]
    exact ((Below.refl _ _).alloc (Nat.le_refl _) _).alloc (by simp) _
  have h20 : w2.heap[w.heap.size]? = some (.cells (encA q).toArray 88 (0, 0)) := by
    rw [← hw2, heap_alloc_old _ _ (by simp), heap_alloc_new]
  have h21 : w2.heap[w.heap.size + 1]? = some (.cells #[.slice none 0 0, .bool false, .string ⟨#[]⟩, .int .i64 0] 85 (0, 0)) := by
    rw [← hw2]
    have := heap_alloc_new (w.alloc (.cells (encA q).toArray 88)) (.cells #[.slice none 0 0, .bool false, .string ⟨#[]⟩, .int .i64 0] 85)
    simpa using this
  have hat : AskAt w2 w.heap.size q := ⟨by omega, (cells_of_heap h20).1 0 _ rfl, (cells_of_heap h20).1 1 _ rfl, (cells_of_heap h20).1 2 _ rfl, (cells_of_heap h20).1 3 _ rfl⟩
  have hc := cut_is (objB q) q w.heap.size 89 (enters_of Tryz.func89 (by kernel_rfl) rfl) (fun x W h => objB_is q x w.heap.size W h) l hl hk hq hm v w2 (hv.below hb2) hat
  have HC := Lib.hid hc; clear hc
  have HW := Lib.hid hw2; clear hw2
  clear hv hat h20
  obtain ⟨pre, fr, fid, most⟩ := q
  unfold encA at HC HW ⊢
  go_enter Tryz.func63, Tryz.ntmps63
  go_wp2_with fail
  rw [show (w.alloc (.cells #[.string pre, .string fr, .int .i64 fid, .int .i64 most] 88)).alloc (.cells #[.slice none 0 0, .bool false, .string ⟨#[]⟩, .int .i64 0] 85) = w2 from HW.out]
  refine HC.out.mono ?_
  rintro e w3 ⟨l', sv, hpm, hso, hrow, hfr, hb3, rfl⟩
  obtain ⟨F, hF⟩ : ∃ F, selE (objB ⟨pre, fr, fid, most⟩) ⟨pre, fr, fid, most⟩ l' = F := ⟨_, rfl⟩
  have h31 : w3.heap[w.heap.size + 1]? = some (.cells #[.slice none 0 0, .bool false, .string ⟨#[]⟩, .int .i64 0] 85 (0, 0)) := (hb3.block _ (by omega)).trans h21
  have hlt3 : w.heap.size + 1 < w3.heap.size := by have := hb3.size; omega
  obtain ⟨ps, cs, hsv, _⟩ := len_of_row hrow
  obtain ⟨nn, hnn⟩ : ∃ nn, ((selE (objB ⟨pre, fr, fid, most⟩) ⟨pre, fr, fid, most⟩ l').take (⟨pre, fr, fid, most⟩ : AskV).most.toNat).length = nn := ⟨_, rfl⟩
  rw [hnn] at hsv
  subst hsv
  rw [hF] at hrow ⊢
  obtain ⟨mo, hmo⟩ : ∃ b, decide ((⟨pre, fr, fid, most⟩ : AskV).most.toNat < F.length) = b := ⟨_, rfl⟩
  obtain ⟨ke, hke⟩ : ∃ b, cutKey (⟨pre, fr, fid, most⟩ : AskV).most.toNat F = b := ⟨_, rfl⟩
  obtain ⟨ci, hci⟩ : ∃ b, cutId (⟨pre, fr, fid, most⟩ : AskV).most.toNat F = b := ⟨_, rfl⟩
  rw [hmo, hke, hci]
  have H31 := Lib.hid h31; clear h31
  have HROW := Lib.hid hrow; clear hrow
  have HX := Lib.hid (And.intro hF (And.intro hmo (And.intro hke hci)))
  clear hF hmo hke hci hnn h21
  have HS2 := Lib.hid s2; clear s2
  go_upto_region 3 with (fail)
  obtain ⟨W5, hW5⟩ : ∃ W5, w3.alloc (.cells #[.slice ps nn cs, .bool mo, .string ke, .int .i64 0] 85) = W5 := ⟨_, rfl⟩
  rw [hW5]
  have h35 : W5.heap[w.heap.size + 1]? = some (.cells #[.slice none 0 0, .bool false, .string ⟨#[]⟩, .int .i64 0] 85 (0, 0)) := by rw [← hW5, heap_alloc_old _ _ hlt3]; exact H31.out
  have h55 : W5.heap[w3.heap.size]? = some (.cells #[.slice ps nn cs, .bool mo, .string ke, .int .i64 0] 85 (0, 0)) := by rw [← hW5]; exact heap_alloc_new w3 _
  have hb5 : Below w3.heap.size w3 W5 := by rw [← hW5]; exact (Below.refl _ _).alloc (Nat.le_refl _) _
  have hrow5 : RowE W5 (.slice ps nn cs) (F.take (⟨pre, fr, fid, most⟩ : AskV).most.toNat) := HROW.out.below hb5
  have r0 : W5.cell? ⟨w.heap.size + 1, 0, none⟩ = some (.slice none 0 0) := (cells_of_heap h35).1 0 _ rfl
  have r1 : W5.cell? ⟨w.heap.size + 1, 1, none⟩ = some (.bool false) := (cells_of_heap h35).1 1 _ rfl
  have r2 : W5.cell? ⟨w.heap.size + 1, 2, none⟩ = some (.string ⟨#[]⟩) := (cells_of_heap h35).1 2 _ rfl
  have r3 : W5.cell? ⟨w.heap.size + 1, 3, none⟩ = some (.int .i64 0) := (cells_of_heap h35).1 3 _ rfl
  have z0 : W5.frozen? ⟨w.heap.size + 1, 0, none⟩ = false := (cells_of_heap h35).2 0
  have z1 : W5.frozen? ⟨w.heap.size + 1, 1, none⟩ = false := (cells_of_heap h35).2 1
  have z2 : W5.frozen? ⟨w.heap.size + 1, 2, none⟩ = false := (cells_of_heap h35).2 2
  have z3 : W5.frozen? ⟨w.heap.size + 1, 3, none⟩ = false := (cells_of_heap h35).2 3
  have y0 : W5.cell? ⟨w3.heap.size, 0, none⟩ = some (.slice ps nn cs) := (cells_of_heap h55).1 0 _ rfl
  have y1 : W5.cell? ⟨w3.heap.size, 1, none⟩ = some (.bool mo) := (cells_of_heap h55).1 1 _ rfl
  have y2 : W5.cell? ⟨w3.heap.size, 2, none⟩ = some (.string ke) := (cells_of_heap h55).1 2 _ rfl
  have y3 : W5.cell? ⟨w3.heap.size, 3, none⟩ = some (.int .i64 0) := (cells_of_heap h55).1 3 _ rfl
  clear hW5
  have H35 := Lib.hid h35; clear h35 h55
  go_wp2
  (try simp only [Exit.inBlock, Exit.then])
  have h61 := heap_set (heap_set (heap_set (heap_set H35.out 0 (.slice ps nn cs)) 1 (.bool mo)) 2 (.string ke)) 3 (.int .i64 0)
  refine bodyPost_ret (ret_pair rfl _ _ (w.heap.size + 1) _ _ _ _ rfl h61 Tryz.underlying85 rfl (by kernel_rfl)) rfl ?_
  obtain ⟨hF, hmo, hke, hci⟩ := HX.out
  have hne : ∀ b o n c, Value.slice ps nn cs = .slice (some ⟨b, o, none⟩) n c → b ≠ w.heap.size + 1 := fun b o n c h => by
    have h1 := hfr b o n c h
    have h2 := HS2.out
    omega
  refine ⟨l', hpm, hso, .slice ps nn cs, ?_, fun b o n c h => ?_, ?_, ?_⟩
  · rw [hF]
    exact rowE_set (rowE_set (rowE_set (rowE_set hrow5 hne _ _) hne _ _) hne _ _) hne _ _
  · have h1 := hfr b o n c h
    have h2 := HS2.out
    omega
  · have h2 := HS2.out
    have hb25 : Below w.heap.size w W5 := (hb2.trans (hb3.mono (by omega))).trans (hb5.mono (by omega))
    exact (((hb25.setCell (p := ⟨w.heap.size + 1, 0, none⟩) (Nat.le_succ _) _).setCell (p := ⟨w.heap.size + 1, 1, none⟩) (Nat.le_succ _) _).setCell (p := ⟨w.heap.size + 1, 2, none⟩) (Nat.le_succ _) _).setCell (p := ⟨w.heap.size + 1, 3, none⟩) (Nat.le_succ _) _
  · rw [hF, hmo, hke]
    rfl
end Go.Proofs.YtjbjcfnbgcloiaaGreatDoor

namespace Go.Proofs.YtjbjcfnbgcloiaaGreatDoor
open Go.Shelf Go.RowKit Go.Lib Nam

theorem getD_of {l : List Ent} {i : Nat} (h : i < l.length) : l.getD i default = l[i] := by
  rw [List.getD_eq_getElem?_getD, List.getElem?_eq_getElem h]; rfl
def AheadE (x y : Ent) : Prop := Op.bytesLess x.key.toList y.key.toList = true ∨ (x.key = y.key ∧ y.id < x.id)
theorem AheadE.not {x y : Ent} (h : AheadE x y) : ¬ AheadE y x := by
  rintro (c | ⟨c1, c2⟩)
  · rcases h with h | ⟨h, _⟩
    · rw [less_asymm _ _ h] at c; cases c
    · rw [h, less_irrefl] at c; cases c
  · rcases h with h | ⟨_, h⟩
    · rw [c1, less_irrefl] at h; cases h
    · omega
theorem AheadE.trans {x y z : Ent} (h : AheadE x y) (h' : AheadE y z) : AheadE x z := by
  rcases h with h | ⟨e, h⟩ <;> rcases h' with h' | ⟨e', h'⟩
  · exact .inl (less_trans _ _ _ h h')
  · exact .inl (by rw [← e']; exact h)
  · exact .inl (by rw [e]; exact h')
  · exact .inr ⟨e.trans e', by omega⟩
theorem ahead_total {x y : Ent} (h : ¬ AheadE x y) (h' : ¬ AheadE y x) : x.key = y.key ∧ x.id = y.id := by
  have h1 : Op.bytesLess x.key.toList y.key.toList = false := by rw [← Bool.not_eq_true]; exact fun c => h (.inl c)
  have h2 : Op.bytesLess y.key.toList x.key.toList = false := by rw [← Bool.not_eq_true]; exact fun c => h' (.inl c)
  have e : x.key = y.key := list_inj_data (less_total _ _ h1 h2)
  refine ⟨e, ?_⟩
  have h3 : ¬ y.id < x.id := fun c => h (.inr ⟨e, c⟩)
  have h4 : ¬ x.id < y.id := fun c => h' (.inr ⟨e.symm, c⟩)
  omega
end Go.Proofs.YtjbjcfnbgcloiaaGreatDoor

namespace Go.Proofs.YtjbjcfnbgcloiaaGreatDoor
open Go.Shelf Go.RowKit Go.Lib Go.Sort Srt Nam

theorem rowE_one (w : World) (x : Ent) : RowE (w.alloc (.cells #[.string x.key, .int .i64 x.id, .bool x.mark, .int .i64 x.size, .int .u32 x.sum, .bool x.latest] 111)) (.slice (some ⟨w.heap.size, 0, none⟩) 1 1) [x] :=
  .inr ⟨w.heap.size, 0, 1, rfl, by simp, fun j u hj => by
    rw [Nat.zero_add]
    exact (cells_of_heap (heap_alloc_new w _)).1 j u (by simpa [encE] using hj)⟩
end Go.Proofs.YtjbjcfnbgcloiaaGreatDoor

/- page.Objects, page.Versions: an ask of too few or too many; what both answer, said at once. -/
namespace Go.Proofs.YtjbjcfnbgcloiaaGreatDoor
open Go.Shelf Go.RowKit Go.Lib Nam

abbrev ansP (sv : Value) (m : Bool) (k : ByteArray) (i er : Int) : Ending := .returned (.tuple #[.agg #[sv, .bool m, .string k, .int .i64 i], .int .i64 er])
abbrev BadP (w : World) (e : Ending) (w' : World) : Prop := e = ansP (.slice none 0 0) false ⟨#[]⟩ 0 1 ∧ Below w.heap.size w w'
set_option maxHeartbeats 2000000 in
set_option maxRecDepth 100000 in
theorem cut_bad (q : AskV) (hm : ¬ (1 ≤ q.most ∧ q.most ≤ 1000)) (v cl : Value) (w : World) :
    Calls Tryz.prog 88 #[v, .agg (encA q).toArray, cl] w (BadP w) := by
  obtain ⟨pre, fr, fid, most⟩ := q
  unfold encA
  simp only [] at hm
  have hf : ∀ W : World, W = (w.alloc (.cells #[.string pre, .string fr, .int .i64 fid, .int .i64 most] 88)).alloc (.cells #[.slice none 0 0, .bool false, .string ⟨#[]⟩, .int .i64 0] 85) →
      W.heap[w.heap.size + 1]? = some (.cells #[.slice none 0 0, .bool false, .string ⟨#[]⟩, .int .i64 0] 85 (0, 0)) ∧ Below w.heap.size w W := fun W hW => by
    rw [hW]
    have := heap_alloc_new (w.alloc (.cells #[.string pre, .string fr, .int .i64 fid, .int .i64 most] 88)) (.cells #[.slice none 0 0, .bool false, .string ⟨#[]⟩, .int .i64 0] 85)
    exact ⟨by simpa using this, ((Below.refl _ _).alloc (Nat.le_refl _) _).alloc (by simp) _⟩
  have HF := Lib.hid hf; clear hf
  by_cases h1 : most < 1
  · clear hm
    go_enter Tryz.func88, Tryz.ntmps88
    go_wp2
    (try simp only [Exit.inBlock, Exit.then])
    obtain ⟨h31, hb⟩ := HF.out _ rfl
    refine bodyPost_ret (ret_pair rfl _ _ (w.heap.size + 1) _ _ _ _ rfl h31 Tryz.underlying85 rfl (by kernel_rfl)) rfl ?_
    exact ⟨rfl, hb⟩
  · have h2 : 1000 < most := by omega
    clear hm
    go_enter Tryz.func88, Tryz.ntmps88
    go_wp2
    (try simp only [Exit.inBlock, Exit.then])
    obtain ⟨h31, hb⟩ := HF.out _ rfl
    refine bodyPost_ret (ret_pair rfl _ _ (w.heap.size + 1) _ _ _ _ rfl h31 Tryz.underlying85 rfl (by kernel_rfl)) rfl ?_
    exact ⟨rfl, hb⟩
set_option maxHeartbeats 4000000 in
set_option maxRecDepth 100000 in
theorem vers_bad (q : AskV) (hm : ¬ (1 ≤ q.most ∧ q.most ≤ 1000)) (v : Value) (w : World) :
    Calls Tryz.prog 64 #[v, .agg (encA q).toArray] w (BadP w) := by
  obtain ⟨w2, hw2⟩ : ∃ w2, (w.alloc (.cells (encA q).toArray 88)).alloc (.cells #[.slice none 0 0, .bool false, .string ⟨#[]⟩, .int .i64 0] 85) = w2 := ⟨_, rfl⟩
  have s2 : w2.heap.size = w.heap.size + 2 := by rw [← hw2]; simp
  have hb2 : Below w.heap.size w w2 := by
    rw [← hw2]
    exact ((Below.refl _ _).alloc (Nat.le_refl _) _).alloc (by simp) _
  have h21 : w2.heap[w.heap.size + 1]? = some (.cells #[.slice none 0 0, .bool false, .string ⟨#[]⟩, .int .i64 0] 85 (0, 0)) := by
    rw [← hw2]
    have := heap_alloc_new (w.alloc (.cells (encA q).toArray 88)) (.cells #[.slice none 0 0, .bool false, .string ⟨#[]⟩, .int .i64 0] 85)
    simpa using this
  have HC := Lib.hid (cut_bad q hm v (.func (.func 91) #[] #[.pointer (some ⟨w.heap.size, 0, none⟩)]) w2)
  have HW := Lib.hid hw2; clear hw2
  obtain ⟨pre, fr, fid, most⟩ := q
  unfold encA at HC HW ⊢
  clear hm
  go_enter Tryz.func64, Tryz.ntmps64
  go_wp2_with fail
  rw [show (w.alloc (.cells #[.string pre, .string fr, .int .i64 fid, .int .i64 most] 88)).alloc (.cells #[.slice none 0 0, .bool false, .string ⟨#[]⟩, .int .i64 0] 85) = w2 from HW.out]
  refine HC.out.mono ?_
  rintro e w3 ⟨rfl, hb3⟩
  have h31 : w3.heap[w.heap.size + 1]? = some (.cells #[.slice none 0 0, .bool false, .string ⟨#[]⟩, .int .i64 0] 85 (0, 0)) := (hb3.block _ (by omega)).trans h21
  have r0 : w3.cell? ⟨w.heap.size + 1, 0, none⟩ = some (.slice none 0 0) := (cells_of_heap h31).1 0 _ rfl
  have r1 : w3.cell? ⟨w.heap.size + 1, 1, none⟩ = some (.bool false) := (cells_of_heap h31).1 1 _ rfl
  have r2 : w3.cell? ⟨w.heap.size + 1, 2, none⟩ = some (.string ⟨#[]⟩) := (cells_of_heap h31).1 2 _ rfl
  have r3 : w3.cell? ⟨w.heap.size + 1, 3, none⟩ = some (.int .i64 0) := (cells_of_heap h31).1 3 _ rfl
  have z0 : w3.frozen? ⟨w.heap.size + 1, 0, none⟩ = false := (cells_of_heap h31).2 0
  have z1 : w3.frozen? ⟨w.heap.size + 1, 1, none⟩ = false := (cells_of_heap h31).2 1
  have z2 : w3.frozen? ⟨w.heap.size + 1, 2, none⟩ = false := (cells_of_heap h31).2 2
  have z3 : w3.frozen? ⟨w.heap.size + 1, 3, none⟩ = false := (cells_of_heap h31).2 3
  have H31 := Lib.hid h31; clear h31
  have HB := Lib.hid (hb2.trans (hb3.mono (by omega)))
  clear h21 hb2 hb3 s2
  go_wp2
  (try simp only [Exit.inBlock, Exit.then])
  have h61 := heap_set (heap_set (heap_set (heap_set H31.out 0 (.slice none 0 0)) 1 (.bool false)) 2 (.string ⟨#[]⟩)) 3 (.int .i64 0)
  refine bodyPost_ret (ret_pair rfl _ _ (w.heap.size + 1) _ _ _ _ rfl h61 Tryz.underlying85 rfl (by kernel_rfl)) rfl ?_
  exact ⟨rfl, (((HB.out.setCell (p := ⟨w.heap.size + 1, 0, none⟩) (Nat.le_succ _) _).setCell (p := ⟨w.heap.size + 1, 1, none⟩) (Nat.le_succ _) _).setCell (p := ⟨w.heap.size + 1, 2, none⟩) (Nat.le_succ _) _).setCell (p := ⟨w.heap.size + 1, 3, none⟩) (Nat.le_succ _) _⟩
set_option maxHeartbeats 4000000 in
set_option maxRecDepth 100000 in
theorem objs_bad (q : AskV) (hm : ¬ (1 ≤ q.most ∧ q.most ≤ 1000)) (v : Value) (w : World) :
    Calls Tryz.prog 63 #[v, .agg (encA q).toArray] w (BadP w) := by
  obtain ⟨w2, hw2⟩ : ∃ w2, (w.alloc (.cells (encA q).toArray 88)).alloc (.cells #[.slice none 0 0, .bool false, .string ⟨#[]⟩, .int .i64 0] 85) = w2 := ⟨_, rfl⟩
  have s2 : w2.heap.size = w.heap.size + 2 := by rw [← hw2]; simp
  have hb2 : Below w.heap.size w w2 := by
    rw [← hw2]
    exact ((Below.refl _ _).alloc (Nat.le_refl _) _).alloc (by simp) _
  have h21 : w2.heap[w.heap.size + 1]? = some (.cells #[.slice none 0 0, .bool false, .string ⟨#[]⟩, .int .i64 0] 85 (0, 0)) := by
    rw [← hw2]
    have := heap_alloc_new (w.alloc (.cells (encA q).toArray 88)) (.cells #[.slice none 0 0, .bool false, .string ⟨#[]⟩, .int .i64 0] 85)
    simpa using this
  have HC := Lib.hid (cut_bad q hm v (.func (.func 89) #[] #[.pointer (some ⟨w.heap.size, 0, none⟩)]) w2)
  have HW := Lib.hid hw2; clear hw2
  obtain ⟨pre, fr, fid, most⟩ := q
  unfold encA at HC HW ⊢
  clear hm
  go_enter Tryz.func63, Tryz.ntmps63
  go_wp2_with fail
  rw [show (w.alloc (.cells #[.string pre, .string fr, .int .i64 fid, .int .i64 most] 88)).alloc (.cells #[.slice none 0 0, .bool false, .string ⟨#[]⟩, .int .i64 0] 85) = w2 from HW.out]
  refine HC.out.mono ?_
  rintro e w3 ⟨rfl, hb3⟩
  have h31 : w3.heap[w.heap.size + 1]? = some (.cells #[.slice none 0 0, .bool false, .string ⟨#[]⟩, .int .i64 0] 85 (0, 0)) := (hb3.block _ (by omega)).trans h21
  have hlt3 : w.heap.size + 1 < w3.heap.size := by have := hb3.size; omega
  have H31 := Lib.hid h31; clear h31
  have HB := Lib.hid (hb2.trans (hb3.mono (by omega)))
  have HB3 := Lib.hid hb3
  clear h21 hb2 hb3
  go_upto_region 3 with (fail)
  obtain ⟨W5, hW5⟩ : ∃ W5, w3.alloc (.cells #[.slice none 0 0, .bool false, .string ⟨#[]⟩, .int .i64 0] 85) = W5 := ⟨_, rfl⟩
  rw [hW5]
  have h35 : W5.heap[w.heap.size + 1]? = some (.cells #[.slice none 0 0, .bool false, .string ⟨#[]⟩, .int .i64 0] 85 (0, 0)) := by rw [← hW5, heap_alloc_old _ _ hlt3]; exact H31.out
  have h55 : W5.heap[w3.heap.size]? = some (.cells #[.slice none 0 0, .bool false, .string ⟨#[]⟩, .int .i64 0] 85 (0, 0)) := by rw [← hW5]; exact heap_alloc_new w3 _
  have HB5 : Hid (Below w.heap.size w W5) := by show Below _ _ _; rw [← hW5]; exact HB.out.alloc HB.out.size _
  have r0 : W5.cell? ⟨w.heap.size + 1, 0, none⟩ = some (.slice none 0 0) := (cells_of_heap h35).1 0 _ rfl
  have r1 : W5.cell? ⟨w.heap.size + 1, 1, none⟩ = some (.bool false) := (cells_of_heap h35).1 1 _ rfl
  have r2 : W5.cell? ⟨w.heap.size + 1, 2, none⟩ = some (.string ⟨#[]⟩) := (cells_of_heap h35).1 2 _ rfl
  have r3 : W5.cell? ⟨w.heap.size + 1, 3, none⟩ = some (.int .i64 0) := (cells_of_heap h35).1 3 _ rfl
  have z0 : W5.frozen? ⟨w.heap.size + 1, 0, none⟩ = false := (cells_of_heap h35).2 0
  have z1 : W5.frozen? ⟨w.heap.size + 1, 1, none⟩ = false := (cells_of_heap h35).2 1
  have z2 : W5.frozen? ⟨w.heap.size + 1, 2, none⟩ = false := (cells_of_heap h35).2 2
  have z3 : W5.frozen? ⟨w.heap.size + 1, 3, none⟩ = false := (cells_of_heap h35).2 3
  have y0 : W5.cell? ⟨w3.heap.size, 0, none⟩ = some (.slice none 0 0) := (cells_of_heap h55).1 0 _ rfl
  have y1 : W5.cell? ⟨w3.heap.size, 1, none⟩ = some (.bool false) := (cells_of_heap h55).1 1 _ rfl
  have y2 : W5.cell? ⟨w3.heap.size, 2, none⟩ = some (.string ⟨#[]⟩) := (cells_of_heap h55).1 2 _ rfl
  have y3 : W5.cell? ⟨w3.heap.size, 3, none⟩ = some (.int .i64 0) := (cells_of_heap h55).1 3 _ rfl
  have H35 := Lib.hid h35
  clear hW5 h35 h55 s2
  go_wp2
  (try simp only [Exit.inBlock, Exit.then])
  have h61 := heap_set (heap_set (heap_set (heap_set H35.out 0 (.slice none 0 0)) 1 (.bool false)) 2 (.string ⟨#[]⟩)) 3 (.int .i64 0)
  refine bodyPost_ret (ret_pair rfl _ _ (w.heap.size + 1) _ _ _ _ rfl h61 Tryz.underlying85 rfl (by kernel_rfl)) rfl ?_
  exact ⟨rfl, (((HB5.out.setCell (p := ⟨w.heap.size + 1, 0, none⟩) (Nat.le_succ _) _).setCell (p := ⟨w.heap.size + 1, 1, none⟩) (Nat.le_succ _) _).setCell (p := ⟨w.heap.size + 1, 2, none⟩) (Nat.le_succ _) _).setCell (p := ⟨w.heap.size + 1, 3, none⟩) (Nat.le_succ _) _⟩

def PageAns (ok : Bool) (Res : List Ent → List Ent → Bool → ByteArray → Int → Prop) (l : List Ent) (V : World) (e : Ending) (w' : World) : Prop :=
  if ok then (∃ (sv : Value) (o : List Ent) (m : Bool) (k : ByteArray) (i : Int), e = ansP sv m k i 0 ∧ RowE w' sv o ∧ (∀ b f n c, sv = .slice (some ⟨b, f, none⟩) n c → V.heap.size ≤ b) ∧ Res l o m k i) ∧ Below V.heap.size V w' else BadP V e w'
theorem pageAns_ok {Res : List Ent → List Ent → Bool → ByteArray → Int → Prop} {l : List Ent} {V : World} {e : Ending} {w' : World} : PageAns true Res l V e w' ↔ (∃ (sv : Value) (o : List Ent) (m : Bool) (k : ByteArray) (i : Int), e = ansP sv m k i 0 ∧ RowE w' sv o ∧ (∀ b f n c, sv = .slice (some ⟨b, f, none⟩) n c → V.heap.size ≤ b) ∧ Res l o m k i) ∧ Below V.heap.size V w' := by
  unfold PageAns
  rw [if_pos rfl]
theorem pageAns_bad {Res : List Ent → List Ent → Bool → ByteArray → Int → Prop} {l : List Ent} {V : World} {e : Ending} {w' : World} : PageAns false Res l V e w' ↔ BadP V e w' := by
  unfold PageAns
  rw [if_neg Bool.false_ne_true]
def okA (q : AskV) : Bool := decide (1 ≤ q.most ∧ q.most ≤ 1000)
def VerR (q : AskV) (l o : List Ent) (m : Bool) (k : ByteArray) (i : Int) : Prop := ∃ l', l'.Perm l ∧ SortedE l' ∧ o = (selE (verB q) q l').take q.most.toNat ∧ m = decide (q.most.toNat < (selE (verB q) q l').length) ∧ k = cutKey q.most.toNat (selE (verB q) q l') ∧ i = cutId q.most.toNat (selE (verB q) q l')
def ObjR (q : AskV) (l o : List Ent) (m : Bool) (k : ByteArray) (i : Int) : Prop := ∃ l', l'.Perm l ∧ SortedE l' ∧ o = (selE (objB q) q l').take q.most.toNat ∧ m = decide (q.most.toNat < (selE (objB q) q l').length) ∧ k = cutKey q.most.toNat (selE (objB q) q l') ∧ i = 0
def PageF (gp : Nat) (q : AskV) (Res : List Ent → List Ent → Bool → ByteArray → Int → Prop) : Prop :=
  (∀ args w, (callFunc gp args).run Tryz.prog w = .ok (.enter gp args) w) ∧
  ∀ (l : List Ent) (v : Value) (V : World), l.length ≤ 1000000 → (∀ x ∈ l, x.key.size ≤ maxLen) → RowE V v l → Calls Tryz.prog gp #[v, .agg #[.string q.pre, .string q.fr, .int .i64 q.fid, .int .i64 q.most]] V (PageAns (okA q) Res l V)
theorem versF (q : AskV) (hq : q.pre.size ≤ maxLen) : PageF 64 q (VerR q) := by
  refine ⟨enters_of Tryz.func64 (by kernel_rfl) rfl, fun l v V hl hk hv => ?_⟩
  unfold okA
  by_cases hm : 1 ≤ q.most ∧ q.most ≤ 1000
  · rw [decide_eq_true hm]
    exact (pvers_is q l hl hk hq hm v V hv).mono fun e w' ⟨l', sv, h1, h2, h3, h4, h5, h6⟩ => pageAns_ok.2 ⟨⟨sv, _, _, _, _, h6, h3, h4, l', h1, h2, rfl, rfl, rfl, rfl⟩, h5⟩
  · rw [decide_eq_false hm]
    exact (vers_bad q hm v V).mono fun _ _ h => pageAns_bad.2 h
theorem objsF (q : AskV) (hq : q.pre.size ≤ maxLen) : PageF 63 q (ObjR q) := by
  refine ⟨enters_of Tryz.func63 (by kernel_rfl) rfl, fun l v V hl hk hv => ?_⟩
  unfold okA
  by_cases hm : 1 ≤ q.most ∧ q.most ≤ 1000
  · rw [decide_eq_true hm]
    exact (objects_is q l hl hk hq hm v V hv).mono fun e w' ⟨l', sv, h1, h2, h3, h4, h5, h6⟩ => pageAns_ok.2 ⟨⟨sv, _, _, _, _, h6, h3, h4, l', h1, h2, rfl, rfl, rfl, rfl⟩, h5⟩
  · rw [decide_eq_false hm]
    exact (objs_bad q hm v V).mono fun _ _ h => pageAns_bad.2 h
end Go.Proofs.YtjbjcfnbgcloiaaGreatDoor

/- part of package model: a page of a bucket's entries. -/
namespace Go.Proofs.YtjbjcfnbgcloiaaGreatDoor
open Go.RowKit Nam YtjbjcfnbgcloiaaGreatDoorW.PrintWords

def entK (k : List UInt8) (n : Nat) (x : Kp) (i : Nat) : Ent := ⟨mkS k, x.id, x.mark, x.sz, x.sum, decide (i + 1 = n)⟩
def entsK (k : List UInt8) (l : List Kp) : List Ent := l.zipIdx.map fun p => entK k l.length p.1 p.2
theorem entsK_length (k : List UInt8) (l : List Kp) : (entsK k l).length = l.length := by simp [entsK]
theorem entsK_at (k : List UInt8) (l : List Kp) (i : Nat) (x : Kp) (h : l[i]? = some x) : (entsK k l)[i]? = some (entK k l.length x i) := by
  unfold entsK
  rw [List.getElem?_map, List.getElem?_zipIdx, h]
  simp
theorem entsK_take (k : List UInt8) (l : List Kp) (i : Nat) (x : Kp) (h : l[i]? = some x) : (entsK k l).take (i + 1) = (entsK k l).take i ++ [entK k l.length x i] := by
  rw [List.take_add_one, entsK_at k l i x h]
  rfl
def entsOf (f : List UInt8 → List Kp) (ks : List (List UInt8)) : List Ent := ks.flatMap fun k => entsK k (f k)
def KeysIn (D : DataW Unit) (left : Lit → Bool) (ks : List (List UInt8)) : Prop := ks.Nodup ∧ ∀ k, k ∈ ks ↔ Maps.has D (.string k) = true ∧ left (.string k) = false
theorem keysIn_start (D : DataW Unit) : KeysIn D (Maps.has D) [] := ⟨List.nodup_nil, fun k => ⟨fun h => absurd h List.not_mem_nil, fun ⟨h1, h2⟩ => by rw [h1] at h2; cases h2⟩⟩
theorem keysIn_step {D : DataW Unit} {left : Lit → Bool} {ks : List (List UInt8)} (h : KeysIn D left ks) {k : List UInt8} (hk : left (.string k) = true) (hD : Maps.has D (.string k) = true) : KeysIn D (fun x => left x && !x.sameKey (.string k)) (ks ++ [k]) := by
  have hne : k ∉ ks := fun e => by
    have := ((h.2 k).1 e).2
    rw [hk] at this
    cases this
  refine ⟨List.nodup_append.2 ⟨h.1, by simp, fun a ha b hb e => hne (by rw [List.mem_singleton] at hb; subst hb; subst e; exact ha)⟩, fun j => ?_⟩
  rw [List.mem_append, List.mem_singleton]
  by_cases e : j = k
  · subst e
    simp [WideAt.sameKey_self (isKey_str j), hD]
  · have hsk : (Lit.string j).sameKey (.string k) = false := by
      cases hs : (Lit.string j).sameKey (.string k) with
      | false => rfl
      | true =>
        have := WideAt.sameKey_eq hs
        injection this with this
        exact absurd this e
    simp [hsk, e, h.2 j]
def AllOf (f : List UInt8 → List Kp) (ks : List (List UInt8)) : Prop := ks.Nodup ∧ ∀ k, f k ≠ [] → k ∈ ks
theorem allOf_end {w : World} {F : Nat → Prop} {D : DataW Unit} {f : List UInt8 → List Kp} {left : Lit → Bool} {ks : List (List UInt8)} (h2 : ∀ k, ∃ v ps, R2 v = some (D.atKey (.string k) .nil, ps) ∧ RowV w F v (f k)) (h : KeysIn D left ks) (hl : ∀ x, left x = false) : AllOf f ks := by
  refine ⟨h.1, fun k hk => (h.2 k).2 ⟨?_, hl _⟩⟩
  cases hh : Maps.has D (.string k) with
  | true => rfl
  | false => exact absurd (inner_off h2 k hh) hk
theorem entsOf_len {f : List UInt8 → List Kp} (h : ∀ k, (f k).length ≤ 64) : ∀ ks : List (List UInt8), (entsOf f ks).length ≤ ks.length * 64
  | [] => Nat.le_refl _
  | k :: r => by
    have e : entsOf f (k :: r) = entsK k (f k) ++ entsOf f r := rfl
    have := entsOf_len h r
    have h1 := h k
    rw [e, List.length_append, entsK_length, List.length_cons]
    omega
theorem entsOf_snoc (f : List UInt8 → List Kp) (ks : List (List UInt8)) (k : List UInt8) : entsOf f (ks ++ [k]) = entsOf f ks ++ entsK k (f k) := by
  unfold entsOf
  rw [List.flatMap_append]
  simp
theorem nodup_le {α : Type} [DecidableEq α] : ∀ {l m : List α}, l.Nodup → (∀ x ∈ l, x ∈ m) → l.length ≤ m.length
  | [], _, _, _ => Nat.zero_le _
  | a :: l, m, hl, h => by
    have ha : a ∈ m := h a List.mem_cons_self
    have := nodup_le (m := m.erase a) (List.nodup_cons.1 hl).2 fun x hx => (List.mem_erase_of_ne (fun e => (List.nodup_cons.1 hl).1 (by rw [← e]; exact hx))).2 (h x (List.mem_cons_of_mem _ hx))
    rw [List.length_erase_of_mem ha] at this
    have hp := List.length_pos_of_mem ha
    simp only [List.length_cons]
    omega
theorem keysIn_len {w : World} {R : Value → Option (DataW Unit × List MemPlace)} {b n : Nat} {D : DataW Unit} (ho : w.ownsMap Tryz.prog 9 R b n D) {left : Lit → Bool} {ks : List (List UInt8)} (h : KeysIn D left ks) : ks.length ≤ n := by
  obtain ⟨es, hD, _⟩ := strMap_of ho
  have hsz := ho.size_le
  have h1 : ks.length ≤ (es.map Prod.fst).length := nodup_le h.1 fun k hk => by
    have := ((h.2 k).1 hk).1
    rw [hD, sm_has] at this
    exact of_decide_eq_true this
  have h2 : Maps.size D = es.length := by
    rw [hD]
    show (es.map fun p => (Lit.string p.1, p.2)).length = _
    rw [List.length_map]
  rw [List.length_map] at h1
  omega
theorem own_lt {w : World} {base n : Nat} {e : TypeId} {size : Nat} {v : Value} {xs : List Value} (h : w.ownsRow base e size v n xs) : ∀ k, v.ownBlock = some k → k < w.heap.size := by
  intro k hk
  rcases h.2 with ⟨h1, _⟩ | ⟨g, cap, cur, h1, h2, h3, _⟩
  · subst h1; cases hk
  · subst h1; cases hk; exact (Array.getElem?_eq_some_iff.1 h3).1
theorem ranges_at {V V' : World} {R : Value → Option (DataW Unit × List MemPlace)} {b r n cnt : Nat} {D : DataW Unit} {left : Lit → Bool} (h : V.ranges Tryz.prog 9 R b r n D left cnt) (hb : V'.heap[b]? = V.heap[b]?) (hr : V'.heap[r]? = V.heap[r]?) : V'.ranges Tryz.prog 9 R b r n D left cnt := by
  obtain ⟨es, clock, since, seen, c0, hb', F, hs, hD, hr', rest⟩ := h
  exact ⟨es, clock, since, seen, c0, hb.trans hb', F, hs, hD, hr.trans hr', rest⟩
theorem has_of_hat {D : DataW Unit} {kl : Lit} {y : DataW Unit} (h : ∀ zd, D.atKey kl zd = y) : Maps.has D kl = true := by
  cases hh : Maps.has D kl with
  | true => rfl
  | false =>
    have h1 := (Maps.atKey_of_not_has (z := .nil) hh).symm.trans (h _)
    have h2 := (Maps.atKey_of_not_has (z := .lit (.int .i64 0)) hh).symm.trans (h _)
    rw [← h2] at h1
    cases h1
theorem entsOf_key {f : List UInt8 → List Kp} {ks : List (List UInt8)} {x : Ent} (h : x ∈ entsOf f ks) : ∃ k ∈ ks, x.key = mkS k := by
  unfold entsOf at h
  obtain ⟨k, hk, hx⟩ := List.mem_flatMap.1 h
  unfold entsK at hx
  obtain ⟨p, _, rfl⟩ := List.mem_map.1 hx
  exact ⟨k, hk, rfl⟩
theorem row_els {w : World} {F : Nat → Prop} {A : Option Addr} {m c : Nat} {l : List Kp} (hF : ∀ k, F k → IsC w k) (h : RowV w F (.slice A m c) l) (V : World) (hV : Below w.heap.size w V) (i : Nat) (hi : i < m) :
    ∃ (x : Kp) (A1 : Option Addr) (c1 g1 : Nat), A = some ⟨g1, 0, none⟩ ∧ l[i]? = some x ∧ KAt V g1 (i * 5) x A1 c1 ∧ g1 < w.heap.size := by
  obtain ⟨news, hn, hr⟩ := id h
  rcases hn with ⟨e, e2, _⟩ | ⟨g, c', e, _, hg, _⟩
  · injection e with _ e _
    omega
  · injection e with eA em _
    subst eA
    subst em
    obtain ⟨x, A1, c1, hx, _, hk⟩ := h.kat i hi
    exact ⟨x, A1, c1, g, rfl, hx, hk.below hV (isC_lt (hF g hg)), isC_lt (hF g hg)⟩
theorem own_at {w w' : World} {base n : Nat} {e : TypeId} {size : Nat} {v : Value} {xs : List Value} (h : w.ownsRow base e size v n xs) (hb : ∀ g, v.ownBlock = some g → w'.heap[g]? = w.heap[g]?) : w'.ownsRow base e size v n xs := by
  refine ⟨h.1, ?_⟩
  rcases h.2 with h1 | ⟨g, cap, cur, h1, h2, h3, h4⟩
  · exact .inl h1
  · exact .inr ⟨g, cap, cur, h1, h2, (hb g (by rw [h1]; rfl)).trans h3, h4⟩
def PartIs (S : St) (s : List UInt8) (q : AskV) (Res : List Ent → List Ent → Bool → ByteArray → Int → Prop) (w : World) (e : Ending) (w' : World) : Prop :=
  Below w.heap.size w w' ∧
  if bucketB s = false then e = ansP (.slice none 0 0) false ⟨#[]⟩ 0 12
  else if okA q = false then e = ansP (.slice none 0 0) false ⟨#[]⟩ 0 1
  else if s ∉ S.B then e = ansP (.slice none 0 0) false ⟨#[]⟩ 0 13
  else ∃ (ks : List (List UInt8)) (sv : Value) (o : List Ent) (m : Bool) (k : ByteArray) (i : Int), AllOf (S.V s) ks ∧ e = ansP sv m k i 0 ∧ RowE w' sv o ∧ (∀ b f n c, sv = .slice (some ⟨b, f, none⟩) n c → w.heap.size ≤ b) ∧ Res (entsOf (S.V s) ks) o m k i
theorem part_12 {S : St} {s : List UInt8} {q : AskV} {Res : List Ent → List Ent → Bool → ByteArray → Int → Prop} {w w' : World} (h : bucketB s = false) (hb : Below w.heap.size w w') : PartIs S s q Res w (ansP (.slice none 0 0) false ⟨#[]⟩ 0 12) w' := by
  unfold PartIs
  rw [if_pos h]
  exact ⟨hb, rfl⟩
theorem part_1 {S : St} {s : List UInt8} {q : AskV} {Res : List Ent → List Ent → Bool → ByteArray → Int → Prop} {w w' : World} (h : bucketB s = true) (ho : okA q = false) (hb : Below w.heap.size w w') : PartIs S s q Res w (ansP (.slice none 0 0) false ⟨#[]⟩ 0 1) w' := by
  unfold PartIs
  rw [if_neg (by rw [h]; simp), if_pos ho]
  exact ⟨hb, rfl⟩
theorem part_13 {S : St} {s : List UInt8} {q : AskV} {Res : List Ent → List Ent → Bool → ByteArray → Int → Prop} {w w' : World} (h : bucketB s = true) (ho : okA q = true) (hs : s ∉ S.B) (hb : Below w.heap.size w w') : PartIs S s q Res w (ansP (.slice none 0 0) false ⟨#[]⟩ 0 13) w' := by
  unfold PartIs
  rw [if_neg (by rw [h]; simp), if_neg (by rw [ho]; simp), if_pos hs]
  exact ⟨hb, rfl⟩
theorem part_0 {S : St} {s : List UInt8} {q : AskV} {Res : List Ent → List Ent → Bool → ByteArray → Int → Prop} {w w' : World} (h : bucketB s = true) (ho : okA q = true) (hs : s ∈ S.B) (hb : Below w.heap.size w w') {ks : List (List UInt8)} {sv : Value} {o : List Ent} {m : Bool} {k : ByteArray} {i : Int} (ha : AllOf (S.V s) ks) (hr : RowE w' sv o) (hf : ∀ b f n c, sv = .slice (some ⟨b, f, none⟩) n c → w.heap.size ≤ b) (hR : Res (entsOf (S.V s) ks) o m k i) : PartIs S s q Res w (ansP sv m k i 0) w' := by
  unfold PartIs
  rw [if_neg (by rw [h]; simp), if_neg (by rw [ho]; simp), if_neg (fun e => e hs)]
  exact ⟨hb, ks, sv, o, m, k, i, ha, rfl, hr, hf, hR⟩
set_option maxHeartbeats 4000000 in
set_option maxRecDepth 100000 in
theorem part_is (w : World) (g : Nat) (S : St) (n : Nat) (Q F : Nat → Prop) (s : List UInt8) (q : AskV) (gp : Nat) (Res : List Ent → List Ent → Bool → ByteArray → Int → Prop) (hs : s.length ≤ 100000) (hm : HasM w g S n Q F) (hF : PageF gp q Res)
    (hfi : S.Fine) (hn : n ≤ 10000) :
    Calls Tryz.prog 62 #[.pointer (some ⟨g, 0, none⟩), .string (mkS s), .agg #[.string q.pre, .string q.fr, .int .i64 q.fid, .int .i64 q.most], .func (.func gp) #[] #[]] w (PartIs S s q Res w) := by
  obtain ⟨pre, fr, fid, most⟩ := q
  have hsz : (mkS s).size ≤ maxLen := by rw [mkS_size]; unfold maxLen; omega
  have hsm : s.length ≤ maxLen := by unfold maxLen; omega
  obtain ⟨w2, hw2⟩ : ∃ w2, (w.alloc (.cells #[.string pre, .string fr, .int .i64 fid, .int .i64 most] 88)).alloc (.cells #[.slice none 0 0, .bool false, .string ⟨#[]⟩, .int .i64 0] 85) = w2 := ⟨_, rfl⟩
  have hs2 : w2.heap.size = w.heap.size + 2 := by rw [← hw2]; simp
  have hb2 : Below w.heap.size w w2 := by
    rw [← hw2]
    exact ((Below.refl _ _).alloc (Nat.le_refl _) _).alloc (by simp) _
  have h20 : w2.heap[w.heap.size]? = some (.cells #[.string pre, .string fr, .int .i64 fid, .int .i64 most] 88 (0, 0)) := by
    rw [← hw2, heap_alloc_old _ _ (by simp), heap_alloc_new]
  have h21 : w2.heap[w.heap.size + 1]? = some (.cells #[.slice none 0 0, .bool false, .string ⟨#[]⟩, .int .i64 0] 85 (0, 0)) := by
    rw [← hw2]
    have := heap_alloc_new (w.alloc (.cells #[.string pre, .string fr, .int .i64 fid, .int .i64 most] 88)) (.cells #[.slice none 0 0, .bool false, .string ⟨#[]⟩, .int .i64 0] 85)
    simpa using this
  have HW := Lib.hid hw2; clear hw2
  obtain ⟨mb, D, hO⟩ := (hm.below hb2).ex
  have HTh := Lib.hid (there_is w2 g mb hO.c)
  obtain ⟨ok, hok⟩ : ∃ ok, bucketB s = ok := ⟨_, rfl⟩
  have HBk : Hid (Calls Tryz.prog 49 #[.string (mkS s)] w2 fun e w' => e = .returned (.bool ok) ∧ Below w2.heap.size w2 w') := by
    have := bucket_is (mkS s) w2 hsz
    rw [mkS_list, hok] at this
    exact this
  have HCm : Hid (∀ V, Below w2.heap.size w2 V → V.cell? ⟨g, 0, none⟩ = some (.map (some mb)) ∧ Outer V g S n Q F mb D) := fun V hV => by
    have hO' := hO.below (hm.below hb2).q (hm.below hb2).f hV
    exact ⟨(blk_cell hO'.c 0).trans rfl, hO'⟩
  have HBX : Hid (∀ V, Below w2.heap.size w2 V → V.heap[w.heap.size]? = some (.cells #[.string pre, .string fr, .int .i64 fid, .int .i64 most] 88 (0, 0)) ∧ V.heap[w.heap.size + 1]? = some (.cells #[.slice none 0 0, .bool false, .string ⟨#[]⟩, .int .i64 0] 85 (0, 0)) ∧ w.heap.size + 2 ≤ V.heap.size) := fun V hV =>
    ⟨(hV.block _ (by omega)).trans h20, (hV.block _ (by omega)).trans h21, by have := hV.size; omega⟩
  have HEnd : Hid (∀ (V : World) (a : Value) (b c d : Value), Below w2.heap.size w2 V → Below w.heap.size w ((((V.setCell ⟨w.heap.size + 1, 0, none⟩ a).setCell ⟨w.heap.size + 1, 1, none⟩ b).setCell ⟨w.heap.size + 1, 2, none⟩ c).setCell ⟨w.heap.size + 1, 3, none⟩ d)) := fun V a b c d hV =>
    (((((hb2.trans (hV.mono (by omega))).setCell (p := ⟨w.heap.size + 1, 0, none⟩) (Nat.le_succ _) _).setCell (p := ⟨w.heap.size + 1, 1, none⟩) (Nat.le_succ _) _).setCell (p := ⟨w.heap.size + 1, 2, none⟩) (Nat.le_succ _) _).setCell (p := ⟨w.heap.size + 1, 3, none⟩) (Nat.le_succ _) _)
  have HM := Lib.hid hm
  have HFi := Lib.hid (hm.below hb2).f
  have HOK := Lib.hid hok
  have HFn := Lib.hid hF.2
  have eg := hF.1
  have HNs := Lib.hid hfi.len
  have HS2 := Lib.hid hs2
  clear hok hO hm hF hfi h20 h21 hb2 hs2
  cases ok with
  | false =>
    go_enter Tryz.func62, Tryz.ntmps62
    go_wp2_with fail
    rw [show (w.alloc (.cells #[.string pre, .string fr, .int .i64 fid, .int .i64 most] 88)).alloc (.cells #[.slice none 0 0, .bool false, .string ⟨#[]⟩, .int .i64 0] 85) = w2 from HW.out]
    refine HTh.out.mono ?_
    rintro e w' ⟨rfl, rfl⟩
    go_wp2_with fail
    refine HBk.out.mono ?_
    rintro e w3 ⟨rfl, hb3⟩
    obtain ⟨_, h31, _⟩ := HBX.out w3 hb3
    have r0 : w3.cell? ⟨w.heap.size + 1, 0, none⟩ = some (.slice none 0 0) := (cells_of_heap h31).1 0 _ rfl
    have r1 : w3.cell? ⟨w.heap.size + 1, 1, none⟩ = some (.bool false) := (cells_of_heap h31).1 1 _ rfl
    have r2 : w3.cell? ⟨w.heap.size + 1, 2, none⟩ = some (.string ⟨#[]⟩) := (cells_of_heap h31).1 2 _ rfl
    have r3 : w3.cell? ⟨w.heap.size + 1, 3, none⟩ = some (.int .i64 0) := (cells_of_heap h31).1 3 _ rfl
    have z0 : w3.frozen? ⟨w.heap.size + 1, 0, none⟩ = false := (cells_of_heap h31).2 0
    have z1 : w3.frozen? ⟨w.heap.size + 1, 1, none⟩ = false := (cells_of_heap h31).2 1
    have z2 : w3.frozen? ⟨w.heap.size + 1, 2, none⟩ = false := (cells_of_heap h31).2 2
    have z3 : w3.frozen? ⟨w.heap.size + 1, 3, none⟩ = false := (cells_of_heap h31).2 3
    have H31 := Lib.hid h31; clear h31
    have HB3 := Lib.hid hb3; clear hb3
    go_wp2
    (try simp only [Exit.inBlock, Exit.then])
    have h61 := heap_set (heap_set (heap_set (heap_set H31.out 0 (.slice none 0 0)) 1 (.bool false)) 2 (.string ⟨#[]⟩)) 3 (.int .i64 0)
    refine bodyPost_ret (ret_pair rfl _ _ (w.heap.size + 1) _ _ _ _ rfl h61 Tryz.underlying85 rfl (by kernel_rfl)) rfl ?_
    exact part_12 HOK.out (HEnd.out _ _ _ _ _ HB3.out)
  | true =>
    obtain ⟨oa, hoa⟩ : ∃ oa, okA ⟨pre, fr, fid, most⟩ = oa := ⟨_, rfl⟩
    have HOA := Lib.hid hoa
    rw [hoa] at HFn
    clear hoa
    go_enter Tryz.func62, Tryz.ntmps62
    go_wp2_with fail
    rw [show (w.alloc (.cells #[.string pre, .string fr, .int .i64 fid, .int .i64 most] 88)).alloc (.cells #[.slice none 0 0, .bool false, .string ⟨#[]⟩, .int .i64 0] 85) = w2 from HW.out]
    refine HTh.out.mono ?_
    rintro e w' ⟨rfl, rfl⟩
    go_wp2_with fail
    refine HBk.out.mono ?_
    rintro e w3 ⟨rfl, hb3⟩
    obtain ⟨h30, h31, hsz3⟩ := HBX.out w3 hb3
    have q0 : w3.cell? ⟨w.heap.size, 0, none⟩ = some (.string pre) := (cells_of_heap h30).1 0 _ rfl
    have q1 : w3.cell? ⟨w.heap.size, 1, none⟩ = some (.string fr) := (cells_of_heap h30).1 1 _ rfl
    have q2 : w3.cell? ⟨w.heap.size, 2, none⟩ = some (.int .i64 fid) := (cells_of_heap h30).1 2 _ rfl
    have q3 : w3.cell? ⟨w.heap.size, 3, none⟩ = some (.int .i64 most) := (cells_of_heap h30).1 3 _ rfl
    have HC1 := Lib.hid (HFn.out [] (.slice none 0 0) w3 (Nat.zero_le _) (fun x hx => absurd hx List.not_mem_nil) (.inl ⟨rfl, rfl⟩))
    have HB3 := Lib.hid hb3
    clear h30 h31 hb3
    cases oa with
    | false =>
      go_upto_region 6 with (go_at_fn gp; refine HC1.out.mono ?_; intro e w4 hpa; obtain ⟨rfl, hb4⟩ := pageAns_bad.1 hpa; have HB4 : Hid (Below w2.heap.size w2 w4) := HB3.out.trans (hb4.mono HB3.out.size); clear hb4 hpa HC1 q0 q1 q2 q3)
      obtain ⟨W5, hW5⟩ : ∃ W5, w4.alloc (.cells #[.slice none 0 0, .bool false, .string ⟨#[]⟩, .int .i64 0] 85) = W5 := ⟨_, rfl⟩
      rw [hW5]
      have HB5 : Hid (Below w2.heap.size w2 W5) := by show Below _ _ _; rw [← hW5]; exact HB4.out.alloc HB4.out.size _
      clear hW5
      obtain ⟨_, h31, _⟩ := HBX.out W5 HB5.out
      have r0 : W5.cell? ⟨w.heap.size + 1, 0, none⟩ = some (.slice none 0 0) := (cells_of_heap h31).1 0 _ rfl
      have r1 : W5.cell? ⟨w.heap.size + 1, 1, none⟩ = some (.bool false) := (cells_of_heap h31).1 1 _ rfl
      have r2 : W5.cell? ⟨w.heap.size + 1, 2, none⟩ = some (.string ⟨#[]⟩) := (cells_of_heap h31).1 2 _ rfl
      have r3 : W5.cell? ⟨w.heap.size + 1, 3, none⟩ = some (.int .i64 0) := (cells_of_heap h31).1 3 _ rfl
      have z0 : W5.frozen? ⟨w.heap.size + 1, 0, none⟩ = false := (cells_of_heap h31).2 0
      have z1 : W5.frozen? ⟨w.heap.size + 1, 1, none⟩ = false := (cells_of_heap h31).2 1
      have z2 : W5.frozen? ⟨w.heap.size + 1, 2, none⟩ = false := (cells_of_heap h31).2 2
      have z3 : W5.frozen? ⟨w.heap.size + 1, 3, none⟩ = false := (cells_of_heap h31).2 3
      have H31 := Lib.hid h31; clear h31
      go_wp2
      (try simp only [Exit.inBlock, Exit.then])
      have h61 := heap_set (heap_set (heap_set (heap_set H31.out 0 (.slice none 0 0)) 1 (.bool false)) 2 (.string ⟨#[]⟩)) 3 (.int .i64 0)
      refine bodyPost_ret (ret_pair rfl _ _ (w.heap.size + 1) _ _ _ _ rfl h61 Tryz.underlying85 rfl (by kernel_rfl)) rfl ?_
      exact part_1 HOK.out HOA.out (HEnd.out _ _ _ _ _ HB5.out)
    | true =>
      go_upto_region 6 with (go_at_fn gp; refine HC1.out.mono ?_; intro e w4 hpa; obtain ⟨⟨sv1, o1, m1, k1, i1, rfl, hro1, _, _⟩, hb4⟩ := pageAns_ok.1 hpa; obtain ⟨p1, c1, rfl, _⟩ := len_of_row hro1; obtain ⟨n1, hn1⟩ : ∃ n1, o1.length = n1 := ⟨_, rfl⟩; rw [hn1]; have HB4 : Hid (Below w2.heap.size w2 w4) := HB3.out.trans (hb4.mono HB3.out.size); clear hro1 hn1 hb4 hpa HC1 q0 q1 q2 q3)
      obtain ⟨W5, hW5⟩ : ∃ W5, w4.alloc (.cells #[.slice p1 n1 c1, .bool m1, .string k1, .int .i64 i1] 85) = W5 := ⟨_, rfl⟩
      rw [hW5]
      have HB5 : Hid (Below w2.heap.size w2 W5) := by show Below _ _ _; rw [← hW5]; exact HB4.out.alloc HB4.out.size _
      clear hW5
      obtain ⟨c0, hO5⟩ := HCm.out W5 HB5.out
      have hqe := fun (w : World) (r : Option Nat) => run_eql_map_nil (P := Tryz.prog) w 63 _ _ r Tryz.underlying63
      rcases look1 hO5 s hsm with ⟨hsB, hrun⟩ | ⟨hsB, ib, _, hq, _, hin, hrun⟩
      · obtain ⟨_, h31, _⟩ := HBX.out W5 HB5.out
        have r0 : W5.cell? ⟨w.heap.size + 1, 0, none⟩ = some (.slice none 0 0) := (cells_of_heap h31).1 0 _ rfl
        have r1 : W5.cell? ⟨w.heap.size + 1, 1, none⟩ = some (.bool false) := (cells_of_heap h31).1 1 _ rfl
        have r2 : W5.cell? ⟨w.heap.size + 1, 2, none⟩ = some (.string ⟨#[]⟩) := (cells_of_heap h31).1 2 _ rfl
        have r3 : W5.cell? ⟨w.heap.size + 1, 3, none⟩ = some (.int .i64 0) := (cells_of_heap h31).1 3 _ rfl
        have z0 : W5.frozen? ⟨w.heap.size + 1, 0, none⟩ = false := (cells_of_heap h31).2 0
        have z1 : W5.frozen? ⟨w.heap.size + 1, 1, none⟩ = false := (cells_of_heap h31).2 1
        have z2 : W5.frozen? ⟨w.heap.size + 1, 2, none⟩ = false := (cells_of_heap h31).2 2
        have z3 : W5.frozen? ⟨w.heap.size + 1, 3, none⟩ = false := (cells_of_heap h31).2 3
        have H31 := Lib.hid h31
        have HSB := Lib.hid hsB
        clear h31 hO5 hsB
        go_wp2
        (try simp only [Exit.inBlock, Exit.then])
        have h61 := heap_set (heap_set (heap_set (heap_set H31.out 0 (.slice none 0 0)) 1 (.bool false)) 2 (.string ⟨#[]⟩)) 3 (.int .i64 0)
        refine bodyPost_ret (ret_pair rfl _ _ (w.heap.size + 1) _ _ _ _ rfl h61 Tryz.underlying85 rfl (by kernel_rfl)) rfl ?_
        exact part_13 HOK.out HOA.out HSB.out (HEnd.out _ _ _ _ _ HB5.out)
      · obtain ⟨D2, o2, hv2⟩ := hin
        have HV2 := Lib.hid hv2
        have HSB := Lib.hid hsB
        have HF5 : Hid (∀ k, F k → IsC W5 k) := fun k hk => by
          obtain ⟨a, b, c, hh⟩ := HFi.out k hk
          exact ⟨a, b, c, (HB5.out.block k (isC_lt (HFi.out k hk))).trans hh⟩
        have HO2 := Lib.hid o2
        have hib : ib < W5.heap.size := o2.lt
        have HIB := Lib.hid hib
        clear hv2 hsB hO5 hq hib
        go_wp2_with (at_range; refine wpList_range_own _ rfl _ 63 rfl 9 64 KS Tryz.underlying63 R2 ib n D2 rfl o2 ?_; intro w6 hrg6 hg6 hs6)
        obtain ⟨r, hr⟩ : ∃ r, W5.heap.size = r := ⟨_, rfl⟩
        have HR := Lib.hid hr
        have HB6 : Hid (Below r W5 w6 ∧ r + 1 ≤ w6.heap.size) := ⟨by rw [← hr]; exact grown_below' hg6, by omega⟩
        rw [hr] at hrg6 ⊢
        clear hg6 hs6 o2 hrun c0 hr
        have HLen : Hid (∀ (V : World) (left : Lit → Bool) (ks : List (List UInt8)), KeysIn D2 left ks → (entsOf (S.V s) ks).length ≤ 640000) := fun V left ks hk => by
          have h1 := keysIn_len HO2.out hk
          have h2 := entsOf_len (HNs.out s) ks
          omega
        go_frame
        go_loopw [12] (fun va wr => ∃ (left : Lit → Bool) (cnt : Nat) (ks : List (List UInt8)) (sv : Value), sv = va ∧ Hid (Below r W5 wr ∧ r + 1 ≤ wr.heap.size) ∧ wr.ranges Tryz.prog 9 R2 ib r n D2 left cnt ∧ Hid (KeysIn D2 left ks ∧ ∀ k ∈ ks, k.length ≤ maxLen) ∧ Hid (wr.ownsRow (r + 1) 111 6 sv (entsOf (S.V s) ks).length ((entsOf (S.V s) ks).flatMap encE))) (fun _ wr => wr.rangeLeft ib r)
        case atStart => exact ⟨_, _, [], _, rfl, HB6, hrg6, (show Hid _ from ⟨keysIn_start D2, fun k hk => absurd hk List.not_mem_nil⟩), (show Hid _ from ⟨rfl, .inl ⟨rfl, rfl⟩⟩)⟩
        case round =>
          clear HB6 hrg6
          obtain ⟨left, cnt, ks, sv, hsv, HB, hrg, HK, HO⟩ := hrel
          subst hsv
          go_wp2_with (at_next; refine wpList_next_ranges _ rfl _ rfl 9 KS R2 (fun k : List UInt8 => .string (mkS k)) (fun q : Option Addr × Nat × Nat => .slice q.1 q.2.1 q.2.2) key_inv r2_inv ib r n D2 left cnt rfl hrg ?_ ?_)
          · intro h0 hl0
            have hall := allOf_end HV2.out HK.out.1 hl0
            obtain ⟨l, hl⟩ : ∃ l, entsOf (S.V s) ks = l := ⟨_, rfl⟩
            have hll : l.length ≤ 1000000 := by have := HLen.out wr left ks HK.out.1; rw [hl] at this; omega
            have hlk : ∀ x ∈ l, x.key.size ≤ maxLen := fun x hx => by
              rw [← hl] at hx
              obtain ⟨k, hk, e⟩ := entsOf_key hx
              rw [e, mkS_size]
              exact HK.out.2 k hk
            have hro := (rowE_own (by rw [← hl]; exact HO.out) : RowE wr sv l ∧ _).1
            have HBw : Hid (Below w2.heap.size w2 wr) := HB5.out.trans ((HR.out ▸ HB.out.1 : Below W5.heap.size W5 wr).mono HB5.out.size)
            have HC2 := Lib.hid (HFn.out l sv wr hll hlk hro)
            obtain ⟨h30, _, _⟩ := HBX.out wr HBw.out
            have q0 : wr.cell? ⟨w.heap.size, 0, none⟩ = some (.string pre) := (cells_of_heap h30).1 0 _ rfl
            have q1 : wr.cell? ⟨w.heap.size, 1, none⟩ = some (.string fr) := (cells_of_heap h30).1 1 _ rfl
            have q2 : wr.cell? ⟨w.heap.size, 2, none⟩ = some (.int .i64 fid) := (cells_of_heap h30).1 2 _ rfl
            have q3 : wr.cell? ⟨w.heap.size, 3, none⟩ = some (.int .i64 most) := (cells_of_heap h30).1 3 _ rfl
            have HALL := Lib.hid hall
            have HL := Lib.hid hl
            clear h30 hall hl hll hlk hro hl0
            go_wp2_with fail
            refine HC2.out.mono ?_
            intro e w8 hpa
            obtain ⟨⟨sv2, o2, m2, k2, i2, rfl, hro2, hfr2, hres⟩, hb8⟩ := pageAns_ok.1 hpa
            have HB8 : Hid (Below w2.heap.size w2 w8) := HBw.out.trans (hb8.mono HBw.out.size)
            obtain ⟨_, h31, hsz8⟩ := HBX.out w8 HB8.out
            have r0 : w8.cell? ⟨w.heap.size + 1, 0, none⟩ = some (.slice none 0 0) := (cells_of_heap h31).1 0 _ rfl
            have r1 : w8.cell? ⟨w.heap.size + 1, 1, none⟩ = some (.bool false) := (cells_of_heap h31).1 1 _ rfl
            have r2 : w8.cell? ⟨w.heap.size + 1, 2, none⟩ = some (.string ⟨#[]⟩) := (cells_of_heap h31).1 2 _ rfl
            have r3 : w8.cell? ⟨w.heap.size + 1, 3, none⟩ = some (.int .i64 0) := (cells_of_heap h31).1 3 _ rfl
            have z0 : w8.frozen? ⟨w.heap.size + 1, 0, none⟩ = false := (cells_of_heap h31).2 0
            have z1 : w8.frozen? ⟨w.heap.size + 1, 1, none⟩ = false := (cells_of_heap h31).2 1
            have z2 : w8.frozen? ⟨w.heap.size + 1, 2, none⟩ = false := (cells_of_heap h31).2 2
            have z3 : w8.frozen? ⟨w.heap.size + 1, 3, none⟩ = false := (cells_of_heap h31).2 3
            have HN2 : Hid (∀ b f n c, sv2 = .slice (some ⟨b, f, none⟩) n c → w.heap.size + 2 ≤ b) := fun b f n c h => by
              have h1 := hfr2 b f n c h
              have h2 := HBw.out.size
              have h3 := HS2.out
              omega
            obtain ⟨p2, c2, rfl, _⟩ := len_of_row hro2
            obtain ⟨n2, hn2⟩ : ∃ n2, o2.length = n2 := ⟨_, rfl⟩
            rw [hn2] at hro2 HN2 ⊢
            have HRO := Lib.hid hro2
            have HRES := Lib.hid hres
            have H31 := Lib.hid h31
            clear h31 hro2 hfr2 hres hb8 hpa hn2
            go_wp2
            (try simp only [Exit.inBlock, Exit.then])
            have h61 := heap_set (heap_set (heap_set (heap_set H31.out 0 (.slice p2 n2 c2)) 1 (.bool m2)) 2 (.string k2)) 3 (.int .i64 i2)
            refine bodyPost_ret (ret_pair rfl _ _ (w.heap.size + 1) _ _ _ _ rfl h61 Tryz.underlying85 rfl (by kernel_rfl)) rfl ?_
            exact part_0 HOK.out HOA.out HSB.out (HEnd.out _ _ _ _ _ HB8.out) HALL.out (rowE_set (rowE_set (rowE_set (rowE_set HRO.out (fun b f n c h => by have := HN2.out b f n c h; omega) _ _) (fun b f n c h => by have := HN2.out b f n c h; omega) _ _) (fun b f n c h => by have := HN2.out b f n c h; omega) _ _) (fun b f n c h => by have := HN2.out b f n c h; omega) _ _) (fun b f n c h => by have := HN2.out b f n c h; omega) (by rw [HL.out]; exact HRES.out)
          · intro k A m c kl yd yp w7 cnt3 hkey hlk hv hat hrg7 hlt hg7 hs7 hen
            obtain ⟨hkl, rfl, hrow⟩ := inner_came HV2.out hkey hv hat
            obtain ⟨A', c', hve, _⟩ := hrow.slice
            injection hve with hva hve hvc
            clear hva hvc
            have HVE : Hid (m = (S.V s k).length) := hve
            have hm64 : m ≤ 64 := by have := HNs.out s k; omega
            have HB7 : Hid (Below r W5 w7 ∧ r + 1 ≤ w7.heap.size) := ⟨⟨hg7.os.trans HB.out.1.os, hg7.tape.trans HB.out.1.tape, hg7.output.trans HB.out.1.output, Nat.le_trans HB.out.1.size hg7.size, fun i hi => (hg7.block i (by have := HB.out.2; omega) (fun e => by injection e with e; omega)).trans (HB.out.1.block i hi)⟩, Nat.le_trans HB.out.2 hg7.size⟩
            have HO7 : Hid (w7.ownsRow (r + 1) 111 6 sv (entsOf (S.V s) ks).length ((entsOf (S.V s) ks).flatMap encE)) := own_at HO.out fun g hg => hg7.block g (own_lt HO.out g hg) (fun e => by injection e with e; have := own_ge HO.out g hg; omega)
            have HEl : Hid (∀ V, Below r W5 V → ∀ i, i < m → ∃ (x : Kp) (A1 : Option Addr) (c1 g1 : Nat), A = some ⟨g1, 0, none⟩ ∧ (S.V s k)[i]? = some x ∧ KAt V g1 (i * 5) x A1 c1 ∧ g1 < r) := fun V hV i hi => by
              have := row_els HF5.out hrow V (by rw [HR.out]; exact hV) i hi
              rw [HR.out] at this
              exact this
            have HKL := Lib.hid hkl
            have HLT := Lib.hid hlt
            have HLK := Lib.hid hlk
            have HHas := Lib.hid (has_of_hat hat)
            have hkz : (mkS k).size ≤ maxLen := by rw [mkS_size]; exact hkl
            obtain ⟨wo, rfl⟩ : ∃ wo : World, wo = wr := ⟨_, rfl⟩
            clear hkey hlk hv hat hg7 hs7 hkl hrow hve hlt
            go_wp2_with fail
            go_loopw [12, 57] (fun va vi wr => ∃ (i : Nat) (sv : Value), sv = va ∧ vi = .int .i64 i ∧ i ≤ m ∧ Hid (Below (r + 1) w7 wr ∧ r + 1 ≤ wr.heap.size) ∧ Hid (wr.ownsRow (r + 1) 111 6 sv (entsOf (S.V s) ks ++ (entsK k (S.V s k)).take i).length ((entsOf (S.V s) ks ++ (entsK k (S.V s k)).take i).flatMap encE))) (fun _ vi _ => m - (intOf vi).toNat)
            case atStart => exact ⟨0, _, rfl, rfl, Nat.zero_le _, ⟨Below.refl _ _, HB7.out.2⟩, (by show World.ownsRow _ _ _ _ _ _ _; rw [List.take_zero, List.append_nil]; exact HO7.out)⟩
            case round =>
              obtain ⟨i, sw, hsw, rfl, hi, HBi, HOi⟩ := hrel
              subst hsw
              by_cases hlt2 : i < m
              · have hltz : (i : Int) < (m : Int) := by omega
                obtain ⟨x, A1, c1, g1, rfl, hx, ⟨a0, a1, a2, a3, a4⟩, hg1⟩ := HEl.out wr (HB7.out.1.trans (HBi.out.1.mono (Nat.le_succ r))) i hlt2
                obtain ⟨la, hla⟩ : ∃ la, ((i : Int) == (m : Int) - 1) = la := ⟨_, rfl⟩
                have HLA : Hid (la = decide (i + 1 = m)) := by
                  show _ = _
                  rw [← hla, Bool.eq_iff_iff, beq_iff_eq, decide_eq_true_eq]
                  omega
                have HX := Lib.hid hx
                clear hx
                have hcnt : (entsOf (S.V s) ks ++ (entsK k (S.V s k)).take i).length ≤ 700000 := by
                  have h1 := HLen.out wr left ks HK.out.1
                  rw [List.length_append, List.length_take]
                  omega
                obtain ⟨E, hE⟩ : ∃ E, entsOf (S.V s) ks ++ (entsK k (S.V s k)).take i = E := ⟨_, rfl⟩
                rw [hE] at HOi hcnt
                have HE := Lib.hid hE
                obtain ⟨ps, cs, rfl⟩ : ∃ ps cs, sw = .slice ps E.length cs := by
                  rcases HOi.out.2 with ⟨h1, h2⟩ | ⟨g2, c2, _, h1, _⟩
                  · exact ⟨none, 0, by rw [h1, h2]⟩
                  · exact ⟨_, _, h1⟩
                obtain ⟨i0, hi0, hz0, hz1, hz2⟩ := info_parts infoE
                have hg1r : g1 ≠ wr.heap.size := by have := HBi.out.2; omega
                clear hE
                go_wp2_with (first
                  | (at_builtin; refine wpList_append_lies _ rfl _ _ 39 rfl (r + 1) 111 i0 _ 6 56 Tryz.underlying39 hi0 hz0 hz1 hz2 rfl (by omega) (.slice ps E.length cs) E.length (E.flatMap encE) rfl ((HOi.out.alloc _).alloc _) ⟨wr.heap.size + 1, 0, none⟩ 1 1 (encE ⟨mkS k, x.id, x.mark, x.sz, x.sum, la⟩) rfl rfl (World.news_of_block (cs := (encE ⟨mkS k, x.id, x.mark, x.sz, x.sum, la⟩).toArray) (t := 111) (fr := (0, 0)) (by have := heap_alloc_new (wr.alloc (.cells #[.int .i64 x.id, .bool x.mark, .int .i64 x.sz, .int .u32 x.sum, .slice A1 x.dt.length c1] 67)) (.cells (encE ⟨mkS k, x.id, x.mark, x.sz, x.sum, la⟩).toArray 111); simpa [encE] using this)) (encE_one _) (by omega) (by unfold maxLen; omega) (by omega) (by have := HBi.out.2; simp; omega) (wr.heap.size + 2) (by simp) ?_; intro g9 cap9 w9 hown9 hgrow9 _ hlt9; have HO9 := Lib.hid hown9; clear hown9; have HG9 := Lib.hid hgrow9; clear hgrow9))
                have HB9 : Hid (Below (r + 1) w7 w9 ∧ r + 1 ≤ w9.heap.size) := by
                  have h1 := HBi.out.2
                  have hb : Below (r + 1) w7 w9 := ((HBi.out.1.alloc h1 _).alloc (by simp; omega) _).grown HG9.out (by simp; omega) (own_ge HOi.out)
                  exact ⟨hb, Nat.le_trans (by simp; omega) HG9.out.size⟩
                have HO10 : Hid (w9.ownsRow (r + 1) 111 6 (.slice (some ⟨g9, 0, none⟩) (E.length + 1) cap9) (entsOf (S.V s) ks ++ (entsK k (S.V s k)).take (i + 1)).length ((entsOf (S.V s) ks ++ (entsK k (S.V s k)).take (i + 1)).flatMap encE)) := by
                  show World.ownsRow _ _ _ _ _ _ _
                  have e : entsOf (S.V s) ks ++ (entsK k (S.V s k)).take (i + 1) = E ++ [⟨mkS k, x.id, x.mark, x.sz, x.sum, la⟩] := by
                    rw [entsK_take k _ i x HX.out, ← List.append_assoc, HE.out, HLA.out, HVE.out]
                    rfl
                  rw [e, List.length_append, List.flatMap_append]
                  simpa using HO9.out
                clear HG9 HO9
                go_roundw
                case rel => exact ⟨i + 1, _, rfl, by go_num, by omega, HB9, HO10⟩
                case measure => simp [intOf]; omega
              · obtain rfl : i = m := by omega
                go_wp2
                go_roundw
                case rel =>
                  refine ⟨_, cnt3, ks ++ [k], _, rfl, ⟨HB7.out.1.trans (HBi.out.1.mono (Nat.le_succ r)), HBi.out.2⟩, ranges_at hrg7 (HBi.out.1.block ib (by have := HIB.out; have := HR.out; omega)) (HBi.out.1.block r (Nat.lt_succ_self r)), (show Hid _ from ⟨keysIn_step HK.out.1 HLK.out HHas.out, fun k' hk' => ?_⟩), ?_⟩
                  · rcases List.mem_append.1 hk' with h | h
                    · exact HK.out.2 k' h
                    · rw [List.mem_singleton.1 h]
                      exact HKL.out
                  · show World.ownsRow _ _ _ _ _ _ _
                    rw [entsOf_snoc]
                    have := HOi.out
                    rwa [List.take_of_length_le (by rw [entsK_length, HVE.out]; exact Nat.le_refl _)] at this
                case measure => rw [(ranges_at hrg7 (HBi.out.1.block ib (by have := HIB.out; have := HR.out; omega)) (HBi.out.1.block r (Nat.lt_succ_self r))).left_eq, hrg.left_eq]; exact HLT.out
end Go.Proofs.YtjbjcfnbgcloiaaGreatDoor

/- Objects and Versions of package model. -/
set_option linter.unusedSimpArgs false
set_option linter.unusedVariables false
namespace Go.Proofs.YtjbjcfnbgcloiaaGreatDoor
open Go.RowKit Nam YtjbjcfnbgcloiaaGreatDoorW.PrintWords Go.Lib

theorem part_cases {S : St} {s : List UInt8} {q : AskV} {Res : List Ent → List Ent → Bool → ByteArray → Int → Prop} {w2 : World} {e : Ending} {w3 : World} (h : PartIs S s q Res w2 e w3) :
    ∃ (p : Option Addr) (nn cc : Nat) (m : Bool) (k : ByteArray) (i er : Int), e = ansP (.slice p nn cc) m k i er ∧ Below w2.heap.size w2 w3 ∧ ∀ (w : World), Below w.heap.size w w2 → ∀ {g : Nat}, g < w2.heap.size → ∀ {w4 : World}, Below w.heap.size w w4 → (∀ {o : List Ent}, RowE w3 (.slice p nn cc) o → (∀ b f n c, Value.slice p nn cc = .slice (some ⟨b, f, none⟩) n c → b ≠ g) → RowE w4 (.slice p nn cc) o) → PartIs S s q Res w (ansP (.slice p nn cc) m k i er) w4 := by
  obtain ⟨hb, h⟩ := h
  by_cases h1 : bucketB s = false
  · rw [if_pos h1] at h
    exact ⟨_, _, _, _, _, _, _, h, hb, fun w _ _ _ w4 h4 _ => part_12 h1 h4⟩
  · rw [if_neg h1] at h
    have h1 : bucketB s = true := by simpa using h1
    by_cases h2 : okA q = false
    · rw [if_pos h2] at h
      exact ⟨_, _, _, _, _, _, _, h, hb, fun w _ _ _ w4 h4 _ => part_1 h1 h2 h4⟩
    · rw [if_neg h2] at h
      have h2 : okA q = true := by simpa using h2
      by_cases h3 : s ∈ S.B
      · rw [if_neg (fun e => e h3)] at h
        obtain ⟨ks, sv, o, m, k, i, ha, rfl, hr, hf, hR⟩ := h
        obtain ⟨p, cc, rfl, _⟩ := len_of_row hr
        exact ⟨p, _, cc, m, k, i, 0, rfl, hb, fun w hw g hg w4 h4 hk => part_0 h1 h2 h3 h4 ha (hk hr fun b f n c e => by have := hf b f n c e; omega) (fun b f n c e => Nat.le_trans hw.size (hf b f n c e)) hR⟩
      · rw [if_pos h3] at h
        exact ⟨_, _, _, _, _, _, _, h, hb, fun w _ _ _ w4 h4 _ => part_13 h1 h2 h3 h4⟩
set_option maxHeartbeats 2000000 in
set_option maxRecDepth 100000 in
theorem mobjects_is (w : World) (g : Nat) (S : St) (n : Nat) (Q F : Nat → Prop) (s : List UInt8) (q : AskV) (hs : s.length ≤ 100000) (hq : q.pre.size ≤ maxLen) (hm : HasM w g S n Q F) (hfi : S.Fine) (hn : n ≤ 10000) :
    Calls Tryz.prog 36 #[.pointer (some ⟨g, 0, none⟩), .string (mkS s), .agg #[.string q.pre, .string q.fr, .int .i64 q.fid, .int .i64 q.most]] w (PartIs S s q (ObjR q) w) := by
  obtain ⟨w2, hw2⟩ : ∃ w2, (w.alloc (.cells #[.string q.pre, .string q.fr, .int .i64 q.fid, .int .i64 q.most] 88)).alloc (.cells #[.slice none 0 0, .bool false, .string ⟨#[]⟩, .int .i64 0] 85) = w2 := ⟨_, rfl⟩
  have hs2 : w2.heap.size = w.heap.size + 2 := by rw [← hw2]; simp
  have hb2 : Below w.heap.size w w2 := by
    rw [← hw2]
    exact ((Below.refl _ _).alloc (Nat.le_refl _) _).alloc (by simp) _
  have h21 : w2.heap[w.heap.size + 1]? = some (.cells #[.slice none 0 0, .bool false, .string ⟨#[]⟩, .int .i64 0] 85 (0, 0)) := by
    rw [← hw2]
    have := heap_alloc_new (w.alloc (.cells #[.string q.pre, .string q.fr, .int .i64 q.fid, .int .i64 q.most] 88)) (.cells #[.slice none 0 0, .bool false, .string ⟨#[]⟩, .int .i64 0] 85)
    simpa using this
  have HC := Lib.hid (part_is w2 g S n Q F s q _ _ hs (hm.below hb2) (objsF q hq) hfi hn)
  have HW := Lib.hid hw2
  have H21 := Lib.hid h21
  have HB2 := Lib.hid hb2
  have HS2 := Lib.hid hs2
  obtain ⟨pre, fr, fid, most⟩ := q
  clear hm hfi hq hw2 h21 hb2 hs2
  go_enter Tryz.func36, Tryz.ntmps36
  go_wp2_with fail
  rw [show (w.alloc (.cells #[.string pre, .string fr, .int .i64 fid, .int .i64 most] 88)).alloc (.cells #[.slice none 0 0, .bool false, .string ⟨#[]⟩, .int .i64 0] 85) = w2 from HW.out]
  refine HC.out.mono ?_
  intro e w3 hpa
  obtain ⟨p, nn, cc, m, k, i, er, rfl, hb3, htell⟩ := part_cases hpa
  have h31 := (hb3.block _ (by have := HS2.out; omega)).trans H21.out
  have r0 : w3.cell? ⟨w.heap.size + 1, 0, none⟩ = some (.slice none 0 0) := (cells_of_heap h31).1 0 _ rfl
  have r1 : w3.cell? ⟨w.heap.size + 1, 1, none⟩ = some (.bool false) := (cells_of_heap h31).1 1 _ rfl
  have r2 : w3.cell? ⟨w.heap.size + 1, 2, none⟩ = some (.string ⟨#[]⟩) := (cells_of_heap h31).1 2 _ rfl
  have r3 : w3.cell? ⟨w.heap.size + 1, 3, none⟩ = some (.int .i64 0) := (cells_of_heap h31).1 3 _ rfl
  have z0 : w3.frozen? ⟨w.heap.size + 1, 0, none⟩ = false := (cells_of_heap h31).2 0
  have z1 : w3.frozen? ⟨w.heap.size + 1, 1, none⟩ = false := (cells_of_heap h31).2 1
  have z2 : w3.frozen? ⟨w.heap.size + 1, 2, none⟩ = false := (cells_of_heap h31).2 2
  have z3 : w3.frozen? ⟨w.heap.size + 1, 3, none⟩ = false := (cells_of_heap h31).2 3
  have H31 := Lib.hid h31
  have HB3 : Hid (Below w.heap.size w w3) := HB2.out.trans (hb3.mono HB2.out.size)
  have HT := Lib.hid htell
  clear h31 hb3 htell hpa
  go_wp2
  (try simp only [Exit.inBlock, Exit.then])
  have h61 := heap_set (heap_set (heap_set (heap_set H31.out 0 (.slice p nn cc)) 1 (.bool m)) 2 (.string k)) 3 (.int .i64 i)
  refine bodyPost_ret (ret_pair rfl _ _ (w.heap.size + 1) _ _ _ _ rfl h61 Tryz.underlying85 rfl (by kernel_rfl)) rfl ?_
  exact HT.out _ HB2.out (by have := HS2.out; omega) ((((HB3.out.setCell (p := ⟨w.heap.size + 1, 0, none⟩) (Nat.le_succ _) _).setCell (p := ⟨w.heap.size + 1, 1, none⟩) (Nat.le_succ _) _).setCell (p := ⟨w.heap.size + 1, 2, none⟩) (Nat.le_succ _) _).setCell (p := ⟨w.heap.size + 1, 3, none⟩) (Nat.le_succ _) _) (fun h hn => rowE_set (rowE_set (rowE_set (rowE_set h hn _ _) hn _ _) hn _ _) hn _ _)
set_option maxHeartbeats 2000000 in
set_option maxRecDepth 100000 in
theorem mversions_is (w : World) (g : Nat) (S : St) (n : Nat) (Q F : Nat → Prop) (s : List UInt8) (q : AskV) (hs : s.length ≤ 100000) (hq : q.pre.size ≤ maxLen) (hm : HasM w g S n Q F) (hfi : S.Fine) (hn : n ≤ 10000) :
    Calls Tryz.prog 39 #[.pointer (some ⟨g, 0, none⟩), .string (mkS s), .agg #[.string q.pre, .string q.fr, .int .i64 q.fid, .int .i64 q.most]] w (PartIs S s q (VerR q) w) := by
  obtain ⟨w2, hw2⟩ : ∃ w2, (w.alloc (.cells #[.string q.pre, .string q.fr, .int .i64 q.fid, .int .i64 q.most] 88)).alloc (.cells #[.slice none 0 0, .bool false, .string ⟨#[]⟩, .int .i64 0] 85) = w2 := ⟨_, rfl⟩
  have hs2 : w2.heap.size = w.heap.size + 2 := by rw [← hw2]; simp
  have hb2 : Below w.heap.size w w2 := by
    rw [← hw2]
    exact ((Below.refl _ _).alloc (Nat.le_refl _) _).alloc (by simp) _
  have h21 : w2.heap[w.heap.size + 1]? = some (.cells #[.slice none 0 0, .bool false, .string ⟨#[]⟩, .int .i64 0] 85 (0, 0)) := by
    rw [← hw2]
    have := heap_alloc_new (w.alloc (.cells #[.string q.pre, .string q.fr, .int .i64 q.fid, .int .i64 q.most] 88)) (.cells #[.slice none 0 0, .bool false, .string ⟨#[]⟩, .int .i64 0] 85)
    simpa using this
  have HC := Lib.hid (part_is w2 g S n Q F s q _ _ hs (hm.below hb2) (versF q hq) hfi hn)
  have HW := Lib.hid hw2
  have H21 := Lib.hid h21
  have HB2 := Lib.hid hb2
  have HS2 := Lib.hid hs2
  obtain ⟨pre, fr, fid, most⟩ := q
  clear hm hfi hq hw2 h21 hb2 hs2
  go_enter Tryz.func39, Tryz.ntmps39
  go_wp2_with fail
  rw [show (w.alloc (.cells #[.string pre, .string fr, .int .i64 fid, .int .i64 most] 88)).alloc (.cells #[.slice none 0 0, .bool false, .string ⟨#[]⟩, .int .i64 0] 85) = w2 from HW.out]
  refine HC.out.mono ?_
  intro e w3 hpa
  obtain ⟨p, nn, cc, m, k, i, er, rfl, hb3, htell⟩ := part_cases hpa
  have h31 := (hb3.block _ (by have := HS2.out; omega)).trans H21.out
  have r0 : w3.cell? ⟨w.heap.size + 1, 0, none⟩ = some (.slice none 0 0) := (cells_of_heap h31).1 0 _ rfl
  have r1 : w3.cell? ⟨w.heap.size + 1, 1, none⟩ = some (.bool false) := (cells_of_heap h31).1 1 _ rfl
  have r2 : w3.cell? ⟨w.heap.size + 1, 2, none⟩ = some (.string ⟨#[]⟩) := (cells_of_heap h31).1 2 _ rfl
  have r3 : w3.cell? ⟨w.heap.size + 1, 3, none⟩ = some (.int .i64 0) := (cells_of_heap h31).1 3 _ rfl
  have z0 : w3.frozen? ⟨w.heap.size + 1, 0, none⟩ = false := (cells_of_heap h31).2 0
  have z1 : w3.frozen? ⟨w.heap.size + 1, 1, none⟩ = false := (cells_of_heap h31).2 1
  have z2 : w3.frozen? ⟨w.heap.size + 1, 2, none⟩ = false := (cells_of_heap h31).2 2
  have z3 : w3.frozen? ⟨w.heap.size + 1, 3, none⟩ = false := (cells_of_heap h31).2 3
  have H31 := Lib.hid h31
  have HB3 : Hid (Below w.heap.size w w3) := HB2.out.trans (hb3.mono HB2.out.size)
  have HT := Lib.hid htell
  clear h31 hb3 htell hpa
  go_wp2
  (try simp only [Exit.inBlock, Exit.then])
  have h61 := heap_set (heap_set (heap_set (heap_set H31.out 0 (.slice p nn cc)) 1 (.bool m)) 2 (.string k)) 3 (.int .i64 i)
  refine bodyPost_ret (ret_pair rfl _ _ (w.heap.size + 1) _ _ _ _ rfl h61 Tryz.underlying85 rfl (by kernel_rfl)) rfl ?_
  exact HT.out _ HB2.out (by have := HS2.out; omega) ((((HB3.out.setCell (p := ⟨w.heap.size + 1, 0, none⟩) (Nat.le_succ _) _).setCell (p := ⟨w.heap.size + 1, 1, none⟩) (Nat.le_succ _) _).setCell (p := ⟨w.heap.size + 1, 2, none⟩) (Nat.le_succ _) _).setCell (p := ⟨w.heap.size + 1, 3, none⟩) (Nat.le_succ _) _) (fun h hn => rowE_set (rowE_set (rowE_set (rowE_set h hn _ _) hn _ _) hn _ _) hn _ _)
end Go.Proofs.YtjbjcfnbgcloiaaGreatDoor

/- Buckets of package model: its buckets' names, rising. -/
namespace Go.Proofs.YtjbjcfnbgcloiaaGreatDoor
open Go.RowKit Nam YtjbjcfnbgcloiaaGreatDoorW.PrintWords Go.Shelf Go.Sort

abbrev fK : Nat := 60
abbrev fI : Nat := 87
abbrev fS : Nat := 59
theorem sortsB (m : Nat) : AnyZ.SortsIn Tryz.prog Tryz.sortedB_ren Fence.wide m :=
  ⟨fun blk off cap ss W hH hblk hsz => callsIn_wide.2 (AnyM.slices_Sort_string Tryz.sortB blk off cap ss W hH hblk hsz),
   fun p cap W => callsIn_wide.2 (AnyM.slices_Sort_string_none Tryz.sortB p cap W)⟩
theorem keysB_is (mb : Option Nat) (W : World) : Calls Tryz.prog fK #[.map mb] W fun e w' => e = .returned (.func (.func fI) #[] #[.pointer (some ⟨W.heap.size, 0, none⟩)]) ∧ w' = W.alloc (.cells #[.map mb] 57) :=
  (callsIn_wide (n := 5)).1 (AnyZ.keys_in Tryz.keysB Fence.wide 5 trivial rfl mb W)
set_option maxHeartbeats 1000000 in
theorem sortedB_is (b nn : Nat) (D0 : DataW Unit) (R : Value → Option (DataW Unit × List MemPlace)) (w : World) (hown : w.ownsMap Tryz.prog 9 R b nn D0) (hmax : Maps.size D0 ≤ maxLen) (hbytes : Maps.size D0 * 16 ≤ 140737488355328) :
    Calls Tryz.prog fS #[.func (.func fI) #[] #[.pointer (some ⟨w.heap.size, 0, none⟩)]] (w.alloc (.cells #[.map (some b)] 57)) fun e w' => ∃ (v : Value) (ss : List (List UInt8)), e = .returned v ∧ ss.Perm (strKeys D0) ∧
      w'.ownsRow (w.alloc (.cells #[.map (some b)] 57)).heap.size 9 1 v ss.length ((ss.mergeSort (fun x y => decide (x ≤ y))).map encStr) ∧ (v = .slice none 0 0 ↔ ss = []) ∧ Below (w.alloc (.cells #[.map (some b)] 57)).heap.size (w.alloc (.cells #[.map (some b)] 57)) w' := by
  have hbl := hown.lt
  have hseq : SeqGives Fence.wide 2 Tryz.prog fI #[.pointer (some ⟨w.heap.size, 0, none⟩)] encStr (fun ss => ss.Perm (strKeys D0)) (Maps.size D0) (w.alloc (.cells #[.map (some b)] 57)) :=
    AnyZ.keys_gives (ρ := Tryz.keysB_ren) { Tryz.keysB with } Fence.wide _ trivial rfl (by omega) w.heap.size b nn D0 _ (by simp) (by simp) (by
      obtain ⟨es, clock, hb, Ft, hs, hD⟩ := hown
      exact ⟨es, clock, (Below.heap_alloc _ _ b hbl).trans hb, Ft, hs, hD⟩)
  exact (callsIn_wide (n := 5)).1 (AnyZ.sorted_in Tryz.sortedB Fence.wide 5 trivial trivial trivial trivial rfl (by omega) (sortsB _) (enters_of Tryz.func86 (by kernel_rfl) rfl) fI #[.pointer (some ⟨w.heap.size, 0, none⟩)] trivial (enters_of Tryz.func87 (by kernel_rfl) rfl) _ _ hmax hbytes _ hseq)

theorem nodup_perm {α : Type} [DecidableEq α] : ∀ {l m : List α}, l.Nodup → m.Nodup → (∀ x, x ∈ l ↔ x ∈ m) → l.Perm m
  | [], m, _, _, h => by
    cases m with
    | nil => exact List.Perm.refl _
    | cons a r => exact absurd ((h a).2 List.mem_cons_self) List.not_mem_nil
  | a :: l, m, hl, hm, h => by
    have ha : a ∈ m := (h a).1 List.mem_cons_self
    have hp : m.Perm (a :: m.erase a) := List.perm_cons_erase ha
    refine List.Perm.trans (List.Perm.cons a (nodup_perm (List.nodup_cons.1 hl).2 (hm.erase a) fun x => ?_)) hp.symm
    rw [List.Nodup.mem_erase_iff hm]
    constructor
    · intro hx
      exact ⟨fun e => (List.nodup_cons.1 hl).1 (by rw [← e]; exact hx), (h x).1 (List.mem_cons_of_mem _ hx)⟩
    · rintro ⟨h1, h2⟩
      exact (List.mem_cons.1 ((h x).2 h2)).resolve_left h1
theorem keys_perm {w : World} {g n mb : Nat} {S : St} {Q F : Nat → Prop} {D : DataW Unit} (h : Outer w g S n Q F mb D) (nd : S.B.Nodup) : (strKeys D).Perm S.B := by
  obtain ⟨es, hD, hn⟩ := strMap_of h.o
  have hk : strKeys D = es.map Prod.fst := by
    rw [hD]
    show ((es.map fun p => (Lit.string p.1, p.2)).map fun p => strOf p.1) = _
    rw [List.map_map]
    rfl
  rw [hk]
  refine nodup_perm hn nd fun s => ?_
  have := h.hs s
  rw [hD, sm_has] at this
  exact decide_eq_decide.1 this
def BuckIs (S : St) (w : World) (e : Ending) (w' : World) : Prop :=
  (∃ (v : Value) (ss : List (List UInt8)), e = .returned v ∧ ss.Perm S.B ∧ w'.ownsRow w.heap.size 9 1 v ss.length ((ss.mergeSort (fun x y => decide (x ≤ y))).map encStr)) ∧ Below w.heap.size w w'
set_option maxHeartbeats 1000000 in
theorem buckets_is (w : World) (g : Nat) (S : St) (n : Nat) (Q F : Nat → Prop) (hl : S.B.length ≤ 1000) (hm : HasM w g S n Q F) :
    Calls Tryz.prog 32 #[.pointer (some ⟨g, 0, none⟩)] w (BuckIs S w) := by
  obtain ⟨mb, D, hO⟩ := hm.ex
  have c0 := (blk_cell hO.c 0).trans (rfl : _ = some (Value.map (some mb)))
  have hp := keys_perm hO hm.nd
  have HKe : Hid (Calls Tryz.prog fK #[.map (some mb)] w fun e w' => e = .returned (.func (.func fI) #[] #[.pointer (some ⟨w.heap.size, 0, none⟩)]) ∧ w' = w.alloc (.cells #[.map (some mb)] 57)) := keysB_is (some mb) w
  have HSo : Hid (Calls Tryz.prog fS #[.func (.func fI) #[] #[.pointer (some ⟨w.heap.size, 0, none⟩)]] (w.alloc (.cells #[.map (some mb)] 57)) (BuckIs S w)) :=
    (sortedB_is mb n D R1 w hO.o (by rw [hO.sz]; unfold maxLen; omega) (by rw [hO.sz]; omega)).mono fun e w' ⟨v, ss, he, h1, h2, _, hb⟩ => by
      have hb1 : Below w.heap.size w (w.alloc (.cells #[.map (some mb)] 57)) := (Below.refl _ _).alloc (Nat.le_refl _) _
      exact ⟨⟨v, ss, he, h1.trans hp, own_weaken h2 hb1.size⟩, hb1.trans (hb.mono hb1.size)⟩
  clear hO hm hp
  go_enter Tryz.func32, Tryz.ntmps32
  go_wp2_with fail
  refine HKe.out.mono ?_
  rintro e w' ⟨rfl, rfl⟩
  go_wp2_with fail
  refine HSo.out.mono ?_
  rintro e w2 ⟨⟨v, ss, rfl, h1, h2⟩, hb⟩
  have HH := Lib.hid (And.intro h1 (And.intro h2 hb))
  clear h1 h2 hb
  go_wp2_with fail
  go_ret
  exact ⟨⟨v, ss, rfl, HH.out.1, HH.out.2.1⟩, HH.out.2.2⟩
end Go.Proofs.YtjbjcfnbgcloiaaGreatDoor
