/- page.cut: the part of those for which something is so. -/
import Derived.Test.YtgaejaadjmcckaaPKept
import Derived.Deep.AppendLies
import Derived.Laws.ResultCell
namespace Go.Proofs.Ytgaejaadjmcckaa
open Go.Shelf Go.RowKit Go.Lib Nam

/-- Those that are asked for, of a sorted row. -/
def selE (p : Ent → Bool) (q : AskV) (l : List Ent) : List Ent := l.filter fun x => prefixB x.key.data.toList q.pre.data.toList && p x

/-- What is told of them. -/
def cutKey (n : Nat) (f : List Ent) : ByteArray := if n < f.length then (f.getD (n - 1) default).key else ⟨#[]⟩
def cutId (n : Nat) (f : List Ent) : Int := if n < f.length then (f.getD (n - 1) default).id else 0

theorem infoE : (Try.prog.info? 32).map (fun i => (i.zero, i.size, i.bytes)) = some (some (.agg #[.string ⟨#[]⟩, .int .i64 0, .bool false, .int .i64 0, .int .u32 0, .bool false]), 6, 56) := by kernel_rfl

theorem ret_pair {P : Program} {fn : Func} {p u : Tmp} {ty : TypeId} (h : fn.results = #[.cell p ty, .tmp u]) (tmps : Array Value) (w : World) (g : Nat) (t : TypeId) (cs : Array Value) (fr : Nat × Nat) (d : TypeDesc)
    (hp : tmps.getD p undef = .pointer (some ⟨g, 0, none⟩)) (hg : w.heap[g]? = some (.cells cs t fr))
    (hu : P.underlying ty = some d) (hd : (match d with | .struct _ | .array _ _ => true | _ => false) = true) (hi : (P.info? ty).map (·.size) = some cs.size) :
    (results fn tmps).run P w = .ok (.tuple #[.agg cs, tmps.getD u undef]) w := by
  rw [results_cell_tmp h, hp]
  simp [asAddr, run_loadVar_row w g t ty cs fr d hg hu hd hi]

/-- A row that is owned, read. -/
theorem rowE_own {W : World} {base : Nat} {sv : Value} {f : List Ent} (h : W.ownsRow base 32 6 sv f.length (f.flatMap encE)) : RowE W sv f ∧ ∀ b o n c, sv = .slice (some ⟨b, o, none⟩) n c → base ≤ b := by
  rcases h.2 with ⟨h1, h2⟩ | ⟨g, cap, cur, h1, h2, h3, _⟩
  · exact ⟨.inl ⟨h1, List.length_eq_zero_iff.1 h2⟩, fun b o n c hh => by rw [h1] at hh; cases hh⟩
  · subst h1
    refine ⟨.inr ⟨g, 0, cap, rfl, (Array.getElem?_eq_some_iff.1 h3).1, fun j u hj => ?_⟩, fun b o n c hh => by cases hh; exact h2⟩
    have hj' : j < f.length * 6 := by rw [← flat_length]; exact (List.getElem?_eq_some_iff.1 hj).1
    rw [Nat.zero_add, h.cellAt j hj']
    exact hj

/-- What stands at the head of a round. -/
def CutRel (w w4 : World) (p : Ent → Bool) (q : AskV) (l' : List Ent) (vi : Value) (wr : World) : Prop :=
  ∃ (i : Nat) (sv : Value) (f : List Ent), vi = .int .i64 i ∧ i ≤ l'.length ∧ KeptBut w4.heap.size (w.heap.size + 1 + 1) w4 wr ∧
    wr.heap[w.heap.size + 1 + 1]? = some (.cells #[sv, .bool false, .string ⟨#[]⟩, .int .i64 0] 37 (0, 0)) ∧
    wr.ownsRow w4.heap.size 32 6 sv f.length (f.flatMap encE) ∧ f = selE p q (l'.take i) ∧ f.length ≤ q.most.toNat

set_option maxHeartbeats 4000000 in
set_option maxRecDepth 100000 in
theorem cut_is (p : Ent → Bool) (q : AskV) (a g : Nat) (eg : ∀ args w, (callFunc g args).run Try.prog w = .ok (.enter g args) w)
    (hp : ∀ x W, AskAt W a q → Calls Try.prog g #[.agg (encE x).toArray, .pointer (some ⟨a, 0, none⟩)] W fun e w' => e = .returned (.bool (p x)) ∧ Below W.heap.size W w')
    (l : List Ent) (hl : l.length ≤ 1000000) (hk : ∀ x ∈ l, x.key.size ≤ maxLen) (hq : q.pre.size ≤ maxLen) (hm : 1 ≤ q.most ∧ q.most ≤ 1000) (v : Value) (w : World) (hv : RowE w v l) (ha : AskAt w a q) :
    Calls Try.prog 29 #[v, .agg (encA q).toArray, .func (.func g) #[] #[.pointer (some ⟨a, 0, none⟩)]] w fun e w' =>
      ∃ l' sv, l'.Perm l ∧ SortedE l' ∧ RowE w' sv ((selE p q l').take q.most.toNat) ∧ (∀ b o n c, sv = .slice (some ⟨b, o, none⟩) n c → w.heap.size ≤ b) ∧ Below w.heap.size w w' ∧
        e = .returned (.tuple #[.agg #[sv, .bool (decide (q.most.toNat < (selE p q l').length)), .string (cutKey q.most.toNat (selE p q l')), .int .i64 (cutId q.most.toNat (selE p q l'))], .int .i64 0]) := by
  obtain ⟨pre, fr, fid, most⟩ := q
  obtain ⟨i0, hi, hz0, hz1, hz2⟩ := info_parts infoE
  unfold encA
  have HP := Lib.hid hp; clear hp
  have HA := Lib.hid ha; clear ha
  have HV := Lib.hid hv; clear hv
  have HK := Lib.hid hk; clear hk
  obtain ⟨hm1, hm2⟩ := hm
  simp only [] at hm1 hm2 hq
  go_enter Try.func29, Try.ntmps29
  go_wp2_with fail
  generalize hw3 : (((w.alloc _).alloc _).alloc _) = w3
  have s3 : w3.heap.size = w.heap.size + 3 := by rw [← hw3]; simp
  have hb3 : Below w.heap.size w w3 := by
    rw [← hw3]
    exact (((Below.refl _ _).alloc (Nat.le_refl _) _).alloc (by simp) _).alloc (by simp; omega) _
  have h30 : w3.heap[w.heap.size]? = some (.cells #[.string pre, .string fr, .int .i64 fid, .int .i64 most] 41 (0, 0)) := by
    rw [← hw3, heap_alloc_old _ _ (by simp; omega), heap_alloc_old _ _ (by simp), heap_alloc_new]
  have h31 : w3.heap[w.heap.size + 1]? = some (.cells #[.slice none 0 0, .bool false, .string ⟨#[]⟩, .int .i64 0] 37 (0, 0)) := by
    rw [← hw3, heap_alloc_old _ _ (by simp)]
    have := heap_alloc_new (w.alloc (.cells #[.string pre, .string fr, .int .i64 fid, .int .i64 most] 41)) (.cells #[.slice none 0 0, .bool false, .string ⟨#[]⟩, .int .i64 0] 37)
    simpa using this
  have h32 : w3.heap[w.heap.size + 1 + 1]? = some (.cells #[.slice none 0 0, .bool false, .string ⟨#[]⟩, .int .i64 0] 37 (0, 0)) := by
    rw [← hw3]
    have := heap_alloc_new ((w.alloc (.cells #[.string pre, .string fr, .int .i64 fid, .int .i64 most] 41)).alloc (.cells #[.slice none 0 0, .bool false, .string ⟨#[]⟩, .int .i64 0] 37)) (.cells #[.slice none 0 0, .bool false, .string ⟨#[]⟩, .int .i64 0] 37)
    simpa using this
  clear hw3
  refine (psort_is l hl v w3 (HV.out.below hb3)).mono ?_
  rintro e w4 ⟨v4, l', rfl, hR, hperm, hsort, hfresh, hb4⟩
  have hs4 := hb4.size
  have h40 : w4.heap[w.heap.size]? = _ := (hb4.block _ (by omega)).trans h30
  have h41 : w4.heap[w.heap.size + 1]? = _ := (hb4.block _ (by omega)).trans h31
  have h42 : w4.heap[w.heap.size + 1 + 1]? = _ := (hb4.block _ (by omega)).trans h32
  have hbw4 : Below w.heap.size w w4 := hb3.trans (hb4.mono (by omega))
  obtain ⟨pp, cc, rfl, hrow⟩ := len_of_row hR
  have hll : l'.length = l.length := hperm.length_eq
  have HROW := Lib.hid hrow; clear hrow
  have H40 := Lib.hid h40; clear h40
  have H41 := Lib.hid h41; clear h41
  have HPM := Lib.hid hperm; clear hperm
  have HSO := Lib.hid hsort; clear hsort
  have HFR := Lib.hid hfresh; clear hfresh
  have HLL : l'.length ≤ 1000000 := by omega
  clear h30 h31 h32 hR hll
  have HB4 := Lib.hid hb4; clear hb4
  have HS3 := Lib.hid s3
  have hs4' : w.heap.size + 3 ≤ w4.heap.size := by omega
  clear s3
  go_wp2_with fail
  have hbox : ∀ W : World, KeptBut w4.heap.size (w.heap.size + 1 + 1) w4 W → W.cell? ⟨w.heap.size, 0, none⟩ = some (.string pre) ∧ W.cell? ⟨w.heap.size, 3, none⟩ = some (.int .i64 most) := fun W hK => by
    have h1 := (cells_of_heap H40.out).1
    have hs := HS3.out
    exact ⟨by rw [hK.cell (p := ⟨w.heap.size, 0, none⟩) (by show w.heap.size < _; omega) (by show w.heap.size ≠ _; omega)]; exact h1 0 _ rfl,
      by rw [hK.cell (p := ⟨w.heap.size, 3, none⟩) (by show w.heap.size < _; omega) (by show w.heap.size ≠ _; omega)]; exact h1 3 _ rfl⟩
  have hask : ∀ W : World, KeptBut w4.heap.size (w.heap.size + 1 + 1) w4 W → AskAt W a ⟨pre, fr, fid, most⟩ := fun W hK => by
    have hb := hK.toBelow hbw4 (by omega) (by omega)
    have h := HA.out
    exact ⟨Nat.lt_of_lt_of_le h.lt hb.size, by rw [hb.cell (p := ⟨a, 0, none⟩) h.lt]; exact h.pre, by rw [hb.cell (p := ⟨a, 1, none⟩) h.lt]; exact h.fr,
      by rw [hb.cell (p := ⟨a, 2, none⟩) h.lt]; exact h.fid, by rw [hb.cell (p := ⟨a, 3, none⟩) h.lt]; exact h.most⟩
  have HBOX := Lib.hid hbox; clear hbox
  have HASK := Lib.hid hask; clear hask
  go_loopw [24] (fun vi wr => CutRel w w4 p ⟨pre, fr, fid, most⟩ l' vi wr) (fun vi _ => l'.length - (intOf vi).toNat)
  case atStart => exact ⟨0, .slice none 0 0, [], rfl, Nat.zero_le _, KeptBut.refl _ _ _, h42, ⟨rfl, .inl ⟨rfl, rfl⟩⟩, by rw [List.take_zero]; rfl, Nat.zero_le _⟩
  case round =>
    clear h42
    obtain ⟨i, sv, f, rfl, hi', K, h8, hown, hf, hfm⟩ := hrel
    by_cases hpi : i < l'.length
    · have hpz : (i : Int) < (l'.length : Int) := by omega
      obtain ⟨b, o, rfl, hbl, hc⟩ := HROW.out (by omega)
      have hb8 : b ≠ w.heap.size + 1 + 1 := by
        have h1 := HFR.out b o _ _ rfl
        have h2 := HS3.out
        omega
      obtain ⟨a0, a1, a2, a3, a4, a5⟩ := at_of (W := wr) (fun j u hj => by rw [K.cell (p := ⟨b, o + j, none⟩) hbl hb8]; exact hc j u hj) i hpi
      clear hc
      have hmem := l'.getElem_mem hpi
      have hks := HK.out _ (HPM.out.subset hmem)
      have htk : l'.take (i + 1) = l'.take i ++ [l'[i]] := List.take_succ_eq_append_getElem hpi
      obtain ⟨x, hx⟩ : ∃ x, l'[i] = x := ⟨_, rfl⟩
      rw [hx] at a0 a1 a2 a3 a4 a5 hks htk
      have HTK := Lib.hid htk; clear htk
      clear hx hmem
      have hwr : w4.heap.size ≤ wr.heap.size := K.size
      have cP : ∀ o, (wr.alloc o).cell? ⟨w.heap.size, 0, none⟩ = some (.string pre) := fun o => (HBOX.out _ (K.alloc hwr o)).1
      obtain ⟨pb, hpb⟩ : ∃ b, prefixB x.key.data.toList pre.data.toList = b := ⟨_, rfl⟩
      have cpre : ∀ W : World, Calls Try.prog 37 #[.string x.key, .string pre] W fun e w' => e = .returned (.bool pb) ∧ W = w' := fun W => by rw [← hpb]; exact prefix_is _ _ W hks hq
      have CPRE := Lib.hid cpre; clear cpre
      have HPB := Lib.hid hpb; clear hpb
      have hsel : Hid (selE p ⟨pre, fr, fid, most⟩ (l'.take (i + 1)) = f ++ (if (pb && p x) = true then [x] else [])) := by
        show _ = _
        rw [HTK.out, hf]
        unfold selE
        rw [List.filter_append]
        congr 1
        rw [List.filter_cons, HPB.out]
        rfl
      cases pb
      · go_wp2_with (go_at_call 37; refine (CPRE.out _).mono ?_; rintro e w' ⟨rfl, rfl⟩)
        go_roundw
        case rel => exact ⟨i + 1, sv, f, by go_num, by omega, K.alloc hwr _, by rw [heap_alloc_old _ _ (by omega)]; exact h8, hown.alloc _, by rw [hsel.out]; simp, hfm⟩
        case measure => simp [intOf]; omega
      · go_wp2_with (go_at_call 37; refine (CPRE.out _).mono ?_; rintro e w' ⟨rfl, rfl⟩)
        refine (HP.out x _ (HASK.out _ (K.alloc hwr _))).mono ?_
        rintro e w6 ⟨rfl, hb6⟩
        have hE : w6.heap[wr.heap.size]? = _ := (hb6.block wr.heap.size (by simp)).trans (heap_alloc_new wr _)
        have K6 := (K.alloc hwr _).below (by simp; omega) hb6
        have h86 : w6.heap[w.heap.size + 1 + 1]? = _ := (hb6.block _ (by simp; omega)).trans ((heap_alloc_old _ _ (by omega)).trans h8)
        have hown6 := (hown.alloc _).kept (row := none) ⟨hb6.os, hb6.tape, hb6.output, hb6.size, fun k hk _ => hb6.block k hk⟩ (by cases sv.ownBlock <;> simp)
        have hw6 : w4.heap.size ≤ w6.heap.size := K6.size
        have hws : wr.heap.size < w6.heap.size := by have := hb6.size; simp at this; omega
        have cE := (cells_of_heap hE).1
        have e0 := cE 0 _ rfl
        have e1 := cE 1 _ rfl
        have e2 := cE 2 _ rfl
        have e3 := cE 3 _ rfl
        have e4 := cE 4 _ rfl
        have e5 := cE 5 _ rfl
        have c80 := (cells_of_heap h86).1 0 _ rfl
        have cM := (HBOX.out _ K6).2
        clear cE hE hb6 K h8 hown cP a0 a1 a2 a3 a4 a5
        obtain ⟨px, hpx⟩ : ∃ b, p x = b := ⟨_, rfl⟩
        rw [hpx] at hsel ⊢
        clear hpx
        cases px
        · go_wp2_with fail
          go_roundw
          case rel => exact ⟨i + 1, sv, f, by go_num, by omega, K6, h86, hown6, by rw [hsel.out]; simp, hfm⟩
          case measure => simp [intOf]; omega
        · have hfs : selE p ⟨pre, fr, fid, most⟩ (l'.take (i + 1)) = f ++ [x] := by rw [hsel.out]; simp
          have HFS := Lib.hid hfs; clear hfs hsel
          have HF := Lib.hid hf; clear hf
          obtain ⟨ps, cs, rfl⟩ : ∃ ps cs, sv = .slice ps f.length cs := by
            rcases hown6.2 with ⟨h1, h2⟩ | ⟨g1, c1, _, h1, _⟩
            · exact ⟨none, 0, by rw [h1, h2]⟩
            · exact ⟨_, _, h1⟩
          have hsb : ∀ k, (Value.slice ps f.length cs).ownBlock = some k → w4.heap.size ≤ k := fun k hk => (hown6.lt k hk).1
          have HSB := Lib.hid hsb; clear hsb
          change f.length ≤ most.toNat at hfm
          by_cases hfl : f.length < most.toNat
          · have hflz : (f.length : Int) < most := by omega
            have g86 : w.heap.size + 1 + 1 < w6.heap.size := by omega
            go_wp2_with (first
              | (at_builtin; refine wpList_append_lies _ rfl _ _ 22 rfl w4.heap.size 32 i0 _ 6 56 Try.underlying22 hi hz0 hz1 hz2 rfl (by omega) (.slice ps f.length cs) f.length (f.flatMap encE) rfl (hown6.alloc _) ⟨w6.heap.size, 0, none⟩ 1 1 (encE x) rfl rfl (World.news_of_block (cs := (encE x).toArray) (t := 32) (fr := (0, 0)) (heap_alloc_new w6 _)) (encE_one x) (by omega) (by unfold maxLen; omega) (by omega) (by simp; omega) (w6.heap.size + 1) (by simp) ?_; intro gg cap w7 hown7 hgrow7 hat hlt; have h87 : w7.heap[w.heap.size + 1 + 1]? = _ := (hgrow7.block _ (by simp; omega) (fun e => by have := HSB.out _ e.symm; omega)).trans ((heap_alloc_old _ _ g86).trans h86); have c87 := (cells_of_heap h87).1 0 _ rfl; have f87 := (cells_of_heap h87).2 0))
            go_roundw
            case rel =>
              refine ⟨i + 1, .slice (some ⟨gg, 0, none⟩) (f.length + 1) cap, f ++ [x], by go_num, by omega, ((K6.alloc hw6 _).grown (by simp; omega) hgrow7 HSB.out).setCell 0 _, by have := heap_set h87 0 (.slice (some ⟨gg, 0, none⟩) (f.length + 1) cap); simpa using this, ?_, HFS.out.symm, by simp; omega⟩
              have e1 : (f ++ [x]).length = f.length + 1 := by simp
              have e2 : (f ++ [x]).flatMap encE = f.flatMap encE ++ encE x := by simp
              rw [e1, e2]
              exact ownsRow_setCell_below hown7 (by show w.heap.size + 1 + 1 < _; omega) _
            case measure => simp [intOf]; omega
          · have hmn : most = (f.length : Int) := by omega
            have hf0 : 0 < f.length := by omega
            obtain ⟨g1, rfl⟩ : ∃ g1, ps = some ⟨g1, 0, none⟩ := by
              rcases hown6.2 with ⟨_, h2⟩ | ⟨g1, c1, _, h1, _⟩
              · omega
              · injection h1 with h1 _ _
                exact ⟨g1, h1⟩
            obtain ⟨n1, hn1⟩ : ∃ n1, f.length = n1 + 1 := ⟨f.length - 1, by omega⟩
            have hla := at_of (W := w6) (b := g1) (o := 0) (l := f) (fun j u hj => by
              have hj' : j < f.length * 6 := by rw [← flat_length]; exact (List.getElem?_eq_some_iff.1 hj).1
              rw [Nat.zero_add, hown6.cellAt j hj']; exact hj) n1 (by omega)
            rw [Nat.zero_add] at hla
            obtain ⟨l0, l1, l2, l3, l4, l5⟩ := hla
            have hgd : f.getD n1 default = f[n1]'(by omega) := by rw [List.getD_eq_getElem?_getD, List.getElem?_eq_getElem (by omega)]; rfl
            obtain ⟨y, hy⟩ : ∃ y, f[n1]'(by omega) = y := ⟨_, rfl⟩
            rw [hy] at l0 l1 l2 l3 l4 l5 hgd
            clear hy
            have wm : IntKind.i64.wrap (most - 1) = (n1 : Int) := by rw [IntWalk.i64_in _ (by omega)]; omega
            have nlt : most ≤ (f.length : Int) := by omega
            have nn : (n1 : Int) < (f.length : Int) := by omega
            have HGD := Lib.hid hgd; clear hgd
            have HN1 := Lib.hid hn1; clear hn1
            have HMN := Lib.hid hmn; clear hmn
            have c81 := (cells_of_heap h86).1 1 _ rfl
            have c82 := (cells_of_heap h86).1 2 _ rfl
            have c83 := (cells_of_heap h86).1 3 _ rfl
            have f81 := (cells_of_heap h86).2
            go_wp2_with fail
            have g86 : w.heap.size + 1 + 1 < w6.heap.size := by omega
            have hW9 : ∃ W9, w6.alloc (.cells #[.string y.key, .int .i64 y.id, .bool y.mark, .int .i64 y.size, .int .u32 y.sum, .bool y.latest] 32) = W9 := ⟨_, rfl⟩
            obtain ⟨W9, hW9⟩ := hW9
            rw [hW9]
            have h89 : W9.heap[w.heap.size + 1 + 1]? = some (.cells #[.slice (some ⟨g1, 0, none⟩) f.length cs, .bool false, .string ⟨#[]⟩, .int .i64 0] 37 (0, 0)) := by rw [← hW9]; exact (heap_alloc_old _ _ g86).trans h86
            have K9 : KeptBut w4.heap.size (w.heap.size + 1 + 1) w4 W9 := by rw [← hW9]; exact K6.alloc hw6 _
            have hown9 : W9.ownsRow w4.heap.size 32 6 (.slice (some ⟨g1, 0, none⟩) f.length cs) f.length (f.flatMap encE) := by rw [← hW9]; exact hown6.alloc _
            have hL : W9.heap[w6.heap.size]? = some (.cells #[.string y.key, .int .i64 y.id, .bool y.mark, .int .i64 y.size, .int .u32 y.sum, .bool y.latest] 32 (0, 0)) := by rw [← hW9]; exact heap_alloc_new w6 _
            have m0 : W9.cell? ⟨w6.heap.size, 0, none⟩ = some (.string y.key) := (cells_of_heap hL).1 0 _ rfl
            have m1 : W9.cell? ⟨w6.heap.size, 1, none⟩ = some (.int .i64 y.id) := (cells_of_heap hL).1 1 _ rfl
            have n1' : W9.cell? ⟨w.heap.size + 1 + 1, 1, none⟩ = some (.bool false) := (cells_of_heap h89).1 1 _ rfl
            have n2' : W9.cell? ⟨w.heap.size + 1 + 1, 2, none⟩ = some (.string ⟨#[]⟩) := (cells_of_heap h89).1 2 _ rfl
            have n3' : W9.cell? ⟨w.heap.size + 1 + 1, 3, none⟩ = some (.int .i64 0) := (cells_of_heap h89).1 3 _ rfl
            have o1 : W9.frozen? ⟨w.heap.size + 1 + 1, 1, none⟩ = false := (cells_of_heap h89).2 1
            have o2 : W9.frozen? ⟨w.heap.size + 1 + 1, 2, none⟩ = false := (cells_of_heap h89).2 2
            have o3 : W9.frozen? ⟨w.heap.size + 1 + 1, 3, none⟩ = false := (cells_of_heap h89).2 3
            have q0 : ∀ j u, (W9.setCell ⟨w.heap.size + 1 + 1, j, none⟩ u).cell? ⟨w6.heap.size, 0, none⟩ = some (.string y.key) := fun j u => by
              rw [World.cell?_setCell_other _ _ _ _ (fun h => by injection h with h1 _; omega)]; exact m0
            have q1 : ∀ j u, (W9.setCell ⟨w.heap.size + 1 + 1, j, none⟩ u).cell? ⟨w6.heap.size, 1, none⟩ = some (.int .i64 y.id) := fun j u => by
              rw [World.cell?_setCell_other _ _ _ _ (fun h => by injection h with h1 _; omega)]; exact m1
            have q2 : ∀ j u i u', ((W9.setCell ⟨w.heap.size + 1 + 1, j, none⟩ u).setCell ⟨w.heap.size + 1 + 1, i, none⟩ u').cell? ⟨w6.heap.size, 1, none⟩ = some (.int .i64 y.id) := fun j u i u' => by
              rw [World.cell?_setCell_other _ _ _ _ (fun h => by injection h with h1 _; omega)]; exact q1 j u
            clear hW9 hL
            go_big_region
            obtain ⟨W10, hW10⟩ : ∃ W10, (((W9.setCell ⟨w.heap.size + 1 + 1, 1, none⟩ (.bool true)).setCell ⟨w.heap.size + 1 + 1, 2, none⟩ (.string y.key)).setCell ⟨w.heap.size + 1 + 1, 3, none⟩ (.int .i64 y.id)).drew = W10 := ⟨_, rfl⟩
            rw [hW10]
            have hb8 : w.heap.size + 1 + 1 < w4.heap.size := by omega
            have h10 : W10.heap[w.heap.size + 1 + 1]? = some (.cells #[.slice (some ⟨g1, 0, none⟩) f.length cs, .bool true, .string y.key, .int .i64 y.id] 37 (0, 0)) := by
              rw [← hW10]
              exact heap_set (heap_set (heap_set h89 1 (.bool true)) 2 (.string y.key)) 3 (.int .i64 y.id)
            have K10 : KeptBut w4.heap.size (w.heap.size + 1 + 1) w4 W10 := by
              rw [← hW10]
              exact (((K9.setCell 1 _).setCell 2 _).setCell 3 _).drewN 1
            have hown10 : W10.ownsRow w4.heap.size 32 6 (.slice (some ⟨g1, 0, none⟩) f.length cs) f.length (f.flatMap encE) := by
              rw [← hW10]
              exact ownsRow_setCell_below (ownsRow_setCell_below (ownsRow_setCell_below hown9 (a := ⟨w.heap.size + 1 + 1, 1, none⟩) hb8 (.bool true)) (a := ⟨w.heap.size + 1 + 1, 2, none⟩) hb8 (.string y.key)) (a := ⟨w.heap.size + 1 + 1, 3, none⟩) hb8 (.int .i64 y.id)
            have hF : ∃ r, selE p ⟨pre, fr, fid, most⟩ l' = f ++ x :: r := by
              refine ⟨selE p ⟨pre, fr, fid, most⟩ (l'.drop (i + 1)), ?_⟩
              have h1 : selE p ⟨pre, fr, fid, most⟩ l' = selE p ⟨pre, fr, fid, most⟩ (l'.take (i + 1)) ++ selE p ⟨pre, fr, fid, most⟩ (l'.drop (i + 1)) := by
                conv => lhs; rw [← List.take_append_drop (i + 1) l']
                unfold selE
                rw [List.filter_append]
              rw [h1, HFS.out, List.append_assoc]
              rfl
            obtain ⟨r, hF⟩ := hF
            have HF2 := Lib.hid hF; clear hF
            clear hW10 q0 q1 q2 m0 m1 n1' n2' n3' o1 o2 o3 h89 K9 hown9 l0 l1 l2 l3 l4 l5 e0 e1 e2 e3 e4 e5 c80 cM c81 c82 c83 f81 K6 h86 hown6
            have h6 : W10.heap[w.heap.size + 1]? = some (.cells #[.slice none 0 0, .bool false, .string ⟨#[]⟩, .int .i64 0] 37 (0, 0)) := (K10.block (w.heap.size + 1) (by omega) (by omega)).trans H41.out
            have t0 : W10.cell? ⟨w.heap.size + 1 + 1, 0, none⟩ = some (.slice (some ⟨g1, 0, none⟩) f.length cs) := (cells_of_heap h10).1 0 _ rfl
            have t1 : W10.cell? ⟨w.heap.size + 1 + 1, 1, none⟩ = some (.bool true) := (cells_of_heap h10).1 1 _ rfl
            have t2 : W10.cell? ⟨w.heap.size + 1 + 1, 2, none⟩ = some (.string y.key) := (cells_of_heap h10).1 2 _ rfl
            have t3 : W10.cell? ⟨w.heap.size + 1 + 1, 3, none⟩ = some (.int .i64 y.id) := (cells_of_heap h10).1 3 _ rfl
            have r0 : W10.cell? ⟨w.heap.size + 1, 0, none⟩ = some (.slice none 0 0) := (cells_of_heap h6).1 0 _ rfl
            have r1 : W10.cell? ⟨w.heap.size + 1, 1, none⟩ = some (.bool false) := (cells_of_heap h6).1 1 _ rfl
            have r2 : W10.cell? ⟨w.heap.size + 1, 2, none⟩ = some (.string ⟨#[]⟩) := (cells_of_heap h6).1 2 _ rfl
            have r3 : W10.cell? ⟨w.heap.size + 1, 3, none⟩ = some (.int .i64 0) := (cells_of_heap h6).1 3 _ rfl
            have z0 : W10.frozen? ⟨w.heap.size + 1, 0, none⟩ = false := (cells_of_heap h6).2 0
            have z1 : W10.frozen? ⟨w.heap.size + 1, 1, none⟩ = false := (cells_of_heap h6).2 1
            have z2 : W10.frozen? ⟨w.heap.size + 1, 2, none⟩ = false := (cells_of_heap h6).2 2
            have z3 : W10.frozen? ⟨w.heap.size + 1, 3, none⟩ = false := (cells_of_heap h6).2 3
            go_wp2
            (try simp only [Exit.inBlock, Exit.then])
            have h61 := heap_set (heap_set (heap_set (heap_set h6 0 (.slice (some ⟨g1, 0, none⟩) f.length cs)) 1 (.bool true)) 2 (.string y.key)) 3 (.int .i64 y.id)
            refine bodyPost_ret (ret_pair rfl _ _ (w.heap.size + 1) _ _ _ _ rfl h61 Try.underlying37 rfl (by kernel_rfl)) rfl ?_
            have hmf : most.toNat = f.length := by have := HMN.out; omega
            have hnl : most.toNat < (f ++ x :: r).length := by rw [hmf]; simp
            have hb6 : w.heap.size + 1 < w4.heap.size := by omega
            have hown' := ownsRow_setCell_below (ownsRow_setCell_below (ownsRow_setCell_below (ownsRow_setCell_below hown10 (a := ⟨w.heap.size + 1, 0, none⟩) hb6 (.slice (some ⟨g1, 0, none⟩) f.length cs)) (a := ⟨w.heap.size + 1, 1, none⟩) hb6 (.bool true)) (a := ⟨w.heap.size + 1, 2, none⟩) hb6 (.string y.key)) (a := ⟨w.heap.size + 1, 3, none⟩) hb6 (.int .i64 y.id)
            refine ⟨l', .slice (some ⟨g1, 0, none⟩) f.length cs, HPM.out, HSO.out, ?_, ?_, ?_, ?_⟩
            · rw [HF2.out, show (⟨pre, fr, fid, most⟩ : AskV).most.toNat = f.length from hmf, List.take_left]
              exact (rowE_own hown').1
            · intro b o n c h
              exact Nat.le_trans (by omega) ((rowE_own hown10).2 b o n c h)
            · exact ((((K10.toBelow hbw4 (by omega) (by omega)).setCell (p := ⟨w.heap.size + 1, 0, none⟩) (Nat.le_succ _) _).setCell (p := ⟨w.heap.size + 1, 1, none⟩) (Nat.le_succ _) _).setCell (p := ⟨w.heap.size + 1, 2, none⟩) (Nat.le_succ _) _).setCell (p := ⟨w.heap.size + 1, 3, none⟩) (Nat.le_succ _) _
            · rw [HF2.out]
              unfold cutKey cutId
              have hg : (f ++ x :: r).getD (most.toNat - 1) default = y := by
                have h0 := HN1.out
                rw [← HGD.out, hmf, show f.length - 1 = n1 by omega, List.getD_eq_getElem?_getD, List.getElem?_append_left (by omega), ← List.getD_eq_getElem?_getD]
              rw [if_pos hnl, if_pos hnl, decide_eq_true hnl, hg]
              rfl
    · have hpz : (l'.length : Int) ≤ (i : Int) := by omega
      have hil : i = l'.length := by omega
      have hF : selE p ⟨pre, fr, fid, most⟩ l' = f := by rw [hf, hil, List.take_length]
      obtain ⟨ps, cs, rfl⟩ : ∃ ps cs, sv = .slice ps f.length cs := by
        rcases hown.2 with ⟨h1, h2⟩ | ⟨g1, c1, _, h1, _⟩
        · exact ⟨none, 0, by rw [h1, h2]⟩
        · exact ⟨_, _, h1⟩
      have h6 : wr.heap[w.heap.size + 1]? = some (.cells #[.slice none 0 0, .bool false, .string ⟨#[]⟩, .int .i64 0] 37 (0, 0)) := (K.block (w.heap.size + 1) (by omega) (by omega)).trans H41.out
      have t0 : wr.cell? ⟨w.heap.size + 1 + 1, 0, none⟩ = some (.slice ps f.length cs) := (cells_of_heap h8).1 0 _ rfl
      have t1 : wr.cell? ⟨w.heap.size + 1 + 1, 1, none⟩ = some (.bool false) := (cells_of_heap h8).1 1 _ rfl
      have t2 : wr.cell? ⟨w.heap.size + 1 + 1, 2, none⟩ = some (.string ⟨#[]⟩) := (cells_of_heap h8).1 2 _ rfl
      have t3 : wr.cell? ⟨w.heap.size + 1 + 1, 3, none⟩ = some (.int .i64 0) := (cells_of_heap h8).1 3 _ rfl
      have r0 : wr.cell? ⟨w.heap.size + 1, 0, none⟩ = some (.slice none 0 0) := (cells_of_heap h6).1 0 _ rfl
      have r1 : wr.cell? ⟨w.heap.size + 1, 1, none⟩ = some (.bool false) := (cells_of_heap h6).1 1 _ rfl
      have r2 : wr.cell? ⟨w.heap.size + 1, 2, none⟩ = some (.string ⟨#[]⟩) := (cells_of_heap h6).1 2 _ rfl
      have r3 : wr.cell? ⟨w.heap.size + 1, 3, none⟩ = some (.int .i64 0) := (cells_of_heap h6).1 3 _ rfl
      have z0 : wr.frozen? ⟨w.heap.size + 1, 0, none⟩ = false := (cells_of_heap h6).2 0
      have z1 : wr.frozen? ⟨w.heap.size + 1, 1, none⟩ = false := (cells_of_heap h6).2 1
      have z2 : wr.frozen? ⟨w.heap.size + 1, 2, none⟩ = false := (cells_of_heap h6).2 2
      have z3 : wr.frozen? ⟨w.heap.size + 1, 3, none⟩ = false := (cells_of_heap h6).2 3
      have HF := Lib.hid hF; clear hF
      have HIL := Lib.hid hil; clear hil
      have Hf := Lib.hid hf; clear hf
      go_wp2
      (try simp only [Exit.inBlock, Exit.then])
      have h61 := heap_set (heap_set (heap_set (heap_set h6 0 (.slice ps f.length cs)) 1 (.bool false)) 2 (.string ⟨#[]⟩)) 3 (.int .i64 0)
      refine bodyPost_ret (ret_pair rfl _ _ (w.heap.size + 1) _ _ _ _ rfl h61 Try.underlying37 rfl (by kernel_rfl)) rfl ?_
      have hnl : ¬ most.toNat < f.length := by omega
      have hrow := rowE_own hown
      have hb6 : w.heap.size + 1 < w4.heap.size := by omega
      have hown' := ownsRow_setCell_below (ownsRow_setCell_below (ownsRow_setCell_below (ownsRow_setCell_below hown (a := ⟨w.heap.size + 1, 0, none⟩) hb6 (.slice ps f.length cs)) (a := ⟨w.heap.size + 1, 1, none⟩) hb6 (.bool false)) (a := ⟨w.heap.size + 1, 2, none⟩) hb6 (.string ⟨#[]⟩)) (a := ⟨w.heap.size + 1, 3, none⟩) hb6 (.int .i64 0)
      refine ⟨l', HPM.out, HSO.out, .slice ps f.length cs, ?_, ?_, ?_, ?_⟩
      · rw [HF.out, List.take_of_length_le (by show f.length ≤ most.toNat; omega)]
        exact (rowE_own hown').1
      · intro b o n c h
        exact Nat.le_trans (by omega) ((rowE_own hown).2 b o n c h)
      · exact ((((K.toBelow hbw4 (by omega) (by omega)).setCell (p := ⟨w.heap.size + 1, 0, none⟩) (Nat.le_succ _) _).setCell (p := ⟨w.heap.size + 1, 1, none⟩) (Nat.le_succ _) _).setCell (p := ⟨w.heap.size + 1, 2, none⟩) (Nat.le_succ _) _).setCell (p := ⟨w.heap.size + 1, 3, none⟩) (Nat.le_succ _) _
      · rw [HF.out]
        unfold cutKey cutId
        rw [if_neg hnl, if_neg hnl, decide_eq_false hnl]
        rfl
end Go.Proofs.Ytgaejaadjmcckaa
