/- The document's own pages: what page.cut answers. -/
import Derived.Test.YtgaejaadjmcckaaPRSort
import Derived.Test.YtgaejaadjmcckaaPOb
namespace Go.Proofs.Ytgaejaadjmcckaa
open Go.Shelf Go.RowKit Go.Lib Nam

/-- Which entries are asked for. -/
def pgB (vs : Bool) (q : AskV) (x : Ent) : Bool := if vs then verB q x else objB q x
def pgId (vs : Bool) (n : Nat) (f : List Ent) : Int := if vs then cutId n f else 0

theorem pgB_eq (vs : Bool) (q : AskV) (x : Ent) (pb : Bool) :
    (pb && pgB vs q x) = ((pb && (vs || (x.latest && !x.mark))) && (q.fr.toList.isEmpty || Op.bytesLess q.fr.toList x.key.toList || (vs && ((x.key.toList == q.fr.toList) && decide (x.id < q.fid))))) := by
  unfold pgB verB objB
  cases vs <;> cases pb <;> cases x.latest <;> cases x.mark <;> cases q.fr.toList.isEmpty <;> cases Op.bytesLess q.fr.toList x.key.toList <;> simp

set_option maxHeartbeats 4000000 in
set_option maxRecDepth 100000 in
theorem rpages_is (vs : Bool) (q : AskV) (l : List Ent) (hl : l.length ≤ 1000000) (hk : ∀ x ∈ l, x.key.size ≤ maxLen) (hq : q.pre.size ≤ maxLen) (hqf : q.fr.size ≤ maxLen) (hm : 1 ≤ q.most ∧ q.most ≤ 1000) (v : Value) (w : World) (hv : RowE w v l) :
    Calls Try.prog 32 #[v, .agg (encA q).toArray, .bool vs] w fun e w' =>
      ∃ l' sv, l'.Perm l ∧ SortedE l' ∧ RowE w' sv ((selE (pgB vs q) q l').take q.most.toNat) ∧ (∀ b o n c, sv = .slice (some ⟨b, o, none⟩) n c → w.heap.size ≤ b) ∧ Below w.heap.size w w' ∧
        e = .returned (.tuple #[.agg #[sv, .bool (decide (q.most.toNat < (selE (pgB vs q) q l').length)), .string (cutKey q.most.toNat (selE (pgB vs q) q l')), .int .i64 (pgId vs q.most.toNat (selE (pgB vs q) q l'))], .int .i64 0]) := by
  obtain ⟨pre, fr, fid, most⟩ := q
  obtain ⟨i0, hi, hz0, hz1, hz2⟩ := info_parts infoE
  unfold encA
  have HV := Lib.hid hv; clear hv
  have HK := Lib.hid hk; clear hk
  obtain ⟨hm1, hm2⟩ := hm
  simp only [] at hm1 hm2 hq hqf
  go_enter Try.func32, Try.ntmps32
  go_wp2_with fail
  generalize hw3 : (((w.alloc _).alloc _).alloc _) = w3
  have s3 : w3.heap.size = w.heap.size + 3 := by rw [← hw3]; simp
  have hb3 : Below w.heap.size w w3 := by
    rw [← hw3]
    exact (((Below.refl _ _).alloc (Nat.le_refl _) _).alloc (by simp) _).alloc (by simp; omega) _
  have h30 : w3.heap[w.heap.size]? = some (.cells #[.string pre, .string fr, .int .i64 fid, .int .i64 most] 35 (0, 0)) := by
    rw [← hw3, heap_alloc_old _ _ (by simp; omega), heap_alloc_old _ _ (by simp), heap_alloc_new]
  have h31 : w3.heap[w.heap.size + 1]? = some (.cells #[.slice none 0 0, .bool false, .string ⟨#[]⟩, .int .i64 0] 43 (0, 0)) := by
    rw [← hw3, heap_alloc_old _ _ (by simp)]
    have := heap_alloc_new (w.alloc (.cells #[.string pre, .string fr, .int .i64 fid, .int .i64 most] 35)) (.cells #[.slice none 0 0, .bool false, .string ⟨#[]⟩, .int .i64 0] 43)
    simpa using this
  have h32 : w3.heap[w.heap.size + 1 + 1]? = some (.cells #[.slice none 0 0, .bool false, .string ⟨#[]⟩, .int .i64 0] 43 (0, 0)) := by
    rw [← hw3]
    have := heap_alloc_new ((w.alloc (.cells #[.string pre, .string fr, .int .i64 fid, .int .i64 most] 35)).alloc (.cells #[.slice none 0 0, .bool false, .string ⟨#[]⟩, .int .i64 0] 43)) (.cells #[.slice none 0 0, .bool false, .string ⟨#[]⟩, .int .i64 0] 43)
    simpa using this
  clear hw3
  refine (rsort_is l hl HK.out v w3 (HV.out.below hb3)).mono ?_
  rintro e w4 ⟨v4, l', rfl, hO, hperm, hsort, hb4⟩
  have hR := (rowE_own hO).1
  have hfresh := (rowE_own hO).2
  clear hO
  have hs4 := hb4.size
  have h40 : w4.heap[w.heap.size]? = _ := (hb4.block _ (by omega)).trans h30
  have h41 : w4.heap[w.heap.size + 1]? = _ := (hb4.block _ (by omega)).trans h31
  have h42 : w4.heap[w.heap.size + 1 + 1]? = _ := (hb4.block _ (by omega)).trans h32
  have hbw4 : Below w.heap.size w w4 := hb3.trans (hb4.mono (by omega))
  obtain ⟨pp, cc, rfl, hrow⟩ := len_of_row hR
  have hll : l'.length = l.length := hperm.length_eq
  have HROW := Lib.hid hrow; clear hrow
  have H40 := Lib.hid h40; clear h40
  have H41 := Lib.hid h41; clear h41
  have HPM := Lib.hid hperm; clear hperm
  have HSO := Lib.hid hsort; clear hsort
  have HFR := Lib.hid hfresh; clear hfresh
  have HLL : l'.length ≤ 1000000 := by omega
  clear h30 h31 h32 hR hll
  have HB4 := Lib.hid hb4; clear hb4
  have HS3 := Lib.hid s3
  have hs4' : w.heap.size + 3 ≤ w4.heap.size := by omega
  clear s3
  go_wp2_with fail
  have hbox : ∀ W : World, KeptBut w4.heap.size (w.heap.size + 1 + 1) w4 W → W.cell? ⟨w.heap.size, 0, none⟩ = some (.string pre) ∧ W.cell? ⟨w.heap.size, 1, none⟩ = some (.string fr) ∧ W.cell? ⟨w.heap.size, 2, none⟩ = some (.int .i64 fid) ∧ W.cell? ⟨w.heap.size, 3, none⟩ = some (.int .i64 most) := fun W hK => by
    have h1 := (cells_of_heap H40.out).1
    have hs := HS3.out
    have hh : ∀ k, W.cell? ⟨w.heap.size, k, none⟩ = w4.cell? ⟨w.heap.size, k, none⟩ := fun k => hK.cell (p := ⟨w.heap.size, k, none⟩) (by show w.heap.size < _; omega) (by show w.heap.size ≠ _; omega)
    exact ⟨by rw [hh]; exact h1 0 _ rfl, by rw [hh]; exact h1 1 _ rfl, by rw [hh]; exact h1 2 _ rfl, by rw [hh]; exact h1 3 _ rfl⟩
  have HBOX := Lib.hid hbox; clear hbox
  obtain ⟨Q, hQ⟩ : ∃ Q : AskV, Q = ⟨pre, fr, fid, most⟩ := ⟨_, rfl⟩
  go_loopw [10] (fun vi wr => ∃ (i : Nat) (sv : Value) (f : List Ent), vi = .int .i64 i ∧ i ≤ l'.length ∧ Hid (KeptBut w4.heap.size (w.heap.size + 1 + 1) w4 wr) ∧
    Hid (wr.heap[w.heap.size + 1 + 1]? = some (.cells #[sv, .bool false, .string ⟨#[]⟩, .int .i64 0] 43 (0, 0))) ∧
    Hid (wr.ownsRow w4.heap.size 32 6 sv f.length (f.flatMap encE)) ∧ Hid (f = selE (pgB vs Q) Q (l'.take i)) ∧ f.length ≤ most.toNat) (fun vi _ => l'.length - (intOf vi).toNat)
  case atStart => exact ⟨0, .slice none 0 0, [], rfl, Nat.zero_le _, KeptBut.refl _ _ _, h42, ⟨rfl, .inl ⟨rfl, rfl⟩⟩, by show _ = _; rw [List.take_zero]; rfl, Nat.zero_le _⟩
  case round =>
    clear h42
    obtain ⟨i, sv, f, rfl, hi', HKB, H8, HOWN, HF, hfm⟩ := hrel
    have hwr : w4.heap.size ≤ wr.heap.size := HKB.out.size
    by_cases hpi : i < l'.length
    · have hpz : (i : Int) < (l'.length : Int) := by omega
      obtain ⟨b, o, rfl, hbl, hc⟩ := HROW.out (by omega)
      have hb8 : b ≠ w.heap.size + 1 + 1 := by
        have h1 := HFR.out b o _ _ rfl
        have h2 := HS3.out
        omega
      obtain ⟨a0, a1, a2, a3, a4, a5⟩ := at_of (W := wr) (fun j u hj => by rw [HKB.out.cell (p := ⟨b, o + j, none⟩) hbl hb8]; exact hc j u hj) i hpi
      clear hc
      have hmem := l'.getElem_mem hpi
      have hks := HK.out _ (HPM.out.subset hmem)
      have htk : l'.take (i + 1) = l'.take i ++ [l'[i]] := List.take_succ_eq_append_getElem hpi
      obtain ⟨x, hx⟩ : ∃ x, l'[i] = x := ⟨_, rfl⟩
      rw [hx] at a0 a1 a2 a3 a4 a5 hks htk
      have HTK := Lib.hid htk; clear htk
      clear hx hmem
      obtain ⟨pb, hpb⟩ : ∃ b, prefixB x.key.data.toList pre.data.toList = b := ⟨_, rfl⟩
      have cpre : ∀ W : World, Calls Try.prog 22 #[.string x.key, .string pre] W fun e w' => e = .returned (.bool pb) ∧ W = w' := fun W => by rw [← hpb]; exact rprefix_is _ _ W hks hq
      have CPRE := Lib.hid cpre; clear cpre
      obtain ⟨le, hle⟩ : ∃ b, Op.bytesLess fr.toList x.key.toList = b := ⟨_, rfl⟩
      have cless : ∀ W : World, Calls Try.prog 13 #[.string fr, .string x.key] W fun e w' => e = .returned (.bool le) ∧ ∃ n, w' = W.drewN n := fun W => by rw [← hle]; exact rless_is _ _ W hqf hks
      have CLESS := Lib.hid cless; clear cless
      obtain ⟨em, hem⟩ : ∃ b, fr.toList.isEmpty = b := ⟨_, rfl⟩
      have hem2 : (fr.toList == []) = em := by rw [← hem]; cases fr.toList <;> rfl
      obtain ⟨eq, heq⟩ : ∃ b, (x.key.toList == fr.toList) = b := ⟨_, rfl⟩
      obtain ⟨ie, hie⟩ : ∃ b, decide (x.id < fid) = b := ⟨_, rfl⟩
      obtain ⟨la, hla⟩ : ∃ b, x.latest = b := ⟨_, rfl⟩
      obtain ⟨mk, hmk⟩ : ∃ b, x.mark = b := ⟨_, rfl⟩
      have hpg : (pb && pgB vs Q x) = ((pb && (vs || (la && !mk))) && (em || le || (vs && (eq && ie)))) := by
        rw [pgB_eq, hQ, hla, hmk, hem, hle, heq, hie]
      have HPB := Lib.hid hpb; clear hpb
      have hsel : Hid (selE (pgB vs Q) Q (l'.take (i + 1)) = f ++ (if (pb && pgB vs Q x) = true then [x] else [])) := by
        show _ = _
        rw [HTK.out, HF.out]
        unfold selE
        rw [List.filter_append]
        congr 1
        rw [List.filter_cons, show Q.pre = pre by rw [hQ], HPB.out]
        rfl
      have HPG := Lib.hid hpg; clear hpg
      go_upto_region 9 with (fail)
      obtain ⟨W8, hW8⟩ : ∃ W8, wr.alloc (.cells #[.string x.key, .int .i64 x.id, .bool mk, .int .i64 x.size, .int .u32 x.sum, .bool la] 32) = W8 := ⟨_, rfl⟩
      rw [hW8]
      have hE : W8.heap[wr.heap.size]? = some (.cells #[.string x.key, .int .i64 x.id, .bool mk, .int .i64 x.size, .int .u32 x.sum, .bool la] 32 (0, 0)) := by rw [← hW8]; exact heap_alloc_new wr _
      have K8 : KeptBut w4.heap.size (w.heap.size + 1 + 1) w4 W8 := by rw [← hW8]; exact HKB.out.alloc hwr _
      have h88 : W8.heap[w.heap.size + 1 + 1]? = some (.cells #[sv, .bool false, .string ⟨#[]⟩, .int .i64 0] 43 (0, 0)) := by rw [← hW8]; exact (heap_alloc_old _ _ (by omega)).trans H8.out
      have own8 : W8.ownsRow w4.heap.size 32 6 sv f.length (f.flatMap encE) := by rw [← hW8]; exact HOWN.out.alloc _
      have s8 : W8.heap.size = wr.heap.size + 1 := by rw [← hW8]; simp
      have cE := (cells_of_heap hE).1
      have e0 := cE 0 _ rfl
      have e1 := cE 1 _ rfl
      have e2 := cE 2 _ rfl
      have e3 := cE 3 _ rfl
      have e4 := cE 4 _ rfl
      have e5 := cE 5 _ rfl
      obtain ⟨p0, p1, p2, p3⟩ := HBOX.out W8 K8
      have HK8 := Lib.hid K8
      have H88 := Lib.hid h88
      have HOW8 := Lib.hid own8
      have HS8 := Lib.hid s8
      clear hW8 K8 h88 own8 s8 cE hE a0 a1 a2 a3 a4 a5 H8 HOWN HKB
      go_cut [12] from 26 to 99 (fun v wx => v = .bool (pb && (vs || (la && !mk))) ∧ wx = W8)
      case first =>
        as_aux_lemma =>
          clear HROW HFR
          cases pb <;> cases vs <;> cases la <;> cases mk
          all_goals
            go_wp2_with (go_at_call 22; refine (CPRE.out _).mono ?_; rintro e w' ⟨rfl, rfl⟩)
            go_meet
            case rel => exact ⟨rfl, rfl⟩
      case rest =>
      obtain ⟨rfl, rfl⟩ := hcut
      obtain ⟨b1, hb1⟩ : ∃ b, (pb && (vs || (la && !mk))) = b := ⟨_, rfl⟩
      rw [hb1]
      have HB1 := Lib.hid hb1; clear hb1
      go_upto_region 10 with (fail)
      go_cut [12] from 26 to 99 (fun v wx => v = .bool (b1 && (em || le || (vs && (eq && ie)))) ∧ ∃ n, wx = wc.drewN n)
      case first =>
        as_aux_lemma =>
          clear HROW HFR
          cases b1
          · go_wp2_with fail
            go_meet
            case rel => exact ⟨rfl, 0, rfl⟩
          cases em
          · cases vs <;> cases le <;> cases eq
            all_goals
              go_wp2_with (go_at_call 13; refine (CLESS.out _).mono ?_; rintro e w' ⟨rfl, nn, rfl⟩)
              go_meet
              case rel => exact ⟨congrArg Value.bool (by simp), nn, rfl⟩
          · go_wp2_with fail
            go_meet
            case rel => exact ⟨rfl, 0, rfl⟩
      case rest =>
      obtain ⟨rfl, nn, rfl⟩ := hcut
      obtain ⟨w6, hw6⟩ : ∃ w6, wc.drewN nn = w6 := ⟨_, rfl⟩
      rw [hw6]
      have K6 : KeptBut w4.heap.size (w.heap.size + 1 + 1) w4 w6 := by rw [← hw6]; exact HK8.out.drewN nn
      have h86 : w6.heap[w.heap.size + 1 + 1]? = some (.cells #[sv, .bool false, .string ⟨#[]⟩, .int .i64 0] 43 (0, 0)) := by rw [← hw6]; exact H88.out
      have hown6 : w6.ownsRow w4.heap.size 32 6 sv f.length (f.flatMap encE) := by rw [← hw6]; exact HOW8.out
      have s6 : w6.heap.size = wr.heap.size + 1 := by rw [← hw6]; exact HS8.out
      have E0 : w6.cell? ⟨wr.heap.size, 0, none⟩ = some (.string x.key) := by rw [← hw6]; exact e0
      have E1 : w6.cell? ⟨wr.heap.size, 1, none⟩ = some (.int .i64 x.id) := by rw [← hw6]; exact e1
      have E2 : w6.cell? ⟨wr.heap.size, 2, none⟩ = some (.bool mk) := by rw [← hw6]; exact e2
      have E3 : w6.cell? ⟨wr.heap.size, 3, none⟩ = some (.int .i64 x.size) := by rw [← hw6]; exact e3
      have E4 : w6.cell? ⟨wr.heap.size, 4, none⟩ = some (.int .u32 x.sum) := by rw [← hw6]; exact e4
      have E5 : w6.cell? ⟨wr.heap.size, 5, none⟩ = some (.bool la) := by rw [← hw6]; exact e5
      have P3 : w6.cell? ⟨w.heap.size, 3, none⟩ = some (.int .i64 most) := (HBOX.out w6 K6).2.2.2
      clear hw6 e0 e1 e2 e3 e4 e5 p0 p1 p2 p3 HK8 H88 HOW8 HS8
      obtain ⟨b2, hb2⟩ : ∃ b, (b1 && (em || le || (vs && (eq && ie)))) = b := ⟨_, rfl⟩
      rw [hb2]
      have HB2 : Hid ((pb && pgB vs Q x) = b2) := by show _ = _; rw [HPG.out, HB1.out]; exact hb2
      clear hb2 hem hem2 heq hie HPG HB1 CLESS CPRE
      have hhx : (⟨x.key, x.id, mk, x.size, x.sum, la⟩ : Ent) = x := by rw [← hla, ← hmk]
      have hex : encE x = [.string x.key, .int .i64 x.id, .bool mk, .int .i64 x.size, .int .u32 x.sum, .bool la] := by rw [← hla, ← hmk]; rfl
      have HEX := Lib.hid hex
      clear hla hmk hhx hex hle
      have hw6 : w4.heap.size ≤ w6.heap.size := K6.size
      have hws : wr.heap.size < w6.heap.size := by omega
      have HK6 := Lib.hid K6
      have H86 := Lib.hid h86
      have HO6 := Lib.hid hown6
      have HS6 := Lib.hid s6
      cases b2
      · have HSE : Hid (selE (pgB vs Q) Q (l'.take (i + 1)) = f) := by show _ = _; rw [hsel.out, HB2.out]; simp
        clear K6 h86 hown6 s6
        go_wp2_with fail
        go_roundw
        case rel => exact ⟨i + 1, sv, f, by go_num, by omega, HK6, H86, HO6, HSE.out.symm, hfm⟩
        case measure => simp [intOf]; omega
      · have HSE : Hid (selE (pgB vs Q) Q (l'.take (i + 1)) = f ++ [x]) := by show _ = _; rw [hsel.out, HB2.out]; simp
        clear hsel HB2
        obtain ⟨ps, cs, rfl⟩ : ∃ ps cs, sv = .slice ps f.length cs := by
          rcases hown6.2 with ⟨h1, h2⟩ | ⟨g1, c1, _, h1, _⟩
          · exact ⟨none, 0, by rw [h1, h2]⟩
          · exact ⟨_, _, h1⟩
        have hsb : ∀ k, (Value.slice ps f.length cs).ownBlock = some k → w4.heap.size ≤ k := fun k hk => (hown6.lt k hk).1
        have HSB := Lib.hid hsb; clear hsb
        have c80 := (cells_of_heap h86).1 0 _ rfl
        clear K6 h86 hown6 s6
        by_cases hfl : f.length < most.toNat
        · have hflz : ((f.length : Int) == most) = false := by rw [beq_eq_false_iff_ne]; omega
          have g86 : w.heap.size + 1 + 1 < w6.heap.size := by omega
          have hown6a : ∀ o, (w6.alloc o).ownsRow w4.heap.size 32 6 (.slice ps f.length cs) f.length (f.flatMap encE) := fun o => HO6.out.alloc o
          have HOA := Lib.hid hown6a; clear hown6a
          go_wp2_with (first
            | (at_builtin; refine wpList_append_lies _ rfl _ _ 22 rfl w4.heap.size 32 i0 _ 6 56 Try.underlying22 hi hz0 hz1 hz2 rfl (by omega) (.slice ps f.length cs) f.length (f.flatMap encE) rfl (HOA.out _) ⟨w6.heap.size, 0, none⟩ 1 1 [.string x.key, .int .i64 x.id, .bool mk, .int .i64 x.size, .int .u32 x.sum, .bool la] rfl rfl (World.news_of_block (cs := #[.string x.key, .int .i64 x.id, .bool mk, .int .i64 x.size, .int .u32 x.sum, .bool la]) (t := 32) (fr := (0, 0)) (heap_alloc_new w6 _)) (by rw [← HEX.out]; exact encE_one x) (by omega) (by unfold maxLen; omega) (by omega) (by simp; omega) (w6.heap.size + 1) (by simp) ?_; intro gg cap w7 hown7 hgrow7 hat hlt; have h87 : w7.heap[w.heap.size + 1 + 1]? = some (.cells #[.slice ps f.length cs, .bool false, .string ⟨#[]⟩, .int .i64 0] 43 (0, 0)) := (hgrow7.block _ (by simp; omega) (fun e => by have := HSB.out _ e.symm; omega)).trans ((heap_alloc_old _ _ g86).trans H86.out); have c87 := (cells_of_heap h87).1 0 _ rfl; have f87 := (cells_of_heap h87).2 0))
          go_roundw
          case rel =>
            refine ⟨i + 1, .slice (some ⟨gg, 0, none⟩) (f.length + 1) cap, f ++ [x], by go_num, by omega, ((HK6.out.alloc hw6 _).grown (by simp; omega) hgrow7 HSB.out).setCell 0 _, by have := heap_set h87 0 (.slice (some ⟨gg, 0, none⟩) (f.length + 1) cap); show _ = _; simpa using this, ?_, HSE.out.symm, by simp; omega⟩
            have e1 : (f ++ [x]).length = f.length + 1 := by simp
            have e2 : (f ++ [x]).flatMap encE = f.flatMap encE ++ encE x := by simp
            show World.ownsRow _ _ _ _ _ _ _
            rw [e1, e2, HEX.out]
            exact ownsRow_setCell_below hown7 (by show w.heap.size + 1 + 1 < _; omega) _
          case measure => simp [intOf]; omega
        · have hmn : most = (f.length : Int) := by omega
          have hf0 : 0 < f.length := by omega
          obtain ⟨g1, rfl⟩ : ∃ g1, ps = some ⟨g1, 0, none⟩ := by
            rcases HO6.out.2 with ⟨_, h2⟩ | ⟨g1, c1, _, h1, _⟩
            · omega
            · injection h1 with h1 _ _
              exact ⟨g1, h1⟩
          obtain ⟨n1, hn1⟩ : ∃ n1, f.length = n1 + 1 := ⟨f.length - 1, by omega⟩
          have hgd : f.getD n1 default = f[n1]'(by omega) := by rw [List.getD_eq_getElem?_getD, List.getElem?_eq_getElem (by omega)]; rfl
          obtain ⟨y, hy⟩ : ∃ y, f[n1]'(by omega) = y := ⟨_, rfl⟩
          have hlaW : ∀ V : World, V.ownsRow w4.heap.size 32 6 (.slice (some ⟨g1, 0, none⟩) f.length cs) f.length (f.flatMap encE) → AtE V g1 (n1 * 6) y := fun V hV => by
            have := at_of (W := V) (b := g1) (o := 0) (l := f) (fun j u hj => by
              have hj' : j < f.length * 6 := by rw [← flat_length]; exact (List.getElem?_eq_some_iff.1 hj).1
              rw [Nat.zero_add, hV.cellAt j hj']; exact hj) n1 (by omega)
            rw [Nat.zero_add, hy] at this
            exact this
          have HLAW := Lib.hid hlaW; clear hlaW
          rw [hy] at hgd
          clear hy
          have hmb : ((f.length : Int) == most) = true := by rw [hmn]; simp
          have wm : IntKind.i64.wrap ((f.length : Int) - 1) = (n1 : Int) := by rw [IntWalk.i64_in _ (by omega)]; omega
          have nn : (n1 : Int) < (f.length : Int) := by omega
          have n0 : (0 : Int) ≤ (n1 : Int) := by omega
          have HGD := Lib.hid hgd; clear hgd
          have HN1 := Lib.hid hn1; clear hn1
          have HMN := Lib.hid hmn; clear hmn
          have c81 := (cells_of_heap H86.out).1 1 _ rfl
          have f81 := (cells_of_heap H86.out).2 1
          clear E0 E1 E2 E3 E4 E5
          go_upto_region 16 with (fail)
          have hb8' : w.heap.size + 1 + 1 < w4.heap.size := by omega
          obtain ⟨W9, hW9⟩ : ∃ W9, w6.setCell ⟨w.heap.size + 1 + 1, 1, none⟩ (.bool true) = W9 := ⟨_, rfl⟩
          rw [hW9]
          have h89 : W9.heap[w.heap.size + 1 + 1]? = some (.cells #[.slice (some ⟨g1, 0, none⟩) f.length cs, .bool true, .string ⟨#[]⟩, .int .i64 0] 43 (0, 0)) := by rw [← hW9]; exact heap_set H86.out 1 (.bool true)
          have K9 : KeptBut w4.heap.size (w.heap.size + 1 + 1) w4 W9 := by rw [← hW9]; exact HK6.out.setCell 1 _
          have own9 : W9.ownsRow w4.heap.size 32 6 (.slice (some ⟨g1, 0, none⟩) f.length cs) f.length (f.flatMap encE) := by rw [← hW9]; exact ownsRow_setCell_below HO6.out (a := ⟨w.heap.size + 1 + 1, 1, none⟩) hb8' _
          have s9 : w4.heap.size ≤ W9.heap.size := K9.size
          obtain ⟨l0, l1, l2, l3, l4, l5⟩ := HLAW.out W9 own9
          have c90 := (cells_of_heap h89).1 0 _ rfl
          have H89 := Lib.hid h89; clear h89
          have HK9 := Lib.hid K9; clear K9
          have HO9 := Lib.hid own9; clear own9
          clear hW9 H86 HK6 HO6 c80 c81 f81
          go_upto_region 17 with (fail)
          obtain ⟨W10, hW10⟩ : ∃ W10, W9.alloc (.cells #[.string y.key, .int .i64 y.id, .bool y.mark, .int .i64 y.size, .int .u32 y.sum, .bool y.latest] 32) = W10 := ⟨_, rfl⟩
          rw [hW10]
          have h810 : W10.heap[w.heap.size + 1 + 1]? = some (.cells #[.slice (some ⟨g1, 0, none⟩) f.length cs, .bool true, .string ⟨#[]⟩, .int .i64 0] 43 (0, 0)) := by rw [← hW10]; exact (heap_alloc_old _ _ (by omega)).trans H89.out
          have K10 : KeptBut w4.heap.size (w.heap.size + 1 + 1) w4 W10 := by rw [← hW10]; exact HK9.out.alloc s9 _
          have own10 : W10.ownsRow w4.heap.size 32 6 (.slice (some ⟨g1, 0, none⟩) f.length cs) f.length (f.flatMap encE) := by rw [← hW10]; exact HO9.out.alloc _
          have hL10 : W10.heap[W9.heap.size]? = some (.cells #[.string y.key, .int .i64 y.id, .bool y.mark, .int .i64 y.size, .int .u32 y.sum, .bool y.latest] 32 (0, 0)) := by rw [← hW10]; exact heap_alloc_new W9 _
          have m0 := (cells_of_heap hL10).1 0 _ rfl
          have d2 := (cells_of_heap h810).1 2 _ rfl
          have f2 := (cells_of_heap h810).2 2
          have H810 := Lib.hid h810; clear h810
          have HK10 := Lib.hid K10; clear K10
          have HO10 := Lib.hid own10; clear own10
          have HL10 := Lib.hid hL10; clear hL10
          clear hW10 H89 HK9 HO9 l0 l1 l2 l3 l4 l5 c90
          go_upto_region 18 with (fail)
          obtain ⟨W11, hW11⟩ : ∃ W11, W10.setCell ⟨w.heap.size + 1 + 1, 2, none⟩ (.string y.key) = W11 := ⟨_, rfl⟩
          rw [hW11]
          have h811 : W11.heap[w.heap.size + 1 + 1]? = some (.cells #[.slice (some ⟨g1, 0, none⟩) f.length cs, .bool true, .string y.key, .int .i64 0] 43 (0, 0)) := by rw [← hW11]; exact heap_set H810.out 2 (.string y.key)
          have K11 : KeptBut w4.heap.size (w.heap.size + 1 + 1) w4 W11 := by rw [← hW11]; exact HK10.out.setCell 2 _
          have own11 : W11.ownsRow w4.heap.size 32 6 (.slice (some ⟨g1, 0, none⟩) f.length cs) f.length (f.flatMap encE) := by rw [← hW11]; exact ownsRow_setCell_below HO10.out (a := ⟨w.heap.size + 1 + 1, 2, none⟩) hb8' _
          have m1 : W11.cell? ⟨W9.heap.size, 1, none⟩ = some (.int .i64 y.id) := by
            rw [← hW11, World.cell?_setCell_other _ _ _ _ (fun h => by injection h with h1 _; omega)]
            exact (cells_of_heap HL10.out).1 1 _ rfl
          have d3 := (cells_of_heap h811).1 3 _ rfl
          have f3 := (cells_of_heap h811).2 3
          clear hW11 H810 HK10 HO10 m0 d2 f2
          have hfin : ∀ (W12 : World) (idv : Int), W12.heap[w.heap.size + 1 + 1]? = some (.cells #[.slice (some ⟨g1, 0, none⟩) f.length cs, .bool true, .string y.key, .int .i64 idv] 43 (0, 0)) → KeptBut w4.heap.size (w.heap.size + 1 + 1) w4 W12 → True := fun _ _ _ _ => trivial
          clear hfin
          have hF : ∃ r, selE (pgB vs Q) Q l' = f ++ x :: r := by
            refine ⟨selE (pgB vs Q) Q (l'.drop (i + 1)), ?_⟩
            have h1 : selE (pgB vs Q) Q l' = selE (pgB vs Q) Q (l'.take (i + 1)) ++ selE (pgB vs Q) Q (l'.drop (i + 1)) := by
              conv => lhs; rw [← List.take_append_drop (i + 1) l']
              unfold selE
              rw [List.filter_append]
            rw [h1, HSE.out, List.append_assoc]
            rfl
          obtain ⟨r, hF⟩ := hF
          have HF2 := Lib.hid hF; clear hF
          have HK11 := Lib.hid K11; clear K11
          have HO11 := Lib.hid own11; clear own11
          have H811 := Lib.hid h811; clear h811
          have HQ := Lib.hid hQ; clear hQ
          cases vs
          · go_upto_region 20 with (fail)
            have h6 : W11.heap[w.heap.size + 1]? = some (.cells #[.slice none 0 0, .bool false, .string ⟨#[]⟩, .int .i64 0] 43 (0, 0)) := (HK11.out.block (w.heap.size + 1) (by omega) (by omega)).trans H41.out
            have t0 : W11.cell? ⟨w.heap.size + 1 + 1, 0, none⟩ = some (.slice (some ⟨g1, 0, none⟩) f.length cs) := (cells_of_heap H811.out).1 0 _ rfl
            have t1 : W11.cell? ⟨w.heap.size + 1 + 1, 1, none⟩ = some (.bool true) := (cells_of_heap H811.out).1 1 _ rfl
            have t2 : W11.cell? ⟨w.heap.size + 1 + 1, 2, none⟩ = some (.string y.key) := (cells_of_heap H811.out).1 2 _ rfl
            have t3 : W11.cell? ⟨w.heap.size + 1 + 1, 3, none⟩ = some (.int .i64 0) := (cells_of_heap H811.out).1 3 _ rfl
            have r0 : W11.cell? ⟨w.heap.size + 1, 0, none⟩ = some (.slice none 0 0) := (cells_of_heap h6).1 0 _ rfl
            have r1 : W11.cell? ⟨w.heap.size + 1, 1, none⟩ = some (.bool false) := (cells_of_heap h6).1 1 _ rfl
            have r2 : W11.cell? ⟨w.heap.size + 1, 2, none⟩ = some (.string ⟨#[]⟩) := (cells_of_heap h6).1 2 _ rfl
            have r3 : W11.cell? ⟨w.heap.size + 1, 3, none⟩ = some (.int .i64 0) := (cells_of_heap h6).1 3 _ rfl
            have z0 : W11.frozen? ⟨w.heap.size + 1, 0, none⟩ = false := (cells_of_heap h6).2 0
            have z1 : W11.frozen? ⟨w.heap.size + 1, 1, none⟩ = false := (cells_of_heap h6).2 1
            have z2 : W11.frozen? ⟨w.heap.size + 1, 2, none⟩ = false := (cells_of_heap h6).2 2
            have z3 : W11.frozen? ⟨w.heap.size + 1, 3, none⟩ = false := (cells_of_heap h6).2 3
            have H6W := Lib.hid h6; clear h6
            go_wp2
            (try simp only [Exit.inBlock, Exit.then])
            have h61 := heap_set (heap_set (heap_set (heap_set H6W.out 0 (.slice (some ⟨g1, 0, none⟩) f.length cs)) 1 (.bool true)) 2 (.string y.key)) 3 (.int .i64 0)
            refine bodyPost_ret (ret_pair rfl _ _ (w.heap.size + 1) _ _ _ _ rfl h61 Try.underlying43 rfl (by kernel_rfl)) rfl ?_
            have hmf : most.toNat = f.length := by have := HMN.out; omega
            have hnl : most.toNat < (f ++ x :: r).length := by rw [hmf]; simp
            have hb6 : w.heap.size + 1 < w4.heap.size := by omega
            have hown' := ownsRow_setCell_below (ownsRow_setCell_below (ownsRow_setCell_below (ownsRow_setCell_below HO11.out (a := ⟨w.heap.size + 1, 0, none⟩) hb6 (.slice (some ⟨g1, 0, none⟩) f.length cs)) (a := ⟨w.heap.size + 1, 1, none⟩) hb6 (.bool true)) (a := ⟨w.heap.size + 1, 2, none⟩) hb6 (.string y.key)) (a := ⟨w.heap.size + 1, 3, none⟩) hb6 (.int .i64 0)
            have hF2 := HF2.out
            rw [HQ.out] at hF2
            refine ⟨l', .slice (some ⟨g1, 0, none⟩) f.length cs, HPM.out, HSO.out, ?_, ?_, ?_, ?_⟩
            · rw [hF2, show (⟨pre, fr, fid, most⟩ : AskV).most.toNat = f.length from hmf, List.take_left]
              exact (rowE_own hown').1
            · intro b o n c h
              exact Nat.le_trans (by omega) ((rowE_own HO11.out).2 b o n c h)
            · exact ((((HK11.out.toBelow hbw4 (by omega) (by omega)).setCell (p := ⟨w.heap.size + 1, 0, none⟩) (Nat.le_succ _) _).setCell (p := ⟨w.heap.size + 1, 1, none⟩) (Nat.le_succ _) _).setCell (p := ⟨w.heap.size + 1, 2, none⟩) (Nat.le_succ _) _).setCell (p := ⟨w.heap.size + 1, 3, none⟩) (Nat.le_succ _) _
            · rw [hF2]
              unfold cutKey pgId
              have hg : (f ++ x :: r).getD (most.toNat - 1) default = y := by
                have h0 := HN1.out
                rw [← HGD.out, hmf, show f.length - 1 = n1 by omega, List.getD_eq_getElem?_getD, List.getElem?_append_left (by omega), ← List.getD_eq_getElem?_getD]
              rw [if_pos hnl, if_neg (by simp), decide_eq_true hnl, hg]
              rfl
          · go_upto_region 20 with (fail)
            obtain ⟨W12, hW12⟩ : ∃ W12, W11.setCell ⟨w.heap.size + 1 + 1, 3, none⟩ (.int .i64 y.id) = W12 := ⟨_, rfl⟩
            rw [hW12]
            have H8W : Hid (W12.heap[w.heap.size + 1 + 1]? = some (.cells #[.slice (some ⟨g1, 0, none⟩) f.length cs, .bool true, .string y.key, .int .i64 y.id] 43 (0, 0))) := by show _ = _; rw [← hW12]; exact heap_set H811.out 3 (.int .i64 y.id)
            have HKW : Hid (KeptBut w4.heap.size (w.heap.size + 1 + 1) w4 W12) := by rw [← hW12]; exact HK11.out.setCell 3 _
            have HOW : Hid (W12.ownsRow w4.heap.size 32 6 (.slice (some ⟨g1, 0, none⟩) f.length cs) f.length (f.flatMap encE)) := by rw [← hW12]; exact ownsRow_setCell_below HO11.out (a := ⟨w.heap.size + 1 + 1, 3, none⟩) hb8' _
            clear hW12 H811 HK11 HO11 m1 d3 f3
            have h6 : W12.heap[w.heap.size + 1]? = some (.cells #[.slice none 0 0, .bool false, .string ⟨#[]⟩, .int .i64 0] 43 (0, 0)) := (HKW.out.block (w.heap.size + 1) (by omega) (by omega)).trans H41.out
            have t0 : W12.cell? ⟨w.heap.size + 1 + 1, 0, none⟩ = some (.slice (some ⟨g1, 0, none⟩) f.length cs) := (cells_of_heap H8W.out).1 0 _ rfl
            have t1 : W12.cell? ⟨w.heap.size + 1 + 1, 1, none⟩ = some (.bool true) := (cells_of_heap H8W.out).1 1 _ rfl
            have t2 : W12.cell? ⟨w.heap.size + 1 + 1, 2, none⟩ = some (.string y.key) := (cells_of_heap H8W.out).1 2 _ rfl
            have t3 : W12.cell? ⟨w.heap.size + 1 + 1, 3, none⟩ = some (.int .i64 y.id) := (cells_of_heap H8W.out).1 3 _ rfl
            have r0 : W12.cell? ⟨w.heap.size + 1, 0, none⟩ = some (.slice none 0 0) := (cells_of_heap h6).1 0 _ rfl
            have r1 : W12.cell? ⟨w.heap.size + 1, 1, none⟩ = some (.bool false) := (cells_of_heap h6).1 1 _ rfl
            have r2 : W12.cell? ⟨w.heap.size + 1, 2, none⟩ = some (.string ⟨#[]⟩) := (cells_of_heap h6).1 2 _ rfl
            have r3 : W12.cell? ⟨w.heap.size + 1, 3, none⟩ = some (.int .i64 0) := (cells_of_heap h6).1 3 _ rfl
            have z0 : W12.frozen? ⟨w.heap.size + 1, 0, none⟩ = false := (cells_of_heap h6).2 0
            have z1 : W12.frozen? ⟨w.heap.size + 1, 1, none⟩ = false := (cells_of_heap h6).2 1
            have z2 : W12.frozen? ⟨w.heap.size + 1, 2, none⟩ = false := (cells_of_heap h6).2 2
            have z3 : W12.frozen? ⟨w.heap.size + 1, 3, none⟩ = false := (cells_of_heap h6).2 3
            have H6W := Lib.hid h6; clear h6
            go_wp2
            (try simp only [Exit.inBlock, Exit.then])
            have h61 := heap_set (heap_set (heap_set (heap_set H6W.out 0 (.slice (some ⟨g1, 0, none⟩) f.length cs)) 1 (.bool true)) 2 (.string y.key)) 3 (.int .i64 y.id)
            refine bodyPost_ret (ret_pair rfl _ _ (w.heap.size + 1) _ _ _ _ rfl h61 Try.underlying43 rfl (by kernel_rfl)) rfl ?_
            have hmf : most.toNat = f.length := by have := HMN.out; omega
            have hnl : most.toNat < (f ++ x :: r).length := by rw [hmf]; simp
            have hb6 : w.heap.size + 1 < w4.heap.size := by omega
            have hown' := ownsRow_setCell_below (ownsRow_setCell_below (ownsRow_setCell_below (ownsRow_setCell_below HOW.out (a := ⟨w.heap.size + 1, 0, none⟩) hb6 (.slice (some ⟨g1, 0, none⟩) f.length cs)) (a := ⟨w.heap.size + 1, 1, none⟩) hb6 (.bool true)) (a := ⟨w.heap.size + 1, 2, none⟩) hb6 (.string y.key)) (a := ⟨w.heap.size + 1, 3, none⟩) hb6 (.int .i64 y.id)
            have hF2 := HF2.out
            rw [HQ.out] at hF2
            refine ⟨l', .slice (some ⟨g1, 0, none⟩) f.length cs, HPM.out, HSO.out, ?_, ?_, ?_, ?_⟩
            · rw [hF2, show (⟨pre, fr, fid, most⟩ : AskV).most.toNat = f.length from hmf, List.take_left]
              exact (rowE_own hown').1
            · intro b o n c h
              exact Nat.le_trans (by omega) ((rowE_own HOW.out).2 b o n c h)
            · exact ((((HKW.out.toBelow hbw4 (by omega) (by omega)).setCell (p := ⟨w.heap.size + 1, 0, none⟩) (Nat.le_succ _) _).setCell (p := ⟨w.heap.size + 1, 1, none⟩) (Nat.le_succ _) _).setCell (p := ⟨w.heap.size + 1, 2, none⟩) (Nat.le_succ _) _).setCell (p := ⟨w.heap.size + 1, 3, none⟩) (Nat.le_succ _) _
            · rw [hF2]
              unfold cutKey pgId cutId
              have hg : (f ++ x :: r).getD (most.toNat - 1) default = y := by
                have h0 := HN1.out
                rw [← HGD.out, hmf, show f.length - 1 = n1 by omega, List.getD_eq_getElem?_getD, List.getElem?_append_left (by omega), ← List.getD_eq_getElem?_getD]
              rw [if_pos hnl, if_pos rfl, if_pos hnl, decide_eq_true hnl, hg]
              rfl
    · have hpz : (l'.length : Int) ≤ (i : Int) := by omega
      have hil : i = l'.length := by omega
      have hF : selE (pgB vs Q) Q l' = f := by rw [HF.out, hil, List.take_length]
      obtain ⟨ps, cs, rfl⟩ : ∃ ps cs, sv = .slice ps f.length cs := by
        rcases HOWN.out.2 with ⟨h1, h2⟩ | ⟨g1, c1, _, h1, _⟩
        · exact ⟨none, 0, by rw [h1, h2]⟩
        · exact ⟨_, _, h1⟩
      have h6 : wr.heap[w.heap.size + 1]? = some (.cells #[.slice none 0 0, .bool false, .string ⟨#[]⟩, .int .i64 0] 43 (0, 0)) := (HKB.out.block (w.heap.size + 1) (by omega) (by omega)).trans H41.out
      have t0 : wr.cell? ⟨w.heap.size + 1 + 1, 0, none⟩ = some (.slice ps f.length cs) := (cells_of_heap H8.out).1 0 _ rfl
      have t1 : wr.cell? ⟨w.heap.size + 1 + 1, 1, none⟩ = some (.bool false) := (cells_of_heap H8.out).1 1 _ rfl
      have t2 : wr.cell? ⟨w.heap.size + 1 + 1, 2, none⟩ = some (.string ⟨#[]⟩) := (cells_of_heap H8.out).1 2 _ rfl
      have t3 : wr.cell? ⟨w.heap.size + 1 + 1, 3, none⟩ = some (.int .i64 0) := (cells_of_heap H8.out).1 3 _ rfl
      have r0 : wr.cell? ⟨w.heap.size + 1, 0, none⟩ = some (.slice none 0 0) := (cells_of_heap h6).1 0 _ rfl
      have r1 : wr.cell? ⟨w.heap.size + 1, 1, none⟩ = some (.bool false) := (cells_of_heap h6).1 1 _ rfl
      have r2 : wr.cell? ⟨w.heap.size + 1, 2, none⟩ = some (.string ⟨#[]⟩) := (cells_of_heap h6).1 2 _ rfl
      have r3 : wr.cell? ⟨w.heap.size + 1, 3, none⟩ = some (.int .i64 0) := (cells_of_heap h6).1 3 _ rfl
      have z0 : wr.frozen? ⟨w.heap.size + 1, 0, none⟩ = false := (cells_of_heap h6).2 0
      have z1 : wr.frozen? ⟨w.heap.size + 1, 1, none⟩ = false := (cells_of_heap h6).2 1
      have z2 : wr.frozen? ⟨w.heap.size + 1, 2, none⟩ = false := (cells_of_heap h6).2 2
      have z3 : wr.frozen? ⟨w.heap.size + 1, 3, none⟩ = false := (cells_of_heap h6).2 3
      have HFN := Lib.hid hF; clear hF
      have HIL := Lib.hid hil; clear hil
      have H6W := Lib.hid h6; clear h6
      have HQ := Lib.hid hQ; clear hQ
      go_wp2
      (try simp only [Exit.inBlock, Exit.then])
      have h61 := heap_set (heap_set (heap_set (heap_set H6W.out 0 (.slice ps f.length cs)) 1 (.bool false)) 2 (.string ⟨#[]⟩)) 3 (.int .i64 0)
      refine bodyPost_ret (ret_pair rfl _ _ (w.heap.size + 1) _ _ _ _ rfl h61 Try.underlying43 rfl (by kernel_rfl)) rfl ?_
      have hnl : ¬ most.toNat < f.length := by omega
      have hrow := rowE_own HOWN.out
      have hb6 : w.heap.size + 1 < w4.heap.size := by omega
      have hown' := ownsRow_setCell_below (ownsRow_setCell_below (ownsRow_setCell_below (ownsRow_setCell_below HOWN.out (a := ⟨w.heap.size + 1, 0, none⟩) hb6 (.slice ps f.length cs)) (a := ⟨w.heap.size + 1, 1, none⟩) hb6 (.bool false)) (a := ⟨w.heap.size + 1, 2, none⟩) hb6 (.string ⟨#[]⟩)) (a := ⟨w.heap.size + 1, 3, none⟩) hb6 (.int .i64 0)
      have hF2 := HFN.out
      rw [HQ.out] at hF2
      refine ⟨l', .slice ps f.length cs, HPM.out, HSO.out, ?_, ?_, ?_, ?_⟩
      · rw [hF2, List.take_of_length_le (by show f.length ≤ most.toNat; omega)]
        exact (rowE_own hown').1
      · intro b o n c h
        exact Nat.le_trans (by omega) ((rowE_own HOWN.out).2 b o n c h)
      · exact ((((HKB.out.toBelow hbw4 (by omega) (by omega)).setCell (p := ⟨w.heap.size + 1, 0, none⟩) (Nat.le_succ _) _).setCell (p := ⟨w.heap.size + 1, 1, none⟩) (Nat.le_succ _) _).setCell (p := ⟨w.heap.size + 1, 2, none⟩) (Nat.le_succ _) _).setCell (p := ⟨w.heap.size + 1, 3, none⟩) (Nat.le_succ _) _
      · rw [hF2]
        unfold cutKey pgId cutId
        rw [if_neg hnl, if_neg hnl, ite_self, decide_eq_false hnl]
        rfl
end Go.Proofs.Ytgaejaadjmcckaa
