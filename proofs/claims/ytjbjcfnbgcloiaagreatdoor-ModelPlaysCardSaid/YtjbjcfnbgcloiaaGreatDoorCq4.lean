/- Slices of versions, copied; a version more. -/
import Derived.Test.YtjbjcfnbgcloiaaGreatDoorCq3
import Derived.Test.YtjbjcfnbgcloiaaGreatDoorLaysM
import Derived.Deep.AppendLies
import Derived.Laws.CopyOwn
import Derived.Deep.RegionHeldLaw
import Derived.Deep.QuietTactic
import Derived.BigQuiet
import Derived.Test.YtjbjcfnbgcloiaaGreatDoorRows
import Derived.WalkKit
import Derived.ProofKit
import Derived.OpenShut
import Derived.Carry
import Derived.Lib.Hide
import Derived.Handy
import Derived.Laws.StructEq
set_option linter.unusedSimpArgs false
set_option linter.unusedVariables false

namespace Go.Proofs.YtjbjcfnbgcloiaaGreatDoor
open Go.RowKit Nam YtjbjcfnbgcloiaaGreatDoorW.PrintWords

theorem infoKp : (Tryz.prog.info? 67).map (fun i => (i.zero, i.size, i.bytes)) = some (some (.agg #[.int .i64 0, .bool false, .int .i64 0, .int .u32 0, .slice none 0 0]), 5, 56) := by kernel_rfl
theorem own_cells {w : World} {base n size : Nat} {e : TypeId} {v : Value} {news : List Value} (h : w.ownsRow base e size v n news) {g c : Nat} (hv : v = .slice (some ⟨g, 0, none⟩) n c) (j : Nat) (u : Value) (hu : news[j]? = some u) : w.cell? ⟨g, j, none⟩ = some u := by
  rcases h.2 with ⟨h0, _⟩ | ⟨g', cap, cur, h0, _, hg, _, _, hsz, htk⟩
  · rw [h0] at hv; cases hv
  · rw [h0] at hv
    injection hv with hA _ _
    injection hA with hA
    injection hA with hA _ _
    subst hA
    have := blk_cell hg j
    rw [this]
    rw [← htk, List.getElem?_take] at hu
    split at hu
    · simpa using hu
    · cases hu
theorem rowV_of_own {w : World} {base n : Nat} {v : Value} {l : List Kp} {news : List Value} {F : Nat → Prop} (h : w.ownsRow base 67 5 v n news) (hr : Reps (KpF w F) 5 l news) (hn : l.length = n) (hF : ∀ g, v.ownBlock = some g → F g) : RowV w F v l := by
  subst hn
  refine ⟨news, ?_, hr⟩
  rcases h.2 with ⟨h0, h1⟩ | ⟨g', cap, cur, h0, _, hg, hle, _⟩
  · exact .inl ⟨h0, h1, List.length_eq_zero_iff.1 (by rw [h.1, h1])⟩
  · exact .inr ⟨g', cap, h0, hle, hF g' (by rw [h0]; rfl), fun j u hu => own_cells h h0 j u hu⟩
theorem reps_kept {w w' : World} {F : Nat → Prop} {l : List Kp} {news : List Value} (h : Reps (KpF w F) 5 l news) (hk : FKept F w w') : Reps (KpF w' F) 5 l news := h.imp_ fun _ _ hp => hp.kept hk
theorem reps_mono {w : World} {F F' : Nat → Prop} {l : List Kp} {news : List Value} (h : Reps (KpF w F) 5 l news) (hf : ∀ k, F k → F' k) : Reps (KpF w F') 5 l news := h.imp_ fun _ _ hp => hp.mono hf
theorem reps_ones {w : World} {F : Nat → Prop} {l : List Kp} {news : List Value} (hr : Reps (KpF w F) 5 l news) : ∀ u ∈ news, u.oneCell' = true := Kd.reps_one hr (by decide) (fun p c h u hu => KpF.one h u hu)
theorem kclone_at (w : World) (F : Nat → Prop) (v : Value) (news : List Value) (n : Nat) (hl : n ≤ 1000) (hn : news.length = n * 5) (h1 : ∀ u ∈ news, u.oneCell' = true) (hv : NewsAt w F v news n) :
    Calls Tryz.prog 21 #[v] w fun e w' => (∃ v', e = .returned v' ∧ w'.ownsRow w.heap.size 67 5 v' n news) ∧ Below w.heap.size w w' := by
  rcases hv with ⟨rfl, rfl, rfl⟩ | ⟨g, c, rfl, hc, _, hC⟩
  · refine (AnyE.slices_Clone_nil Tryz.cloneK 0 0 w).mono fun e w' ⟨he, hw⟩ => ?_
    subst hw
    exact ⟨⟨.slice none 0 0, he, own_nil _ _ _ _⟩, Below.refl _ _⟩
  · obtain ⟨i0, hi, hz0, hz1, hz2⟩ := info_parts infoKp
    refine (AnyE.slices_Clone Tryz.cloneK i0 _ 5 56 hi hz0 hz1 hz2 rfl (by decide) (fun w => by kernel_rfl) g 0 n c news w hn (by unfold maxLen; omega) (by omega) (fun j u hu => by rw [Nat.zero_add]; exact hC j u hu) h1).mono fun e w' ⟨v', he, ho, _, hb⟩ => ?_
    exact ⟨⟨v', he, ho⟩, hb⟩
theorem bclone_is (w : World) (A : Option Addr) (c : Nat) (l : List UInt8) (hl : l.length ≤ 1000000) (hC : (Kd.int .u8).C w A l.length (byN l)) :
    Calls Tryz.prog 53 #[.slice A l.length c] w fun e w' => (∃ A' c', e = .returned (.slice A' l.length c') ∧ l.length ≤ c' ∧ ∃ Fb, DatF w' Fb A' l ∧ ∀ k, Fb k → IsC w' k ∧ w.heap.size ≤ k) ∧ Below w.heap.size w w' := by
  cases A with
  | none =>
    have h0 : l = [] := by
      rcases Nat.eq_zero_or_pos l.length with h | h
      · exact List.length_eq_zero_iff.1 h
      · obtain ⟨ad, e, _⟩ := hC.2.2 h
        cases e
    subst h0
    refine (Any.bytes_Clone_nil Tryz.bcloneL _ _ w).mono fun e w' ⟨he, hw⟩ => ?_
    subst hw
    exact ⟨⟨none, 0, he, Nat.le_refl _, fun _ => False, fun _ _ => Kd.C_nil _ _, fun k hk => hk.elim⟩, Below.refl _ _⟩
  | some ad =>
    refine (Any.bytes_Clone_at Tryz.bcloneL ad l.length c (byN l) w (byN_length l) (by omega) (fun i hi => ?_)).mono fun e w' ⟨v', he, ho, _, hb⟩ => ?_
    · obtain ⟨ad', e, hcell⟩ := Kd.at_int hC (i : Int) (by omega) (by omega)
      injection e with e
      subst e
      rw [Int.toNat_natCast] at hcell
      exact hcell
    · obtain ⟨A', c', rfl, hle, hR⟩ := own_reads_of_le (enc := Value.int .u8) (d := (0 : Int)) ho
      refine ⟨⟨A', c', he, hle, fun k => (Value.slice A' l.length c').ownBlock = some k, fun w2 hk => ?_, fun k hk => ⟨?_, own_base ho k hk⟩⟩, hb⟩
      rotate_left
      · obtain ⟨cells, hc⟩ := own_typed ho k hk
        exact ⟨_, _, _, hc⟩
      obtain ⟨A2, c2, e2, _, hR2⟩ := own_reads_of_le (enc := Value.int .u8) (d := (0 : Int)) (own_move ho (fun k hk' => hk k hk'))
      injection e2 with e3 _ _
      subst e3
      exact Kd.C_of_reads (h1 := fun _ => rfl) hR2
end Go.Proofs.YtjbjcfnbgcloiaaGreatDoor

/- named and more of package model. -/
namespace Go.Proofs.YtjbjcfnbgcloiaaGreatDoor
open Go.RowKit Nam YtjbjcfnbgcloiaaGreatDoorW.PrintWords

def namedB (b k : List UInt8) : Bool := bucketB b && keyB k
set_option maxHeartbeats 1000000 in
theorem named_is (w : World) (g mb : Nat) (b k : List UInt8) (hb : b.length ≤ 100000) (hk : k.length ≤ 100000) (hT : Tabs w) (hc : w.heap[g]? = some (.cells #[.map (some mb)] 59 (0, 0))) :
    Calls Tryz.prog 50 #[.pointer (some ⟨g, 0, none⟩), .string (mkS b), .string (mkS k)] w fun e w' => e = .returned (.int .i64 (if namedB b k = true then 0 else 12)) ∧ Below w.heap.size w w' := by
  have hsb : (mkS b).size ≤ maxLen := by rw [mkS_size]; unfold maxLen; omega
  have hsk : (mkS k).size ≤ maxLen := by rw [mkS_size]; unfold maxLen; omega
  have HTh := Lib.hid (there_is w g mb hc)
  have HT := Lib.hid hT; clear hT hc
  obtain ⟨ok, hok⟩ : ∃ ok, bucketB b = ok := ⟨_, rfl⟩
  obtain ⟨kk, hkk⟩ : ∃ kk, keyB k = kk := ⟨_, rfl⟩
  have HBk : Hid (∀ W, Calls Tryz.prog 49 #[.string (mkS b)] W fun e w' => e = .returned (.bool ok) ∧ Below W.heap.size W w') := fun W => by
    have := bucket_is (mkS b) W hsb
    rw [mkS_list, hok] at this
    exact this
  have HKy : Hid (∀ W, Below w.heap.size w W → Calls Tryz.prog 78 #[.string (mkS k)] W fun e w' => e = .returned (.bool kk) ∧ Below W.heap.size W w') := fun W hW => by
    have := key_is (mkS k) W hsk (HT.out.below hW)
    rw [mkS_list, hkk] at this
    exact this
  have hn : namedB b k = (ok && kk) := by unfold namedB; rw [hok, hkk]
  rw [hn]
  clear hok hkk hn hsb hsk
  cases ok with
  | false =>
    go_enter Tryz.func50, Tryz.ntmps50
    go_wp2_with fail
    refine HTh.out.mono ?_
    rintro e w' ⟨rfl, rfl⟩
    go_wp2_with fail
    refine (HBk.out _).mono ?_
    rintro e w1 ⟨rfl, hb1⟩
    go_wp2_with fail
    go_ret
    exact ⟨rfl, hb1⟩
  | true =>
    cases kk
    all_goals
      go_enter Tryz.func50, Tryz.ntmps50
      go_wp2_with fail
      refine HTh.out.mono ?_
      rintro e w' ⟨rfl, rfl⟩
      go_wp2_with fail
      refine (HBk.out _).mono ?_
      rintro e w1 ⟨rfl, hb1⟩
      go_wp2_with fail
      refine (HKy.out _ hb1).mono ?_
      rintro e w2 ⟨rfl, hb2⟩
      go_wp2_with fail
      go_ret
      exact ⟨rfl, hb1.trans (hb2.mono hb1.size)⟩

def St.put (S : St) (b k : List UInt8) (l : List Kp) : St := { S with V := fun b' k' => if b' = b ∧ k' = k then l else S.V b' k' }
def moreE (l : List Kp) (x : Kp) : Int :=
  if 64 ≤ l.length then 18 else if x.id < 1 ∨ 2147483647 < x.id then 1 else match l.getLast? with
    | some y => if x.id ≤ y.id then 1 else 0
    | none => 0
def St.more (S : St) (b k : List UInt8) (x : Kp) : St := if moreE (S.V b k) x = 0 then S.put b k (S.V b k ++ [x]) else S
def kp0 : Kp := ⟨0, false, 0, 0, []⟩
def verV (x : Kp) : Value := .agg #[.int .i64 x.id, .bool x.mark, .int .i64 x.sz, .int .u32 x.sum]
def MoreIs (S : St) (n : Nat) (Q F Fx : Nat → Prop) (g : Nat) (b k : List UInt8) (x : Kp) (w : World) (e : Ending) (w' : World) : Prop :=
  e = .returned (.tuple #[verV (if moreE (S.V b k) x = 0 then x else kp0), .int .i64 (moreE (S.V b k) x)]) ∧ (∃ F', HasM w' g (S.more b k x) (n + 1) Q F' ∧ ∀ j, F' j → F j ∨ Fx j ∨ w.heap.size ≤ j) ∧ Moved Q w w'

theorem stored {w w2 : World} {g n mb ib : Nat} {S : St} {Q F F' : Nat → Prop} {D D2 : DataW Unit} {b k : List UInt8} {l : List Kp} {v : Value} {d : DataW Unit} (hq : ∀ k, Q k → IsM w k) (hF : ∀ k, F k → IsC w k) (hF1 : ∀ k, F k → F' k) (hF2 : ∀ k, F' k → IsC w2 k) (nd : S.B.Nodup) (off : ∀ s, s ∉ S.B → ∀ k, S.V s k = []) (h : Outer w g S n Q F mb D) (hb : b ∈ S.B)
    (hat : D.atKey (.string b) .nil = .lit (.int .i64 ib)) (hqi : Q ib) (hne : ib ≠ mb) (hin : w.ownsMap Tryz.prog 9 R2 ib n D2) (hv2 : ∀ s, ∃ v ps, R2 v = some (D2.atKey (.string s) .nil, ps) ∧ RowV w F v (S.V b s))
    (hv : R2 v = some (d, [])) (hown : w2.ownsMap Tryz.prog 9 R2 ib (n + 1) (D2.put (.string k) d)) (hg : Moved (fun j => j = ib) w w2) (hrow : RowV w2 F' v l) : HasM w2 g (S.put b k l) (n + 1) Q F' ∧ Moved Q w w2 := by
  have hold : ∀ j, j < w.heap.size → j ≠ ib → w2.heap[j]? = w.heap[j]? := fun j hj hn => hg.block j hj hn
  have hck : FKept F w w2 := fun j hj => hold j (isC_lt (hF j hj)) (fun e => isC_not (hF j hj) (hq j (by rw [e]; exact hqi)))
  obtain ⟨h1, hfg, h2, h3, h4, h5, h6, h7⟩ := h
  have hmq : mb < w.heap.size := isM_lt (hq mb h3)
  refine ⟨⟨fun j hj => ?_, hF2, nd, fun t ht k' => ?_, mb, D, ⟨(hck g hfg).trans h1, hF1 g hfg, (ownsMap_kept h2 (hold mb hmq (fun e => hne e.symm))).mono (by omega), h3, h4, h5, fun t ht => ?_, h7⟩⟩, ⟨hg.os, hg.tape, hg.output, hg.size, fun j hj hn => hg.block j hj (fun e => hn (by rw [e]; exact hqi))⟩⟩
  · by_cases e : j = ib
    · subst e; exact ownsMap_isM hown
    · obtain ⟨a, c, hh⟩ := hq j hj
      exact ⟨a, c, (hold j (isM_lt (hq j hj)) e).trans hh⟩
  · show (if t = b ∧ k' = k then l else S.V t k') = []
    rw [if_neg (fun e => ht (by rw [e.1]; exact hb))]
    exact off t ht k'
  · by_cases e : t = b
    · subst e
      refine ⟨ib, hat, hqi, hne, _, hown, fun s => ?_⟩
      show ∃ v ps, _ ∧ RowV w2 F' v (if t = t ∧ s = k then l else S.V t s)
      by_cases es : s = k
      · subst es
        rw [if_pos ⟨rfl, rfl⟩, Maps.atKey_put_same hin.isMap (isKey_str s)]
        exact ⟨v, [], hv, hrow⟩
      · rw [if_neg (fun e => es e.2), Maps.atKey_put_other (fun e' => es (by injection e'))]
        obtain ⟨u, ps, e1, e2⟩ := hv2 s
        exact ⟨u, ps, e1, (e2.kept hck).mono hF1⟩
    · obtain ⟨b', e1, e2, e3, e4⟩ := h6 t ht
      have hbb : b' ≠ ib := fun eb => e (h7 t ht b hb (by rw [e1, hat, eb]))
      refine ⟨b', e1, e2, e3, ?_⟩
      have hf : (S.put b k l).V t = S.V t := by
        funext s
        show (if t = b ∧ s = k then l else S.V t s) = _
        rw [if_neg (fun e' => e e'.1)]
      rw [hf]
      exact ((e4.kept (hold b' (isM_lt (hq b' e2)) hbb) hck).more hF1).mono (by omega)
theorem Moved.setRow {Q : Nat → Prop} {w a : World} (h : Moved Q w a) (r : Nat) (hr : w.heap.size ≤ r) (cs : Array Value) : Moved Q w (a.setRow r cs) := by
  have hb := below_setRow (Below.refl w.heap.size a) hr cs
  exact ⟨hb.os.trans h.os, hb.tape.trans h.tape, hb.output.trans h.output, Nat.le_trans h.size hb.size, fun k hk hq => (hb.block k hk).trans (h.block k hk hq)⟩
end Go.Proofs.YtjbjcfnbgcloiaaGreatDoor

/- The last step of every law: what was there before the call reads as it read, whatever the arguments' types. -/
namespace Go.Proofs.YtjbjcfnbgcloiaaGreatDoor
open Go.ChangeShapes Go.WideShapes Go.ChangeAt Go.RowKit

section
variable {H : Type} {enc : TypeId × Value → H} {P : Program}

theorem trodAll_stays (hl : laidOutB P = true) {W W' : World} (hb : Below W.heap.size W W') : ∀ {ts : List TypeId} {vs : List Value} {ds : List (DataW H)} {p : List MemPlace},
    (∀ t ∈ ts, P.readableRec t = true ∧ t < P.types.size) → DataW.TrodAll enc P W 0 (fun _ => true) true ts vs ds p → (∀ x ∈ p, x.block < W.heap.size) →
    ∀ sp : Nat → Bool, (∀ x ∈ p, sp x.block = true) → DataW.TrodAll enc P W' 0 sp true ts vs ds p
  | [], [], [], _, _, h, _, _, _ => h
  | t :: ts, v :: vs, d :: ds, ps, hr, h, hlt, sp, hsp => by
    obtain ⟨p, q, h1, h2, rfl⟩ := h
    have h0 := hr t (List.mem_cons_self ..)
    refine ⟨p, q, ?_, ?_, rfl⟩
    · exact WideElems.Trod_stays hl h0.1 h0.2 h1 (fun x hx => hb.same (hlt x (List.mem_append_left _ hx))) (fun x hx => hsp x (List.mem_append_left _ hx))
    · exact trodAll_stays hl hb (fun t ht => hr t (List.mem_cons_of_mem _ ht)) h2 (fun x hx => hlt x (List.mem_append_right _ hx)) sp (fun x hx => hsp x (List.mem_append_right _ hx))
  | [], _ :: _, _, _, _, h, _, _, _ => h.elim
  | [], [], _ :: _, _, _, h, _, _, _ => h.elim
  | _ :: _, [], _, _, _, h, _, _, _ => h.elim
  | _ :: _, _ :: _, [], _, _, h, _, _, _ => h.elim

theorem post_of_below {f : Func} {s : ChangeSpec} {apart fresh handsOn again : Bool} {W W' : World} {args : Array Value} {v : Value} {ds gs : List (DataW H)} {before pa pv : List MemPlace}
    (hW : DataW.Whole enc P f.params.toList s.vars apart W args.toList ds gs before)
    (hres : ∀ (b : Nat) (sp : Nat → Bool) (hd : Bool), DataW.TrodAll enc P W' b sp hd f.resultTypes.toList (v.resultList f.resultTypes.size) (s.fn H (ds ++ gs)).results [])
    (hargs : ∀ sp : Nat → Bool, (∀ p ∈ before, sp p.block = true) → DataW.TrodAll enc P W' 0 sp true f.params.toList args.toList (s.fn H (ds ++ gs)).args pa)
    (hvars : ∀ sp : Nat → Bool, (∀ p ∈ before, sp p.block = true) → DataW.TrodVars enc P W' sp s.vars (s.fn H (ds ++ gs)).vars pv)
    (hps : before = pa ++ pv) (hb : Below W.heap.size W W')
    (hok : ∀ (j : Nat) (t : TypeId) (r : Value), f.resultTypes[j]? = some t → (v.resultList f.resultTypes.size)[j]? = some r → Value.okWide P W' .any 0 t r) :
    s.post enc P f apart fresh handsOn again W args v W' := by
  have hlt : ∀ p ∈ before, p.block < W.heap.size := fun p hp => hW.lt p hp
  have hold : ∀ p ∈ before, (fun b => decide (b < W.heap.size)) p.block = true := fun p hp => by simpa using hlt p hp
  refine ⟨ds, gs, before, [], pa, pv, hW, hres _ _ _, hargs _ hold, hvars _ hold, World.keptBut_mono (fun p hp => ⟨hp, ?_⟩) (hb.frame (· ∈ before)), fun _ => ?_⟩
  · rw [hps, List.mem_append] at hp
    exact Or.inr hp
  · obtain ⟨_, _, _, _, _, hz, hn⟩ := hW
    refine ⟨hok, _, _, ([] ++ pa) ++ pv, ⟨[] ++ pa, pv, trodAll_append (hargs _ (fun _ _ => rfl)) (hres _ _ _), hvars _ (fun _ _ => rfl), rfl, ?_, ?_⟩, ?_⟩
    · intro b off hp
      have hin : MemPlace.cell b off ∈ before := by rw [hps]; simpa using hp
      rw [hb.frozen (hlt _ hin)]
      exact hz b off hin
    · intro ha
      have := hn ha
      rw [hps] at this
      simpa using this
    · intro p hp _
      rw [hps]
      simpa using hp

theorem law_post {f : Func} {s : ChangeSpec} {apart fresh handsOn again : Bool} {W W' : World} {args : Array Value} {bt : TypeId} {ds : List (DataW H)} {before : List MemPlace}
    (hl : laidOutB P = true) (hr : ∀ t ∈ f.params.toList, P.readableRec t = true ∧ t < P.types.size) (hbt : P.underlying bt = some .bool) (hf : f.resultTypes = #[bt])
    (hfr : (s.fn H (ds ++ [])).results = [.lit (.bool true)]) (hfa : (s.fn H (ds ++ [])).args = ds) (hfv : (s.fn H (ds ++ [])).vars = [])
    (hv : s.vars = [])
    (hW : DataW.Whole enc P f.params.toList s.vars apart W args.toList ds [] before) (hb : Below W.heap.size W W') :
    s.post enc P f apart fresh handsOn again W args (.bool true) W' := by
  have hlt : ∀ p ∈ before, p.block < W.heap.size := fun p hp => hW.lt p hp
  obtain ⟨pa, pv, hA, hV, hps, hz, hn⟩ := id hW
  have hpv : pv = [] := by
    rw [hv] at hV
    exact hV
  subst hpv
  obtain rfl : before = pa := by simpa using hps
  refine post_of_below (pa := before) (pv := []) hW (fun b sp hd => ?_) (fun sp hsp => ?_) (fun sp _ => ?_) (by simp) hb ?_
  · rw [hfr, hf]
    exact trodAll_cons_mk (shut_bool hbt _) trodAll_mk0
  · rw [hfa]
    exact trodAll_stays hl hb hr hA hlt sp hsp
  · rw [hfv, hv]
    rfl
  · intro j t r ht hr'
    rw [hf] at ht hr'
    have hj : j = 0 := by
      rcases Nat.eq_zero_or_pos j with h | h
      · exact h
      · rw [Array.getElem?_eq_none (by simp; omega)] at ht; cases ht
    subst hj
    simp [Value.resultList] at ht hr'
    subst ht; subst hr'
    exact okWide_bool_mk hbt _
end
end Go.Proofs.YtjbjcfnbgcloiaaGreatDoor

namespace Go.Proofs.YtjbjcfnbgcloiaaGreatDoorW.PrintWords
open Go.RowKit
section
variable {P : Program} {ops : Array Oper} {rest : List Oper} {o : Oper} {a : Act} {Q : Exit → Act → World → Prop} {W : World}
theorem gate_guard (hw : Region.wanted o (yielded ops a.tmps) = true) (h : wpList P ops Q ({ o with guard := none } :: rest) a W) : wpList P ops Q (o :: rest) a W := by
  have h1 : Region.wanted { o with guard := none } (yielded ops a.tmps) = true := rfl
  unfold wpList at h ⊢
  rw [if_pos h1] at h
  rw [if_pos hw]
  exact h
end
end Go.Proofs.YtjbjcfnbgcloiaaGreatDoorW.PrintWords

namespace Go.Proofs.YtjbjcfnbgcloiaaGreatDoorW.PrintMore
open Go.RowKit Go.Proofs.YtjbjcfnbgcloiaaGreatDoorW.PrintWords

theorem max2_int (k k' : IntKind) (x y : Int) : Builtin.max2 (.int k x) (.int k' y) = pure (.int k (if x < y then y else x)) := by simp only [Builtin.max2, gt_iff_lt]
theorem min2_int (k k' : IntKind) (x y : Int) : Builtin.min2 (.int k x) (.int k' y) = pure (.int k (if y < x then y else x)) := by simp only [Builtin.min2]
end Go.Proofs.YtjbjcfnbgcloiaaGreatDoorW.PrintMore
namespace Go.Proofs.YtjbjcfnbgcloiaaGreatDoorW.PrintWords
open Go.RowKit
namespace Kd
def V {α : Type} (d : Kd α) (_e : Nat) (W : World) (_base : Nat) (ok : Nat → Prop) (v : Value) (xs : List α) : Prop := ∃ A c, v = .slice A xs.length c ∧ xs.length ≤ c ∧ F d W ok A xs.length xs
section
variable {α β : Type} {d : Kd α} {e base base' n m c g N' lo hi : Nat} {ok ok' S : Nat → Prop} {w W w1 : World} {A : Option Addr} {ad : Addr} {u v v1 : Value} {xs : List α}
theorem V_map (h : V d e W base ok v xs) (hF : ∀ A, F d W ok A xs.length xs → F d w1 ok' A xs.length xs) : V d e w1 base' ok' v xs := by
  obtain ⟨A, c, hv, hl, hf⟩ := h
  exact ⟨A, c, hv, hl, hF A hf⟩
theorem V_mono (h : V d e W base ok v xs) (hok : ∀ k, ok k → ok' k) : V d e W base ok' v xs := V_map h (fun _ hf => F_mono hf hok)
theorem V_below (h : V d e W base ok v xs) (hb : Below W.heap.size W w1) : V d e w1 base ok v xs := V_map h (fun _ hf => F_below hf hb)
end
end Kd
end Go.Proofs.YtjbjcfnbgcloiaaGreatDoorW.PrintWords
