/- ModelPlays: whatever is asked: each answer; a copy is one of its own. -/
import Derived.Test.YtjbjcfnbgcloiaaGreatDoorCq15
import Derived.Deep.RegionHeld3
import Derived.Test.YtjbjcfnbgcloiaaGreatDoorLaysN
import Derived.Test.YtjbjcfnbgcloiaaGreatDoorCards
import Derived.Test.YtjbjcfnbgcloiaaGreatDoorTie
import Derived.Deep.DeepHandedRow
import Derived.Lib.LaidIn
import Derived.Lib.LaidU8T
set_option linter.unusedSimpArgs false
set_option linter.unusedVariables false

set_option linter.unusedSimpArgs false
set_option linter.unusedVariables false
namespace Go.Proofs.YtjbjcfnbgcloiaaGreatDoor
open Go.RowKit Nam YtjbjcfnbgcloiaaGreatDoorW.PrintWords Go.Lib

structure Par where
  g : Nat
  S : St
  n : Nat
  r : Nat
  B : List (List UInt8)
  L : List Ob
  m : Nat
noncomputable def Par.step (p : Par) (x : Ch) (id : Int) : Par := ⟨p.g, p.S.allS x id, p.n + 1, p.r, rStB p.B p.L x, rStL p.B p.L x id, p.m + 1⟩
structure PairAt (W : World) (p : Par) (Q F P G : Nat → Prop) : Prop where
  has : HasM W p.g p.S p.n Q F
  ref : ∃ b0, b0 ≤ W.heap.size ∧ RefM W p.r p.B p.L b0 P G
  pf : ∀ k, P k → ¬ F k
  rel : RelM p.S p.B p.L p.m
  few : p.S.Few
  up : Up p.S
  tiny : Tiny p.B p.L
theorem PairAt.rok {W : World} {p : Par} {Q F P G : Nat → Prop} (h : PairAt W p Q F P G) (hm : p.m ≤ 1000) : ROk p.B p.L := by
  have h64 : p.B.length ≤ 64 := by rw [← h.rel.len]; exact h.few.few
  refine ⟨h64, fun t ht => by have := h.tiny.B t ht; omega, Nat.le_trans h.rel.few hm, h.rel.rs64 h.few.fine, fun o ho => by have := h.tiny.L o ho; omega, fun o ho y hy => ?_⟩
  rw [h.rel.rs ho] at hy
  have := h.few.fine.dt _ _ y hy
  omega
theorem PairAt.blk {W : World} {p : Par} {Q F P G : Nat → Prop} (h : PairAt W p Q F P G) : ∀ k, Q k ∨ F k ∨ P k ∨ G k → k < W.heap.size := fun k hk => by
  obtain ⟨b0, hb, hr⟩ := h.ref
  rcases hk with hk | hk | hk | hk
  · exact isM_lt (h.has.q k hk)
  · exact isC_lt (h.has.f k hk)
  · exact isC_lt (hr.ic k (.inl hk))
  · exact isC_lt (hr.ic k (.inr hk))
theorem PairAt.kept {W W' : World} {p : Par} {Q F P G : Nat → Prop} (h : PairAt W p Q F P G) (hk : ∀ k, Q k ∨ F k ∨ P k ∨ G k → W'.heap[k]? = W.heap[k]?) (hs : W.heap.size ≤ W'.heap.size) : PairAt W' p Q F P G := by
  obtain ⟨b0, hb, hr⟩ := h.ref
  exact ⟨h.has.kept (fun k hF => hk k (.inr (.inl hF))) (fun k hQ => hk k (.inl hQ)), ⟨b0, Nat.le_trans hb hs, hr.kept (fun k hP => hk k (.inr (.inr hP))) hs⟩, h.pf, h.rel, h.few, h.up, h.tiny⟩
theorem PairAt.below {W W' : World} {p : Par} {Q F P G : Nat → Prop} (h : PairAt W p Q F P G) (hb : Below W.heap.size W W') : PairAt W' p Q F P G :=
  h.kept (fun k hk => hb.block k (h.blk k hk)) hb.size
structure PairTo (W W' : World) (Q F P G Q' F' P' G' : Nat → Prop) : Prop where
  mv : Moved (fun k => Q k ∨ P k) W W'
  q : ∀ k, Q' k → Q k ∨ W.heap.size ≤ k
  f : ∀ k, F' k → F k ∨ W.heap.size ≤ k
  p : ∀ k, P' k → P k ∨ W.heap.size ≤ k
  g : ∀ k, G' k → G k ∨ W.heap.size ≤ k
structure Lies (w0 : World) (x : Ch) (A : Option Addr) : Prop where
  C : ∀ V, Below w0.heap.size w0 V → (Kd.int .u8).C V A x.dt.length (byN x.dt)
  T : ∀ V, Below w0.heap.size w0 V → Tabs V
theorem pair_call {W : World} {p : Par} {Q F P G : Nat → Prop} (h : PairAt W p Q F P G) (x : Ch) (A : Option Addr) (c : Nat) (id : Int) (hx : x.Short) (hn : p.n ≤ 10000) (hm : p.m ≤ 1000) {w0 : World} (h0 : Below w0.heap.size w0 W) (hqp : ∀ k, Q k ∨ P k → w0.heap.size ≤ k) (hl : Lies w0 x A) :
    Calls Tryz.prog 13 #[.pointer (some ⟨p.g, 0, none⟩), .agg (chCells x (.slice A x.dt.length c)).toArray, .int .i64 id] W fun e w1 => ∃ v1, e = .returned v1 ∧ Moved (fun k => Q k ∨ P k) W w1 ∧
      Calls Tryz.prog 14 #[.pointer (some ⟨p.r, 0, none⟩), .agg (chCells x (.slice A x.dt.length c)).toArray, .int .i64 id] w1 fun e w2 => ∃ v2, e = .returned v2 ∧ Moved (fun k => Q k ∨ P k) W w2 ∧
        Calls Tryz.prog 12 #[v1, v2] w2 fun e w3 => e = .returned (.bool true) ∧ ∃ Q' F' P' G', PairAt w3 (p.step x id) Q' F' P' G' ∧ PairTo W w3 Q F P G Q' F' P' G' := by
  have hrok := h.rok hm
  obtain ⟨b0, hb0, hr⟩ := h.ref
  refine (call_ar W p.g p.S p.n Q F x A c id hx hn h.few h.has (fun V hV => hl.C V (h0.trans (hV.mono h0.size))) (hl.T W h0)).mono fun e w1 h1 => ?_
  obtain ⟨⟨a, v1, he1, ha1, hi1⟩, ⟨Q', F', hh1, hq1, hf1⟩, hmv1⟩ := h1
  refine ⟨v1, he1, ⟨hmv1.os, hmv1.tape, hmv1.output, hmv1.size, fun k hk hn => hmv1.block k hk fun e => hn (.inl e)⟩, ?_⟩
  have hr1 : RefM w1 p.r p.B p.L b0 P G := hr.maps hmv1 h.has.q
  have hb01 : Below w0.heap.size w0 w1 := hmv1.below h0 h0.size fun k hk => hqp k (.inl hk)
  refine (want_aw w1 p.r p.B p.L b0 P G x A c id hx hrok (Nat.le_trans hb0 hmv1.size) hr1 (fun V hV => hl.C V (hV.below hb01 hb01.size fun k hk => hqp k (.inr hk))) (hl.T w1 hb01)).mono fun e w2 h2 => ?_
  obtain ⟨⟨a2, v2, he2, ha2, hi2⟩, hmv2, P', G', hr2, hp2, hg2⟩ := h2
  have hmv12 : Moved (fun k => Q k ∨ P k) W w2 := ⟨hmv2.os.trans hmv1.os, hmv2.tape.trans hmv1.tape, hmv2.output.trans hmv1.output, Nat.le_trans hmv1.size hmv2.size, fun k hk hn => (hmv2.block k (by have := hmv1.size; omega) fun e => hn (.inr e)).trans (hmv1.block k hk fun e => hn (.inl e))⟩
  refine ⟨v2, he2, hmv12, ?_⟩
  have ea : a = a2 := one_ans h.rel h.up x id ha1 ha2
  subst ea
  have hPlt : ∀ k, P k → k < W.heap.size := fun k hk => h.blk k (.inr (.inr (.inl hk)))
  have hi1' : IsAns w2 W.heap.size a v1 := hi1.moved hmv2 hPlt
  have hi2' : IsAns w2 W.heap.size a v2 := hi2.low hmv1.size
  have hsz := ar_size h.few ha1
  refine (hi1'.same hi2' hsz.1 hsz.2).mono fun e w3 ⟨he3, hb3⟩ => ⟨he3, Q', F', P', G', ?_⟩
  have hF1 : ∀ k, F' k → ¬ P k := fun k hf hp => by
    rcases hf1 k hf with hf | hf
    · exact h.pf k hp hf
    · have := hPlt k hp
      omega
  have hh2 : HasM w2 p.g (p.S.allS x id) (p.n + 1) Q' F' := hh1.kept (fun k hf => hmv2.block k (isC_lt (hh1.f k hf)) (hF1 k hf)) (fun k hq => hmv2.block k (isM_lt (hh1.q k hq)) fun hp => isC_not (hr1.ic k (.inl hp)) (hh1.q k hq))
  have hp2' : PairAt w2 (p.step x id) Q' F' P' G' := by
    refine ⟨hh2, ⟨b0, Nat.le_trans hb0 (Nat.le_trans hmv1.size hmv2.size), hr2⟩, fun k hp hf => ?_, rel_step h.rel x id, few_allS h.few x id, up_all h.up x id, tiny_step h.tiny x id hx⟩
    rcases hp2 k hp with hp | hp
    · exact hF1 k hf hp
    · have := isC_lt (hh1.f k hf)
      omega
  refine ⟨hp2'.below hb3, ?_, hq1, hf1, fun k hk => (hp2 k hk).imp_right fun e => Nat.le_trans hmv1.size e, fun k hk => (hg2 k hk).imp_right fun e => Nat.le_trans hmv1.size e⟩
  refine ⟨hb3.os.trans (hmv2.os.trans hmv1.os), hb3.tape.trans (hmv2.tape.trans hmv1.tape), hb3.output.trans (hmv2.output.trans hmv1.output), Nat.le_trans hmv1.size (Nat.le_trans hmv2.size hb3.size), fun k hk hn => ?_⟩
  rw [not_or] at hn
  rw [hb3.block k (by have := hmv1.size; have := hmv2.size; omega), hmv2.block k (by have := hmv1.size; omega) hn.2, hmv1.block k hk hn.1]

def Uno (w0 W : World) (p : Par) : Prop := Below w0.heap.size w0 W ∧ ∃ Q F P G, PairAt W p Q F P G ∧ ∀ k, Q k ∨ P k → w0.heap.size ≤ k
def Duo (w0 W : World) (p q : Par) : Prop := Below w0.heap.size w0 W ∧ ∃ Q F P G Q2 F2 P2 G2, PairAt W p Q F P G ∧ PairAt W q Q2 F2 P2 G2 ∧ (∀ k, Q k ∨ P k → w0.heap.size ≤ k) ∧ (∀ k, Q2 k ∨ P2 k → w0.heap.size ≤ k) ∧
  (∀ k, Q k ∨ P k → ¬ (Q2 k ∨ F2 k ∨ P2 k ∨ G2 k)) ∧ ∀ k, Q2 k ∨ P2 k → ¬ (Q k ∨ F k ∨ P k ∨ G k)
theorem Uno.below {w0 W V : World} {p : Par} (h : Uno w0 W p) (hb : Below W.heap.size W V) : Uno w0 V p := by
  obtain ⟨h0, Q, F, P, G, h1, h2⟩ := h
  exact ⟨h0.trans (hb.mono h0.size), Q, F, P, G, h1.below hb, h2⟩
theorem Duo.below {w0 W V : World} {p q : Par} (h : Duo w0 W p q) (hb : Below W.heap.size W V) : Duo w0 V p q := by
  obtain ⟨h0, Q, F, P, G, Q2, F2, P2, G2, h1, h2, k⟩ := h
  exact ⟨h0.trans (hb.mono h0.size), Q, F, P, G, Q2, F2, P2, G2, h1.below hb, h2.below hb, k⟩
theorem Duo.swap {w0 W : World} {p q : Par} (h : Duo w0 W p q) : Duo w0 W q p := by
  obtain ⟨h0, Q, F, P, G, Q2, F2, P2, G2, h1, h2, k1, k2, k3, k4⟩ := h
  exact ⟨h0, Q2, F2, P2, G2, Q, F, P, G, h2, h1, k2, k1, k4, k3⟩
theorem pair_low {w0 W W' : World} {Q F P G Q' F' P' G' : Nat → Prop} (h0 : Below w0.heap.size w0 W) (ht : PairTo W W' Q F P G Q' F' P' G') (hq : ∀ k, Q k ∨ P k → w0.heap.size ≤ k) : Below w0.heap.size w0 W' ∧ ∀ k, Q' k ∨ P' k → w0.heap.size ≤ k := by
  refine ⟨ht.mv.below h0 h0.size hq, fun k hk => ?_⟩
  have := h0.size
  rcases hk with hk | hk
  · rcases ht.q k hk with h | h
    · exact hq k (.inl h)
    · omega
  · rcases ht.p k hk with h | h
    · exact hq k (.inr h)
    · omega
theorem uno_to {w0 W W' : World} {p' : Par} {Q F P G Q' F' P' G' : Nat → Prop} (h0 : Below w0.heap.size w0 W) (hq : ∀ k, Q k ∨ P k → w0.heap.size ≤ k) (h1 : PairAt W' p' Q' F' P' G') (ht : PairTo W W' Q F P G Q' F' P' G') : Uno w0 W' p' := by
  obtain ⟨h2, h3⟩ := pair_low h0 ht hq
  exact ⟨h2, Q', F', P', G', h1, h3⟩
theorem duo_to {w0 W W' : World} {p' q : Par} {Q F P G Q' F' P' G' Q2 F2 P2 G2 : Nat → Prop} (h0 : Below w0.heap.size w0 W) (hq : ∀ k, Q k ∨ P k → w0.heap.size ≤ k) (h2 : PairAt W q Q2 F2 P2 G2) (hq2 : ∀ k, Q2 k ∨ P2 k → w0.heap.size ≤ k)
    (k3 : ∀ k, Q k ∨ P k → ¬ (Q2 k ∨ F2 k ∨ P2 k ∨ G2 k)) (k4 : ∀ k, Q2 k ∨ P2 k → ¬ (Q k ∨ F k ∨ P k ∨ G k)) (h1 : PairAt W' p' Q' F' P' G') (ht : PairTo W W' Q F P G Q' F' P' G') : Duo w0 W' p' q := by
  obtain ⟨h5, h6⟩ := pair_low h0 ht hq
  refine ⟨h5, Q', F', P', G', Q2, F2, P2, G2, h1, h2.kept (fun k hk => ht.mv.block k (h2.blk k hk) fun e => k3 k e hk) ht.mv.size, h6, hq2, fun k hk hk2 => ?_, fun k hk hk2 => ?_⟩
  · have hlt := h2.blk k hk2
    rcases hk with hk | hk
    · rcases ht.q k hk with h | h
      · exact k3 k (.inl h) hk2
      · omega
    · rcases ht.p k hk with h | h
      · exact k3 k (.inr h) hk2
      · omega
  · have hlt := h2.blk k (hk.elim .inl fun e => .inr (.inr (.inl e)))
    rcases hk2 with h | h | h | h
    · exact (ht.q k h).elim (fun h => k4 k hk (.inl h)) fun h => by omega
    · exact (ht.f k h).elim (fun h => k4 k hk (.inr (.inl h))) fun h => by omega
    · exact (ht.p k h).elim (fun h => k4 k hk (.inr (.inr (.inl h)))) fun h => by omega
    · exact (ht.g k h).elim (fun h => k4 k hk (.inr (.inr (.inr h)))) fun h => by omega
def Plays (g r : Nat) (x : Ch) (dv : Value) (id : Int) (w0 W : World) (R : World → Prop) : Prop :=
  Calls Tryz.prog 13 #[.pointer (some ⟨g, 0, none⟩), .agg (chCells x dv).toArray, .int .i64 id] W fun e w1 => ∃ v1, e = .returned v1 ∧ Below w0.heap.size w0 w1 ∧
    Calls Tryz.prog 14 #[.pointer (some ⟨r, 0, none⟩), .agg (chCells x dv).toArray, .int .i64 id] w1 fun e w2 => ∃ v2, e = .returned v2 ∧ Below w0.heap.size w0 w2 ∧
      Calls Tryz.prog 12 #[v1, v2] w2 fun e w3 => e = .returned (.bool true) ∧ R w3
theorem uno_call {w0 W : World} {p : Par} (h : Uno w0 W p) (x : Ch) (A : Option Addr) (c : Nat) (id : Int) (hx : x.Short) (hn : p.n ≤ 10000) (hm : p.m ≤ 1000) (hl : Lies w0 x A) :
    Plays p.g p.r x (.slice A x.dt.length c) id w0 W fun w3 => Uno w0 w3 (p.step x id) := by
  obtain ⟨h0, Q, F, P, G, h1, h2⟩ := h
  refine Calls.mono (pair_call h1 x A c id hx hn hm h0 h2 hl) fun e w1 ⟨v1, he1, hm1, hc1⟩ => ⟨v1, he1, hm1.below h0 h0.size h2, hc1.mono fun e w2 ⟨v2, he2, hm2, hc2⟩ => ⟨v2, he2, hm2.below h0 h0.size h2, hc2.mono fun e w3 ⟨he3, Q', F', P', G', h3, h4⟩ => ⟨he3, uno_to h0 h2 h3 h4⟩⟩⟩
theorem duo_call {w0 W : World} {p q : Par} (h : Duo w0 W p q) (x : Ch) (A : Option Addr) (c : Nat) (id : Int) (hx : x.Short) (hn : p.n ≤ 10000) (hm : p.m ≤ 1000) (hl : Lies w0 x A) :
    Plays p.g p.r x (.slice A x.dt.length c) id w0 W fun w3 => Duo w0 w3 (p.step x id) q := by
  obtain ⟨h0, Q, F, P, G, Q2, F2, P2, G2, h1, h2, k1, k2, k3, k4⟩ := h
  refine Calls.mono (pair_call h1 x A c id hx hn hm h0 k1 hl) fun e w1 ⟨v1, he1, hm1, hc1⟩ => ⟨v1, he1, hm1.below h0 h0.size k1, hc1.mono fun e w2 ⟨v2, he2, hm2, hc2⟩ => ⟨v2, he2, hm2.below h0 h0.size k1, hc2.mono fun e w3 ⟨he3, Q', F', P', G', h3, h4⟩ => ⟨he3, duo_to h0 k1 h2 k2 k3 k4 h3 h4⟩⟩⟩
theorem uno_copy {w0 W : World} {p : Par} (h : Uno w0 W p) (hn : p.n ≤ 300) (hm : p.m ≤ 1000) :
    Calls Tryz.prog 9 #[.pointer (some ⟨p.g, 0, none⟩)] W fun e w1 => ∃ g2, e = .returned (.pointer (some ⟨g2, 0, none⟩)) ∧
      Calls Tryz.prog 10 #[.pointer (some ⟨p.r, 0, none⟩)] w1 fun e w2 => ∃ r2, e = .returned (.pointer (some ⟨r2, 0, none⟩)) ∧
        Duo w0 w2 p ⟨g2, p.S, p.n * (p.n + 2), r2, p.B, p.L, p.m⟩ := by
  obtain ⟨h0, Q, F, P, G, h1, h2⟩ := h
  have hrok := h1.rok hm
  refine (copy_is W p.g p.S p.n Q F hn (fun b k => by have := h1.few.fine.len b k; omega) h1.has).mono fun e w1 ⟨⟨g2, Q2, F2, he, k1, k2, k3⟩, hb1⟩ => ⟨g2, he, ?_⟩
  have hp1 := h1.below hb1
  obtain ⟨b0, hb0, hr⟩ := hp1.ref
  refine (rcopy_is w1 p.r p.B p.L b0 P G (by have := hrok.hB; omega) (by have := hrok.hL; omega) (fun o ho => by have := hrok.hrs o ho; omega) hr).mono fun e w2 ⟨r2, he2, hc⟩ => ⟨r2, he2, ?_⟩
  obtain ⟨hb2, P2, G2, hr2, hg1, hg2⟩ := hc
  have hP2 : ∀ k, P2 k → w1.heap.size ≤ k := hr2.qb
  have hk2 : HasM w2 g2 p.S (p.n * (p.n + 2)) Q2 F2 := k1.below hb2
  have hF2 : ∀ k, F2 k → k < w1.heap.size := fun k hk => isC_lt (k1.f k hk)
  have hQ2 : ∀ k, Q2 k → k < w1.heap.size := fun k hk => isM_lt (k1.q k hk)
  refine ⟨h0.trans ((hb1.trans (hb2.mono hb1.size)).mono h0.size), Q, F, P, G, Q2, F2, P2, G2, hp1.below hb2, ⟨hk2, ⟨w1.heap.size, hb2.size, hr2⟩, fun k hp hf => by have := hP2 k hp; have := hF2 k hf; omega, h1.rel, h1.few, h1.up, h1.tiny⟩, h2, fun k hk => ?_, fun k hk hk2 => ?_, fun k hk hk2 => ?_⟩
  · have := h0.size
    have := hb1.size
    rcases hk with hk | hk
    · have := k2 k hk
      omega
    · have := hP2 k hk
      omega
  · have hlt := h1.blk k (hk.elim .inl fun e => .inr (.inr (.inl e)))
    have hs := hb1.size
    rcases hk2 with h | h | h | h
    · have := k2 k h
      omega
    · rcases k3 k h with h | h
      · rcases hk with hk | hk
        · exact isC_not (h1.has.f k h) (h1.has.q k hk)
        · exact h1.pf k hk h
      · omega
    · have := hP2 k h
      omega
    · rcases hg1 k h with h | h
      · rcases hk with hk | hk
        · obtain ⟨b1, _, hr1⟩ := h1.ref
          exact isC_not (hr1.ic k (.inr h)) (h1.has.q k hk)
        · obtain ⟨b1, _, hr1⟩ := h1.ref
          exact hr1.ap k hk h
      · omega
  · have hlt := h1.blk k hk2
    have hs := hb1.size
    rcases hk with hk | hk
    · have := k2 k hk
      omega
    · have := hP2 k hk
      omega
theorem duo_same {w0 W : World} {p q : Par} (h : Duo w0 W p q) : Calls Tryz.prog 11 #[.pointer (some ⟨q.g, 0, none⟩), .pointer (some ⟨p.g, 0, none⟩)] W fun e w' => e = .returned (.bool (sameB q.S p.S)) ∧ Duo w0 w' p q := by
  obtain ⟨h0, Q, F, P, G, Q2, F2, P2, G2, h1, h2, k⟩ := id h
  exact (same_is W q.g p.g q.n p.n q.S p.S Q2 Q F2 F h2.has h1.has (fun b k => by have := h2.few.fine.len b k; omega) (fun b k => by have := h1.few.fine.len b k; omega)).mono fun e w' ⟨he, hb⟩ => ⟨he, h.below hb⟩
theorem duo_rsame {w0 W : World} {p q : Par} (h : Duo w0 W p q) (hm : p.m ≤ 1000) (hm2 : q.m ≤ 1000) : Calls Tryz.prog 15 #[.pointer (some ⟨q.r, 0, none⟩), .pointer (some ⟨p.r, 0, none⟩)] W fun e w' => e = .returned (.bool (sameB q.S p.S)) ∧ Duo w0 w' p q := by
  obtain ⟨h0, Q, F, P, G, Q2, F2, P2, G2, h1, h2, k⟩ := id h
  have r1 := h1.rok hm
  have r2 := h2.rok hm2
  obtain ⟨b1, _, x1⟩ := h1.ref
  obtain ⟨b2, _, x2⟩ := h2.ref
  rw [h2.rel.sameB h1.rel]
  exact (rsamem_is W q.r p.r q.B q.L b2 P2 G2 p.B p.L b1 P G (by have := r2.hB; omega) (by have := r2.hL; omega) (by have := r1.hB; omega) (by have := r1.hL; omega) (fun o ho => by have := r2.hrs o ho; omega) (fun o ho => by have := r1.hrs o ho; omega) x2 x1).mono fun e w' ⟨he, hb⟩ => ⟨he, h.below hb⟩
theorem uno_new {w0 W : World} (h0 : Below w0.heap.size w0 W) : Calls Tryz.prog 7 #[] W fun e w1 => ∃ g, e = .returned (.pointer (some ⟨g, 0, none⟩)) ∧
    Calls Tryz.prog 8 #[] w1 fun e w2 => ∃ r, e = .returned (.pointer (some ⟨r, 0, none⟩)) ∧ Uno w0 w2 ⟨g, St.new, 0, r, [], [], 0⟩ := by
  refine (new_is W).mono fun e w1 ⟨⟨g, Q, F, he, h1, h2, h3⟩, hb1⟩ => ⟨g, he, ?_⟩
  refine (rnew_is w1).mono fun e w2 ⟨r, he2, hr1, hb2, hr⟩ => ⟨r, he2, h0.trans ((hb1.trans (hb2.mono hb1.size)).mono h0.size), Q, F, _, _, ⟨h1.below hb2, ⟨_, hb2.size, hr⟩, fun k hk hf => ?_, rel_new, few_new, up_new, tiny_new⟩, fun k hk => ?_⟩
  · have := isC_lt (h1.f k hf)
    rw [show k = r from hk] at this
    omega
  · have := h0.size
    have := hb1.size
    rcases hk with hk | hk
    · have := h2 k hk
      omega
    · rw [show k = r from hk]
      omega
end Go.Proofs.YtjbjcfnbgcloiaaGreatDoor

/- ModelPlays: whatever is asked: each answer; a copy is one of its own. -/
set_option linter.unusedSimpArgs false
set_option linter.unusedVariables false
namespace Go.Proofs.YtjbjcfnbgcloiaaGreatDoor
open Go.RowKit Nam YtjbjcfnbgcloiaaGreatDoorW.PrintWords Go.Lib

def idOf (x : Ch) (j : Nat) : Int := if 0 < x.a then x.a else 10 + (j : Int)
noncomputable def playP (p : Par) (l : List Ch) : Nat → Par
  | 0 => p
  | j + 1 => match l[j]? with
    | some x => (playP p l j).step x (idOf x j)
    | none => playP p l j
theorem playP_at {p : Par} {l : List Ch} {j : Nat} (h : j < l.length) : playP p l (j + 1) = (playP p l j).step l[j] (idOf l[j] j) := by
  show (match l[j]? with | some x => (playP p l j).step x (idOf x j) | none => playP p l j) = _
  rw [List.getElem?_eq_getElem h]
theorem playP_fix (p : Par) (l : List Ch) : ∀ j, (playP p l j).g = p.g ∧ (playP p l j).r = p.r ∧ (playP p l j).n ≤ p.n + j ∧ (playP p l j).m ≤ p.m + j
  | 0 => ⟨rfl, rfl, Nat.le_refl _, Nat.le_refl _⟩
  | j + 1 => by
    obtain ⟨h1, h2, h3, h4⟩ := playP_fix p l j
    show (match l[j]? with | some x => (playP p l j).step x (idOf x j) | none => playP p l j).g = p.g ∧ _
    cases hl : l[j]? with
    | none =>
      have e : playP p l (j + 1) = playP p l j := by
        show (match l[j]? with | some x => (playP p l j).step x (idOf x j) | none => playP p l j) = _
        rw [hl]
      rw [e]
      exact ⟨h1, h2, by omega, by omega⟩
    | some x =>
      have e : playP p l (j + 1) = (playP p l j).step x (idOf x j) := by
        show (match l[j]? with | some x => (playP p l j).step x (idOf x j) | none => playP p l j) = _
        rw [hl]
      rw [e]
      exact ⟨h1, h2, (by show (playP p l j).n + 1 ≤ _; omega), (by show (playP p l j).m + 1 ≤ _; omega)⟩
theorem cell_keep {w V : World} {a : Addr} {u : Value} (hb : Below w.heap.size w V) (h : w.cell? a = some u) : V.cell? a = some u := (hb.cell (p := a) (World.block_lt_of_cell? w a h)).trans h
theorem choice_of {w W : World} {A : Option Addr} {l : List Ch} (h : HasC w A l) (hb : Below w.heap.size w W) (j : Nat) (hj : j < l.length) :
    ∃ ad A3 c3, A = some ad ∧ HasD W (.slice A3 (byN l[j].dt).length c3) l[j].dt ∧ W.cell? (ad.add (j * 10)) = some (.int .i64 l[j].d) ∧ W.cell? ⟨(ad.add (j * 10)).block, (ad.add (j * 10)).off + 1, none⟩ = some (.string (mkS l[j].bk)) ∧ W.cell? ⟨(ad.add (j * 10)).block, (ad.add (j * 10)).off + 2, none⟩ = some (.string (mkS l[j].ky)) ∧ W.cell? ⟨(ad.add (j * 10)).block, (ad.add (j * 10)).off + 3, none⟩ = some (.slice A3 (byN l[j].dt).length c3) ∧ W.cell? ⟨(ad.add (j * 10)).block, (ad.add (j * 10)).off + 4, none⟩ = some (.int .i64 l[j].n) ∧ W.cell? ⟨(ad.add (j * 10)).block, (ad.add (j * 10)).off + 5, none⟩ = some (.int .i64 l[j].a) ∧ W.cell? ⟨(ad.add (j * 10)).block, (ad.add (j * 10)).off + 6, none⟩ = some (.string (mkS l[j].pf)) ∧ W.cell? ⟨(ad.add (j * 10)).block, (ad.add (j * 10)).off + 7, none⟩ = some (.string (mkS l[j].fr)) ∧ W.cell? ⟨(ad.add (j * 10)).block, (ad.add (j * 10)).off + 8, none⟩ = some (.int .i64 l[j].fi) ∧ W.cell? ⟨(ad.add (j * 10)).block, (ad.add (j * 10)).off + 9, none⟩ = some (.int .i64 l[j].mo) := by
  obtain ⟨ad, A3, c3, e, h1, h2⟩ := at_Ch (h W hb) j hj
  have cf : ∀ i u, (chCells l[j] (.slice A3 (byN l[j].dt).length c3))[i + 1]? = some u → W.cell? ⟨(ad.add (j * 10)).block, (ad.add (j * 10)).off + (i + 1), none⟩ = some u := fun i u hu => by
    rw [← add_field _ _ (i + 1) (by omega)]; exact h2 (i + 1) u hu
  exact ⟨ad, A3, c3, e, HasD.of h1, h2 0 _ rfl, cf 0 _ rfl, cf 1 _ rfl, cf 2 _ rfl, cf 3 _ rfl, cf 4 _ rfl, cf 5 _ rfl, cf 6 _ rfl, cf 7 _ rfl, cf 8 _ rfl⟩
structure Cop (q : Par) (j : Nat) : Prop where
  n : q.n ≤ 400 + j
  m : q.m ≤ 100 + j
def Stand (w0 W : World) (p : Par) (k j : Nat) (vc vw : Value) : Prop :=
  (vc = .pointer none ∧ vw = .pointer none ∧ j ≤ k ∧ Uno w0 W p) ∨ ∃ q : Par, vc = .pointer (some ⟨q.g, 0, none⟩) ∧ vw = .pointer (some ⟨q.r, 0, none⟩) ∧ k < j ∧ Cop q 0 ∧ Duo w0 W p q
theorem Stand.low {w0 W : World} {p : Par} {k j : Nat} {vc vw : Value} (h : Stand w0 W p k j vc vw) : Below w0.heap.size w0 W := by
  rcases h with ⟨_, _, _, h⟩ | ⟨_, _, _, _, _, h⟩
  · exact h.1
  · exact h.1
end Go.Proofs.YtjbjcfnbgcloiaaGreatDoor

namespace Go.Proofs.YtjbjcfnbgcloiaaGreatDoor.modelPlays
open Go.RowKit Nam YtjbjcfnbgcloiaaGreatDoorW.PrintWords Go.Proofs.YtjbjcfnbgcloiaaGreatDoor Go.Lib
set_option maxHeartbeats 8000000 in
set_option maxRecDepth 100000 in
theorem walk0 (l : List Ch) (A : Option Addr) (c : Nat) (at8 : Nat) (w : World) (h8 : at8 ≤ 255) (hc : l.length ≤ c) (hC : Kd.C kCh w A l.length l) (hT : Tabs w) :
    Calls Tryz.prog 3 #[.slice A l.length c, .int .u8 (at8 : Int)] w fun e w' => e = .returned (.bool true) ∧ Below w.heap.size w w' := by
  have HT := Lib.hid hT
  have HC : Hid (HasC w A l) := HasC.of hC
  have HAw : Hid (Calls Tryz.prog 5 #[] w fun e w' => e = .returned (.bool true) ∧ Below w.heap.size w w') := awake_is w hT
  obtain ⟨R, hR⟩ : ∃ R, roomB l 80 = R := ⟨_, rfl⟩
  have HRm : Hid (∀ V, Below w.heap.size w V → Calls Tryz.prog 6 #[.slice A l.length c, .int .i64 80] V fun e w' => e = .returned (.bool R) ∧ Below w.heap.size w w') := fun V hV => by
    rw [← hR]
    exact (room_is l 80 A c V hc (by decide) (HC.out V hV)).mono fun e w' ⟨he, hb⟩ => ⟨he, hV.trans (hb.mono hV.size)⟩
  have HNew : Hid (∀ V, Below w.heap.size w V → Calls Tryz.prog 7 #[] V fun e w1 => ∃ g, e = .returned (.pointer (some ⟨g, 0, none⟩)) ∧ Hid (Calls Tryz.prog 8 #[] w1 fun e w2 => ∃ r, e = .returned (.pointer (some ⟨r, 0, none⟩)) ∧ Hid (Uno w w2 ⟨g, St.new, 0, r, [], [], 0⟩))) := fun V hV => uno_new hV
  obtain ⟨n, hn⟩ : ∃ n, l.length = n := ⟨_, rfl⟩
  rw [hn] at HRm hc ⊢
  obtain ⟨k, hk⟩ : ∃ k, at8 % 20 = k := ⟨_, rfl⟩
  have hk20 : k < 20 := by omega
  clear hT hC
  cases R with
  | false =>
    clear hn hR hk
    go_enter Tryz.func3, Tryz.ntmps3
    go_wp2_with fail
    refine HAw.out.mono ?_
    rintro e w1 ⟨rfl, hb1⟩
    go_wp2_with fail
    refine (HRm.out _ hb1).mono ?_
    rintro e w2 ⟨rfl, hb2⟩
    go_wp2_with fail
    go_ret
    exact ⟨rfl, hb2⟩
  | true =>
    have HSh := Lib.hid (ch_short hR)
    have hl80 : n ≤ 80 := by rw [← hn]; exact (roomB_ok hR).1
    have HN2 := Lib.hid hn
    have HK := Lib.hid hk
    have HCh : Hid (∀ V, Below w.heap.size w V → ∀ j (hj : j < l.length), ∃ ad A3 c3, A = some ad ∧ Lies w l[j] A3 ∧ (∀ V, Below w.heap.size w V → V.cell? (ad.add (j * 10)) = some (.int .i64 l[j].d) ∧ V.cell? ⟨(ad.add (j * 10)).block, (ad.add (j * 10)).off + 1, none⟩ = some (.string (mkS l[j].bk)) ∧ V.cell? ⟨(ad.add (j * 10)).block, (ad.add (j * 10)).off + 2, none⟩ = some (.string (mkS l[j].ky)) ∧ V.cell? ⟨(ad.add (j * 10)).block, (ad.add (j * 10)).off + 3, none⟩ = some (.slice A3 l[j].dt.length c3) ∧ V.cell? ⟨(ad.add (j * 10)).block, (ad.add (j * 10)).off + 4, none⟩ = some (.int .i64 l[j].n) ∧ V.cell? ⟨(ad.add (j * 10)).block, (ad.add (j * 10)).off + 5, none⟩ = some (.int .i64 l[j].a) ∧ V.cell? ⟨(ad.add (j * 10)).block, (ad.add (j * 10)).off + 6, none⟩ = some (.string (mkS l[j].pf)) ∧ V.cell? ⟨(ad.add (j * 10)).block, (ad.add (j * 10)).off + 7, none⟩ = some (.string (mkS l[j].fr)) ∧ V.cell? ⟨(ad.add (j * 10)).block, (ad.add (j * 10)).off + 8, none⟩ = some (.int .i64 l[j].fi) ∧ V.cell? ⟨(ad.add (j * 10)).block, (ad.add (j * 10)).off + 9, none⟩ = some (.int .i64 l[j].mo))) := fun V0 _ j hj => by
      obtain ⟨ad, A3, c3, hA, hdt, a0, a1, a2, a3, a4, a5, a6, a7, a8, a9⟩ := choice_of HC.out (Below.refl _ _) j hj
      subst hA
      rw [byN_length] at a3 hdt
      refine ⟨ad, A3, c3, rfl, ⟨fun V hV => ?_, fun V hV => HT.out.below hV⟩, fun V hV => ⟨cell_keep hV a0, cell_keep hV a1, cell_keep hV a2, cell_keep hV a3, cell_keep hV a4, cell_keep hV a5, cell_keep hV a6, cell_keep hV a7, cell_keep hV a8, cell_keep hV a9⟩⟩
      obtain ⟨A', c', e, _, hF⟩ := (hdt.below hV).now
      injection e with e _ _
      subst e
      have := hF V (fun _ _ _ => rfl)
      rwa [byN_length] at this
    clear hn hR hk
    go_enter Tryz.func3, Tryz.ntmps3
    go_wp2_with fail
    refine HAw.out.mono ?_
    rintro e w1 ⟨rfl, hb1⟩
    go_wp2_with fail
    refine (HRm.out _ hb1).mono ?_
    rintro e w2 ⟨rfl, hb2⟩
    go_wp2_with fail
    refine (HNew.out _ hb2).mono ?_
    rintro e w3 ⟨g, rfl, HN3⟩
    go_wp2_with fail
    refine HN3.out.mono ?_
    rintro e w4 ⟨r, rfl, H4⟩
    clear HRm HNew HAw HN3 hb1 hb2
    have HS0 : Hid (Stand w w4 (playP ⟨g, St.new, 0, r, [], [], 0⟩ l 0) k 0 (.pointer none) (.pointer none)) := .inl ⟨rfl, rfl, Nat.zero_le _, H4.out⟩
    clear H4
    obtain ⟨P0, hP0⟩ : ∃ P0 : Par, P0 = ⟨g, St.new, 0, r, [], [], 0⟩ := ⟨_, rfl⟩
    have HP0 : Hid (P0.g = g ∧ P0.r = r ∧ P0.n = 0 ∧ P0.m = 0) := by rw [hP0]; exact ⟨rfl, rfl, rfl, rfl⟩
    rw [← hP0] at HS0
    clear hP0
    go_wp2_with fail
    go_loopw [7, 8, 9] (fun vc vw vi wr => ∃ (j : Nat), vi = .int .i64 j ∧ j ≤ n ∧ Hid (Stand w wr (playP P0 l j) k j vc vw)) (fun _ _ vi _ => n - (intOf vi).toNat)
    case atStart => exact ⟨0, rfl, Nat.zero_le _, HS0⟩
    case round =>
      clear HS0
      obtain ⟨j, rfl, hj, HSt⟩ := hrel
      by_cases hlt : j < n
      · have hltz : (j : Int) < (n : Int) := by omega
        have hlL : j < l.length := by rw [HN2.out]; exact hlt
        obtain ⟨ad, A3, c3, hA, hLi, hcells⟩ := HCh.out w (Below.refl _ _) j hlL
        subst hA
        have HLi := Lib.hid hLi
        have HCe := Lib.hid hcells
        clear hLi hcells
        have hk8 : (at8 : Int) % 20 = (k : Int) := by have := HK.out; omega
        obtain ⟨a0, a1, a2, a3, a4, a5, a6, a7, a8, a9⟩ := HCe.out _ HSt.out.low
        rcases HSt.out with ⟨hvc, hvw, hjk, HU⟩ | ⟨q, hvc, hvw, hkj, hcop, HD⟩
        · subst hvc
          subst hvw
          by_cases hjk2 : j = k
          · have ejk : ((j : Int) == (at8 : Int) % 20) = true := by rw [hk8, beq_iff_eq]; omega
            have hf := playP_fix P0 l j
            have HCo : Hid (Calls Tryz.prog 9 #[.pointer (some ⟨g, 0, none⟩)] wr fun e w1 => ∃ g2, e = .returned (.pointer (some ⟨g2, 0, none⟩)) ∧ Hid (Calls Tryz.prog 10 #[.pointer (some ⟨r, 0, none⟩)] w1 fun e w2 => ∃ r2, e = .returned (.pointer (some ⟨r2, 0, none⟩)) ∧ Hid (Duo w w2 (playP P0 l j) ⟨g2, (playP P0 l j).S, (playP P0 l j).n * ((playP P0 l j).n + 2), r2, (playP P0 l j).B, (playP P0 l j).L, (playP P0 l j).m⟩))) := by
              have := uno_copy HU (by have := hf.2.2.1; have := HP0.out.2.2.1; omega) (by have := hf.2.2.2; have := HP0.out.2.2.2; omega)
              rw [hf.1, hf.2.1, HP0.out.1, HP0.out.2.1] at this
              exact this
            have hpn : (playP P0 l j).n ≤ 19 := by have := hf.2.2.1; have := HP0.out.2.2.1; omega
            have hpm : (playP P0 l j).m ≤ 19 := by have := hf.2.2.2; have := HP0.out.2.2.2; omega
            have HCop0 : Hid (∀ g2 r2, Cop ⟨g2, (playP P0 l j).S, (playP P0 l j).n * ((playP P0 l j).n + 2), r2, (playP P0 l j).B, (playP P0 l j).L, (playP P0 l j).m⟩ 0) := fun g2 r2 => ⟨Nat.le_trans (Nat.mul_le_mul hpn (Nat.add_le_add_right hpn 2)) (by decide), by show (playP P0 l j).m ≤ _; omega⟩
            have HPg : Hid ((playP P0 l j).g = g) := hf.1.trans HP0.out.1
            have hkj : k ≤ j := by omega
            clear hf hpn hpm HU hk8 hjk2
            go_wp2_with fail
            refine HCo.out.mono ?_
            rintro e w5 ⟨g2, rfl, HC2⟩
            go_wp2_with fail
            refine HC2.out.mono ?_
            rintro e w6 ⟨r2, rfl, HD6⟩
            clear HCo HC2
            obtain ⟨q, hq⟩ : ∃ q : Par, q = ⟨g2, (playP P0 l j).S, (playP P0 l j).n * ((playP P0 l j).n + 2), r2, (playP P0 l j).B, (playP P0 l j).L, (playP P0 l j).m⟩ := ⟨_, rfl⟩
            have hqg : g2 = q.g := by rw [hq]
            have hqr : r2 = q.r := by rw [hq]
            have HCop : Hid (Cop q 0) := by show Cop q 0; rw [hq]; exact HCop0.out g2 r2
            have HQS : Hid (q.S = (playP P0 l j).S) := by show _ = _; rw [hq]
            rw [← hq] at HD6
            clear hq HCop0
            subst hqg
            subst hqr
            have HSm : Hid (Calls Tryz.prog 11 #[.pointer (some ⟨q.g, 0, none⟩), .pointer (some ⟨g, 0, none⟩)] w6 fun e w' => e = .returned (.bool true) ∧ Hid (Duo w w' (playP P0 l j) q)) := by
              have := duo_same HD6.out
              rw [HQS.out, sameB_self, HPg.out] at this
              exact this
            clear HD6 HQS HPg
            go_wp2_with fail
            refine HSm.out.mono ?_
            rintro e wm ⟨rfl, HDm⟩
            clear HSm
            have HM : Hid (Duo w wm (playP P0 l j) q) := HDm
            clear HDm a0 a1 a2 a3 a4 a5 a6 a7 a8 a9
            obtain ⟨a0, a1, a2, a3, a4, a5, a6, a7, a8, a9⟩ := HCe.out _ HM.out.1
            by_cases ha : 0 < l[j].a
            · have hal : 0 < l[j].a := by assumption
              have HId : idOf l[j] j = l[j].a := if_pos hal
              have HBd : Hid (Below w.heap.size w wm.drew) := HM.out.1.drew
              have HPl : Hid (Calls Tryz.prog 13 #[.pointer (some ⟨g, 0, none⟩), .agg #[.int .i64 l[j].d, .string (mkS l[j].bk), .string (mkS l[j].ky), .slice A3 l[j].dt.length c3, .int .i64 l[j].n, .int .i64 l[j].a, .string (mkS l[j].pf), .string (mkS l[j].fr), .int .i64 l[j].fi, .int .i64 l[j].mo], .int .i64 (l[j].a)] wm.drew fun e w1 => ∃ v1, e = .returned v1 ∧ Below w.heap.size w w1 ∧ Hid (Calls Tryz.prog 14 #[.pointer (some ⟨r, 0, none⟩), .agg #[.int .i64 l[j].d, .string (mkS l[j].bk), .string (mkS l[j].ky), .slice A3 l[j].dt.length c3, .int .i64 l[j].n, .int .i64 l[j].a, .string (mkS l[j].pf), .string (mkS l[j].fr), .int .i64 l[j].fi, .int .i64 l[j].mo], .int .i64 (l[j].a)] w1 fun e w2 => ∃ v2, e = .returned v2 ∧ Below w.heap.size w w2 ∧ Hid (Calls Tryz.prog 12 #[v1, v2] w2 fun e w3 => e = .returned (.bool true) ∧ Hid (Duo w w3 (playP P0 l (j + 1)) q)))) := by
                have hf := playP_fix P0 l j
                have := duo_call (HM.out.below (Below.refl _ _).drew) l[j] A3 c3 (l[j].a) (HSh.out _ (List.getElem_mem hlL)) (by have := hf.2.2.1; have := HP0.out.2.2.1; omega) (by have := hf.2.2.2; have := HP0.out.2.2.2; omega) HLi.out
                rw [hf.1, hf.2.1, HP0.out.1, HP0.out.2.1, ← HId, ← playP_at hlL, HId] at this
                exact this
              clear HId HM
              go_wp2_with fail
              have hbd : Below w.heap.size w wm.drew := HBd.out
              go_region_held3 (fun V => V.cell? (ad.add (j * 10)) = some (.int .i64 l[j].d) ∧ V.cell? ⟨(ad.add (j * 10)).block, (ad.add (j * 10)).off + 1, none⟩ = some (.string (mkS l[j].bk)) ∧ V.cell? ⟨(ad.add (j * 10)).block, (ad.add (j * 10)).off + 2, none⟩ = some (.string (mkS l[j].ky)) ∧ V.cell? ⟨(ad.add (j * 10)).block, (ad.add (j * 10)).off + 3, none⟩ = some (.slice A3 l[j].dt.length c3) ∧ V.cell? ⟨(ad.add (j * 10)).block, (ad.add (j * 10)).off + 4, none⟩ = some (.int .i64 l[j].n) ∧ V.cell? ⟨(ad.add (j * 10)).block, (ad.add (j * 10)).off + 5, none⟩ = some (.int .i64 l[j].a) ∧ V.cell? ⟨(ad.add (j * 10)).block, (ad.add (j * 10)).off + 6, none⟩ = some (.string (mkS l[j].pf)) ∧ V.cell? ⟨(ad.add (j * 10)).block, (ad.add (j * 10)).off + 7, none⟩ = some (.string (mkS l[j].fr)) ∧ V.cell? ⟨(ad.add (j * 10)).block, (ad.add (j * 10)).off + 8, none⟩ = some (.int .i64 l[j].fi) ∧ V.cell? ⟨(ad.add (j * 10)).block, (ad.add (j * 10)).off + 9, none⟩ = some (.int .i64 l[j].mo)) (exact HCe.out _ (by assumption)) (first
                | (go_at_call 13; refine HPl.out.mono ?_; rintro e w5 ⟨v5, rfl, hb5, HP2⟩)
                | (go_at_call 14; refine HP2.out.mono ?_; rintro e w6 ⟨v6, rfl, hb6, HP3⟩)
                | (go_at_call 12; refine HP3.out.mono ?_; rintro e w7 ⟨rfl, HR7⟩; have hb7 : Below w.heap.size w w7 := HR7.out.1))
              all_goals
                have HD7 : Hid (Duo w w7 (playP P0 l (j + 1)) q) := HR7
                clear HR7 HPl HP2 HP3 hb5 hb6 hb7 hbd HBd
                have hf1 := playP_fix P0 l (j + 1)
                obtain ⟨sb, hsb⟩ : ∃ sb, sameB q.S (playP P0 l (j + 1)).S = sb := ⟨_, rfl⟩
                have HSa : Hid (Calls Tryz.prog 11 #[.pointer (some ⟨q.g, 0, none⟩), .pointer (some ⟨g, 0, none⟩)] w7 fun e w' => e = .returned (.bool sb) ∧ Hid (Duo w w' (playP P0 l (j + 1)) q)) := by
                  have := duo_same HD7.out
                  rw [hsb, hf1.1, HP0.out.1] at this
                  exact this
                have HSr : Hid (∀ V, Duo w V (playP P0 l (j + 1)) q → Calls Tryz.prog 15 #[.pointer (some ⟨q.r, 0, none⟩), .pointer (some ⟨r, 0, none⟩)] V fun e w' => e = .returned (.bool sb) ∧ Hid (Duo w w' (playP P0 l (j + 1)) q)) := fun V hV => by
                  have := duo_rsame hV (by have := hf1.2.2.2; have := HP0.out.2.2.2; omega) (by have := HCop.out.m; omega)
                  rw [hsb, hf1.2.1, HP0.out.2.1] at this
                  exact this
                have hbb : (sb != sb) = false := by simp
                clear hf1 hsb HD7
                go_wp2_with fail
                refine HSa.out.mono ?_
                rintro e w8 ⟨rfl, HD8⟩
                clear HSa
                go_wp2_with fail
                refine (HSr.out _ HD8.out).mono ?_
                rintro e w9 ⟨rfl, HD9⟩
                clear HSr HD8
                have HS9 : Hid (Stand w w9 (playP P0 l (j + 1)) k (j + 1) (.pointer (some ⟨q.g, 0, none⟩)) (.pointer (some ⟨q.r, 0, none⟩))) := .inr ⟨q, rfl, rfl, by omega, HCop.out, HD9.out⟩
                clear HD9
                go_wp2_with fail
                go_roundw
                case rel => exact ⟨j + 1, by go_num, by omega, HS9⟩
                case measure => simp [intOf]; omega
            · have hal : ¬ 0 < l[j].a := by assumption
              have HId : idOf l[j] j = 10 + (j : Int) := if_neg hal
              have HBd : Hid (Below w.heap.size w wm.drew) := HM.out.1.drew
              have HPl : Hid (Calls Tryz.prog 13 #[.pointer (some ⟨g, 0, none⟩), .agg #[.int .i64 l[j].d, .string (mkS l[j].bk), .string (mkS l[j].ky), .slice A3 l[j].dt.length c3, .int .i64 l[j].n, .int .i64 l[j].a, .string (mkS l[j].pf), .string (mkS l[j].fr), .int .i64 l[j].fi, .int .i64 l[j].mo], .int .i64 (10 + (j : Int))] wm.drew fun e w1 => ∃ v1, e = .returned v1 ∧ Below w.heap.size w w1 ∧ Hid (Calls Tryz.prog 14 #[.pointer (some ⟨r, 0, none⟩), .agg #[.int .i64 l[j].d, .string (mkS l[j].bk), .string (mkS l[j].ky), .slice A3 l[j].dt.length c3, .int .i64 l[j].n, .int .i64 l[j].a, .string (mkS l[j].pf), .string (mkS l[j].fr), .int .i64 l[j].fi, .int .i64 l[j].mo], .int .i64 (10 + (j : Int))] w1 fun e w2 => ∃ v2, e = .returned v2 ∧ Below w.heap.size w w2 ∧ Hid (Calls Tryz.prog 12 #[v1, v2] w2 fun e w3 => e = .returned (.bool true) ∧ Hid (Duo w w3 (playP P0 l (j + 1)) q)))) := by
                have hf := playP_fix P0 l j
                have := duo_call (HM.out.below (Below.refl _ _).drew) l[j] A3 c3 (10 + (j : Int)) (HSh.out _ (List.getElem_mem hlL)) (by have := hf.2.2.1; have := HP0.out.2.2.1; omega) (by have := hf.2.2.2; have := HP0.out.2.2.2; omega) HLi.out
                rw [hf.1, hf.2.1, HP0.out.1, HP0.out.2.1, ← HId, ← playP_at hlL, HId] at this
                exact this
              clear HId HM
              go_wp2_with fail
              have hbd : Below w.heap.size w wm.drew := HBd.out
              go_region_held3 (fun V => V.cell? (ad.add (j * 10)) = some (.int .i64 l[j].d) ∧ V.cell? ⟨(ad.add (j * 10)).block, (ad.add (j * 10)).off + 1, none⟩ = some (.string (mkS l[j].bk)) ∧ V.cell? ⟨(ad.add (j * 10)).block, (ad.add (j * 10)).off + 2, none⟩ = some (.string (mkS l[j].ky)) ∧ V.cell? ⟨(ad.add (j * 10)).block, (ad.add (j * 10)).off + 3, none⟩ = some (.slice A3 l[j].dt.length c3) ∧ V.cell? ⟨(ad.add (j * 10)).block, (ad.add (j * 10)).off + 4, none⟩ = some (.int .i64 l[j].n) ∧ V.cell? ⟨(ad.add (j * 10)).block, (ad.add (j * 10)).off + 5, none⟩ = some (.int .i64 l[j].a) ∧ V.cell? ⟨(ad.add (j * 10)).block, (ad.add (j * 10)).off + 6, none⟩ = some (.string (mkS l[j].pf)) ∧ V.cell? ⟨(ad.add (j * 10)).block, (ad.add (j * 10)).off + 7, none⟩ = some (.string (mkS l[j].fr)) ∧ V.cell? ⟨(ad.add (j * 10)).block, (ad.add (j * 10)).off + 8, none⟩ = some (.int .i64 l[j].fi) ∧ V.cell? ⟨(ad.add (j * 10)).block, (ad.add (j * 10)).off + 9, none⟩ = some (.int .i64 l[j].mo)) (exact HCe.out _ (by assumption)) (first
                | (go_at_call 13; refine HPl.out.mono ?_; rintro e w5 ⟨v5, rfl, hb5, HP2⟩)
                | (go_at_call 14; refine HP2.out.mono ?_; rintro e w6 ⟨v6, rfl, hb6, HP3⟩)
                | (go_at_call 12; refine HP3.out.mono ?_; rintro e w7 ⟨rfl, HR7⟩; have hb7 : Below w.heap.size w w7 := HR7.out.1))
              all_goals
                have HD7 : Hid (Duo w w7 (playP P0 l (j + 1)) q) := HR7
                clear HR7 HPl HP2 HP3 hb5 hb6 hb7 hbd HBd
                have hf1 := playP_fix P0 l (j + 1)
                obtain ⟨sb, hsb⟩ : ∃ sb, sameB q.S (playP P0 l (j + 1)).S = sb := ⟨_, rfl⟩
                have HSa : Hid (Calls Tryz.prog 11 #[.pointer (some ⟨q.g, 0, none⟩), .pointer (some ⟨g, 0, none⟩)] w7 fun e w' => e = .returned (.bool sb) ∧ Hid (Duo w w' (playP P0 l (j + 1)) q)) := by
                  have := duo_same HD7.out
                  rw [hsb, hf1.1, HP0.out.1] at this
                  exact this
                have HSr : Hid (∀ V, Duo w V (playP P0 l (j + 1)) q → Calls Tryz.prog 15 #[.pointer (some ⟨q.r, 0, none⟩), .pointer (some ⟨r, 0, none⟩)] V fun e w' => e = .returned (.bool sb) ∧ Hid (Duo w w' (playP P0 l (j + 1)) q)) := fun V hV => by
                  have := duo_rsame hV (by have := hf1.2.2.2; have := HP0.out.2.2.2; omega) (by have := HCop.out.m; omega)
                  rw [hsb, hf1.2.1, HP0.out.2.1] at this
                  exact this
                have hbb : (sb != sb) = false := by simp
                clear hf1 hsb HD7
                go_wp2_with fail
                refine HSa.out.mono ?_
                rintro e w8 ⟨rfl, HD8⟩
                clear HSa
                go_wp2_with fail
                refine (HSr.out _ HD8.out).mono ?_
                rintro e w9 ⟨rfl, HD9⟩
                clear HSr HD8
                have HS9 : Hid (Stand w w9 (playP P0 l (j + 1)) k (j + 1) (.pointer (some ⟨q.g, 0, none⟩)) (.pointer (some ⟨q.r, 0, none⟩))) := .inr ⟨q, rfl, rfl, by omega, HCop.out, HD9.out⟩
                clear HD9
                go_wp2_with fail
                go_roundw
                case rel => exact ⟨j + 1, by go_num, by omega, HS9⟩
                case measure => simp [intOf]; omega
          · have ejk : ((j : Int) == (at8 : Int) % 20) = false := by rw [hk8, beq_eq_false_iff_ne]; omega
            have HM : Hid (Uno w wr (playP P0 l j)) := HU
            clear HU hk8
            by_cases ha : 0 < l[j].a
            · have hal : 0 < l[j].a := by assumption
              have HId : idOf l[j] j = l[j].a := if_pos hal
              have HBd : Hid (Below w.heap.size w wr.drew) := HM.out.1.drew
              have HPl : Hid (Calls Tryz.prog 13 #[.pointer (some ⟨g, 0, none⟩), .agg #[.int .i64 l[j].d, .string (mkS l[j].bk), .string (mkS l[j].ky), .slice A3 l[j].dt.length c3, .int .i64 l[j].n, .int .i64 l[j].a, .string (mkS l[j].pf), .string (mkS l[j].fr), .int .i64 l[j].fi, .int .i64 l[j].mo], .int .i64 (l[j].a)] wr.drew fun e w1 => ∃ v1, e = .returned v1 ∧ Below w.heap.size w w1 ∧ Hid (Calls Tryz.prog 14 #[.pointer (some ⟨r, 0, none⟩), .agg #[.int .i64 l[j].d, .string (mkS l[j].bk), .string (mkS l[j].ky), .slice A3 l[j].dt.length c3, .int .i64 l[j].n, .int .i64 l[j].a, .string (mkS l[j].pf), .string (mkS l[j].fr), .int .i64 l[j].fi, .int .i64 l[j].mo], .int .i64 (l[j].a)] w1 fun e w2 => ∃ v2, e = .returned v2 ∧ Below w.heap.size w w2 ∧ Hid (Calls Tryz.prog 12 #[v1, v2] w2 fun e w3 => e = .returned (.bool true) ∧ Hid (Uno w w3 (playP P0 l (j + 1)))))) := by
                have hf := playP_fix P0 l j
                have := uno_call (HM.out.below (Below.refl _ _).drew) l[j] A3 c3 (l[j].a) (HSh.out _ (List.getElem_mem hlL)) (by have := hf.2.2.1; have := HP0.out.2.2.1; omega) (by have := hf.2.2.2; have := HP0.out.2.2.2; omega) HLi.out
                rw [hf.1, hf.2.1, HP0.out.1, HP0.out.2.1, ← HId, ← playP_at hlL, HId] at this
                exact this
              clear HId HM
              go_wp2_with fail
              have hbd : Below w.heap.size w wr.drew := HBd.out
              go_region_held3 (fun V => V.cell? (ad.add (j * 10)) = some (.int .i64 l[j].d) ∧ V.cell? ⟨(ad.add (j * 10)).block, (ad.add (j * 10)).off + 1, none⟩ = some (.string (mkS l[j].bk)) ∧ V.cell? ⟨(ad.add (j * 10)).block, (ad.add (j * 10)).off + 2, none⟩ = some (.string (mkS l[j].ky)) ∧ V.cell? ⟨(ad.add (j * 10)).block, (ad.add (j * 10)).off + 3, none⟩ = some (.slice A3 l[j].dt.length c3) ∧ V.cell? ⟨(ad.add (j * 10)).block, (ad.add (j * 10)).off + 4, none⟩ = some (.int .i64 l[j].n) ∧ V.cell? ⟨(ad.add (j * 10)).block, (ad.add (j * 10)).off + 5, none⟩ = some (.int .i64 l[j].a) ∧ V.cell? ⟨(ad.add (j * 10)).block, (ad.add (j * 10)).off + 6, none⟩ = some (.string (mkS l[j].pf)) ∧ V.cell? ⟨(ad.add (j * 10)).block, (ad.add (j * 10)).off + 7, none⟩ = some (.string (mkS l[j].fr)) ∧ V.cell? ⟨(ad.add (j * 10)).block, (ad.add (j * 10)).off + 8, none⟩ = some (.int .i64 l[j].fi) ∧ V.cell? ⟨(ad.add (j * 10)).block, (ad.add (j * 10)).off + 9, none⟩ = some (.int .i64 l[j].mo)) (exact HCe.out _ (by assumption)) (first
                | (go_at_call 13; refine HPl.out.mono ?_; rintro e w5 ⟨v5, rfl, hb5, HP2⟩)
                | (go_at_call 14; refine HP2.out.mono ?_; rintro e w6 ⟨v6, rfl, hb6, HP3⟩)
                | (go_at_call 12; refine HP3.out.mono ?_; rintro e w7 ⟨rfl, HR7⟩; have hb7 : Below w.heap.size w w7 := HR7.out.1))
              all_goals
                have HS7 : Hid (Stand w w7 (playP P0 l (j + 1)) k (j + 1) (.pointer none) (.pointer none)) := .inl ⟨rfl, rfl, by omega, HR7.out⟩
                clear HR7 HPl HP2 HP3 hb5 hb6 hb7 hbd HBd
                go_wp2_with fail
                go_roundw
                case rel => exact ⟨j + 1, by go_num, by omega, HS7⟩
                case measure => simp [intOf]; omega
            · have hal : ¬ 0 < l[j].a := by assumption
              have HId : idOf l[j] j = 10 + (j : Int) := if_neg hal
              have HBd : Hid (Below w.heap.size w wr.drew) := HM.out.1.drew
              have HPl : Hid (Calls Tryz.prog 13 #[.pointer (some ⟨g, 0, none⟩), .agg #[.int .i64 l[j].d, .string (mkS l[j].bk), .string (mkS l[j].ky), .slice A3 l[j].dt.length c3, .int .i64 l[j].n, .int .i64 l[j].a, .string (mkS l[j].pf), .string (mkS l[j].fr), .int .i64 l[j].fi, .int .i64 l[j].mo], .int .i64 (10 + (j : Int))] wr.drew fun e w1 => ∃ v1, e = .returned v1 ∧ Below w.heap.size w w1 ∧ Hid (Calls Tryz.prog 14 #[.pointer (some ⟨r, 0, none⟩), .agg #[.int .i64 l[j].d, .string (mkS l[j].bk), .string (mkS l[j].ky), .slice A3 l[j].dt.length c3, .int .i64 l[j].n, .int .i64 l[j].a, .string (mkS l[j].pf), .string (mkS l[j].fr), .int .i64 l[j].fi, .int .i64 l[j].mo], .int .i64 (10 + (j : Int))] w1 fun e w2 => ∃ v2, e = .returned v2 ∧ Below w.heap.size w w2 ∧ Hid (Calls Tryz.prog 12 #[v1, v2] w2 fun e w3 => e = .returned (.bool true) ∧ Hid (Uno w w3 (playP P0 l (j + 1)))))) := by
                have hf := playP_fix P0 l j
                have := uno_call (HM.out.below (Below.refl _ _).drew) l[j] A3 c3 (10 + (j : Int)) (HSh.out _ (List.getElem_mem hlL)) (by have := hf.2.2.1; have := HP0.out.2.2.1; omega) (by have := hf.2.2.2; have := HP0.out.2.2.2; omega) HLi.out
                rw [hf.1, hf.2.1, HP0.out.1, HP0.out.2.1, ← HId, ← playP_at hlL, HId] at this
                exact this
              clear HId HM
              go_wp2_with fail
              have hbd : Below w.heap.size w wr.drew := HBd.out
              go_region_held3 (fun V => V.cell? (ad.add (j * 10)) = some (.int .i64 l[j].d) ∧ V.cell? ⟨(ad.add (j * 10)).block, (ad.add (j * 10)).off + 1, none⟩ = some (.string (mkS l[j].bk)) ∧ V.cell? ⟨(ad.add (j * 10)).block, (ad.add (j * 10)).off + 2, none⟩ = some (.string (mkS l[j].ky)) ∧ V.cell? ⟨(ad.add (j * 10)).block, (ad.add (j * 10)).off + 3, none⟩ = some (.slice A3 l[j].dt.length c3) ∧ V.cell? ⟨(ad.add (j * 10)).block, (ad.add (j * 10)).off + 4, none⟩ = some (.int .i64 l[j].n) ∧ V.cell? ⟨(ad.add (j * 10)).block, (ad.add (j * 10)).off + 5, none⟩ = some (.int .i64 l[j].a) ∧ V.cell? ⟨(ad.add (j * 10)).block, (ad.add (j * 10)).off + 6, none⟩ = some (.string (mkS l[j].pf)) ∧ V.cell? ⟨(ad.add (j * 10)).block, (ad.add (j * 10)).off + 7, none⟩ = some (.string (mkS l[j].fr)) ∧ V.cell? ⟨(ad.add (j * 10)).block, (ad.add (j * 10)).off + 8, none⟩ = some (.int .i64 l[j].fi) ∧ V.cell? ⟨(ad.add (j * 10)).block, (ad.add (j * 10)).off + 9, none⟩ = some (.int .i64 l[j].mo)) (exact HCe.out _ (by assumption)) (first
                | (go_at_call 13; refine HPl.out.mono ?_; rintro e w5 ⟨v5, rfl, hb5, HP2⟩)
                | (go_at_call 14; refine HP2.out.mono ?_; rintro e w6 ⟨v6, rfl, hb6, HP3⟩)
                | (go_at_call 12; refine HP3.out.mono ?_; rintro e w7 ⟨rfl, HR7⟩; have hb7 : Below w.heap.size w w7 := HR7.out.1))
              all_goals
                have HS7 : Hid (Stand w w7 (playP P0 l (j + 1)) k (j + 1) (.pointer none) (.pointer none)) := .inl ⟨rfl, rfl, by omega, HR7.out⟩
                clear HR7 HPl HP2 HP3 hb5 hb6 hb7 hbd HBd
                go_wp2_with fail
                go_roundw
                case rel => exact ⟨j + 1, by go_num, by omega, HS7⟩
                case measure => simp [intOf]; omega
        · subst hvc
          subst hvw
          have ejk : ((j : Int) == (at8 : Int) % 20) = false := by rw [hk8, beq_eq_false_iff_ne]; omega
          have HM : Hid (Duo w wr (playP P0 l j) q) := HD
          have HCop := Lib.hid hcop
          clear HD hk8 hcop
          by_cases ha : 0 < l[j].a
          · have hal : 0 < l[j].a := by assumption
            have HId : idOf l[j] j = l[j].a := if_pos hal
            have HBd : Hid (Below w.heap.size w wr.drew) := HM.out.1.drew
            have HPl : Hid (Calls Tryz.prog 13 #[.pointer (some ⟨g, 0, none⟩), .agg #[.int .i64 l[j].d, .string (mkS l[j].bk), .string (mkS l[j].ky), .slice A3 l[j].dt.length c3, .int .i64 l[j].n, .int .i64 l[j].a, .string (mkS l[j].pf), .string (mkS l[j].fr), .int .i64 l[j].fi, .int .i64 l[j].mo], .int .i64 (l[j].a)] wr.drew fun e w1 => ∃ v1, e = .returned v1 ∧ Below w.heap.size w w1 ∧ Hid (Calls Tryz.prog 14 #[.pointer (some ⟨r, 0, none⟩), .agg #[.int .i64 l[j].d, .string (mkS l[j].bk), .string (mkS l[j].ky), .slice A3 l[j].dt.length c3, .int .i64 l[j].n, .int .i64 l[j].a, .string (mkS l[j].pf), .string (mkS l[j].fr), .int .i64 l[j].fi, .int .i64 l[j].mo], .int .i64 (l[j].a)] w1 fun e w2 => ∃ v2, e = .returned v2 ∧ Below w.heap.size w w2 ∧ Hid (Calls Tryz.prog 12 #[v1, v2] w2 fun e w3 => e = .returned (.bool true) ∧ Hid (Duo w w3 (playP P0 l (j + 1)) q)))) := by
              have hf := playP_fix P0 l j
              have := duo_call (HM.out.below (Below.refl _ _).drew) l[j] A3 c3 (l[j].a) (HSh.out _ (List.getElem_mem hlL)) (by have := hf.2.2.1; have := HP0.out.2.2.1; omega) (by have := hf.2.2.2; have := HP0.out.2.2.2; omega) HLi.out
              rw [hf.1, hf.2.1, HP0.out.1, HP0.out.2.1, ← HId, ← playP_at hlL, HId] at this
              exact this
            clear HId HM
            go_wp2_with fail
            have hbd : Below w.heap.size w wr.drew := HBd.out
            go_region_held3 (fun V => V.cell? (ad.add (j * 10)) = some (.int .i64 l[j].d) ∧ V.cell? ⟨(ad.add (j * 10)).block, (ad.add (j * 10)).off + 1, none⟩ = some (.string (mkS l[j].bk)) ∧ V.cell? ⟨(ad.add (j * 10)).block, (ad.add (j * 10)).off + 2, none⟩ = some (.string (mkS l[j].ky)) ∧ V.cell? ⟨(ad.add (j * 10)).block, (ad.add (j * 10)).off + 3, none⟩ = some (.slice A3 l[j].dt.length c3) ∧ V.cell? ⟨(ad.add (j * 10)).block, (ad.add (j * 10)).off + 4, none⟩ = some (.int .i64 l[j].n) ∧ V.cell? ⟨(ad.add (j * 10)).block, (ad.add (j * 10)).off + 5, none⟩ = some (.int .i64 l[j].a) ∧ V.cell? ⟨(ad.add (j * 10)).block, (ad.add (j * 10)).off + 6, none⟩ = some (.string (mkS l[j].pf)) ∧ V.cell? ⟨(ad.add (j * 10)).block, (ad.add (j * 10)).off + 7, none⟩ = some (.string (mkS l[j].fr)) ∧ V.cell? ⟨(ad.add (j * 10)).block, (ad.add (j * 10)).off + 8, none⟩ = some (.int .i64 l[j].fi) ∧ V.cell? ⟨(ad.add (j * 10)).block, (ad.add (j * 10)).off + 9, none⟩ = some (.int .i64 l[j].mo)) (exact HCe.out _ (by assumption)) (first
              | (go_at_call 13; refine HPl.out.mono ?_; rintro e w5 ⟨v5, rfl, hb5, HP2⟩)
              | (go_at_call 14; refine HP2.out.mono ?_; rintro e w6 ⟨v6, rfl, hb6, HP3⟩)
              | (go_at_call 12; refine HP3.out.mono ?_; rintro e w7 ⟨rfl, HR7⟩; have hb7 : Below w.heap.size w w7 := HR7.out.1))
            all_goals
              have HD7 : Hid (Duo w w7 (playP P0 l (j + 1)) q) := HR7
              clear HR7 HPl HP2 HP3 hb5 hb6 hb7 hbd HBd
              have hf1 := playP_fix P0 l (j + 1)
              obtain ⟨sb, hsb⟩ : ∃ sb, sameB q.S (playP P0 l (j + 1)).S = sb := ⟨_, rfl⟩
              have HSa : Hid (Calls Tryz.prog 11 #[.pointer (some ⟨q.g, 0, none⟩), .pointer (some ⟨g, 0, none⟩)] w7 fun e w' => e = .returned (.bool sb) ∧ Hid (Duo w w' (playP P0 l (j + 1)) q)) := by
                have := duo_same HD7.out
                rw [hsb, hf1.1, HP0.out.1] at this
                exact this
              have HSr : Hid (∀ V, Duo w V (playP P0 l (j + 1)) q → Calls Tryz.prog 15 #[.pointer (some ⟨q.r, 0, none⟩), .pointer (some ⟨r, 0, none⟩)] V fun e w' => e = .returned (.bool sb) ∧ Hid (Duo w w' (playP P0 l (j + 1)) q)) := fun V hV => by
                have := duo_rsame hV (by have := hf1.2.2.2; have := HP0.out.2.2.2; omega) (by have := HCop.out.m; omega)
                rw [hsb, hf1.2.1, HP0.out.2.1] at this
                exact this
              have hbb : (sb != sb) = false := by simp
              clear hf1 hsb HD7
              go_wp2_with fail
              refine HSa.out.mono ?_
              rintro e w8 ⟨rfl, HD8⟩
              clear HSa
              go_wp2_with fail
              refine (HSr.out _ HD8.out).mono ?_
              rintro e w9 ⟨rfl, HD9⟩
              clear HSr HD8
              have HS9 : Hid (Stand w w9 (playP P0 l (j + 1)) k (j + 1) (.pointer (some ⟨q.g, 0, none⟩)) (.pointer (some ⟨q.r, 0, none⟩))) := .inr ⟨q, rfl, rfl, by omega, HCop.out, HD9.out⟩
              clear HD9
              go_wp2_with fail
              go_roundw
              case rel => exact ⟨j + 1, by go_num, by omega, HS9⟩
              case measure => simp [intOf]; omega
          · have hal : ¬ 0 < l[j].a := by assumption
            have HId : idOf l[j] j = 10 + (j : Int) := if_neg hal
            have HBd : Hid (Below w.heap.size w wr.drew) := HM.out.1.drew
            have HPl : Hid (Calls Tryz.prog 13 #[.pointer (some ⟨g, 0, none⟩), .agg #[.int .i64 l[j].d, .string (mkS l[j].bk), .string (mkS l[j].ky), .slice A3 l[j].dt.length c3, .int .i64 l[j].n, .int .i64 l[j].a, .string (mkS l[j].pf), .string (mkS l[j].fr), .int .i64 l[j].fi, .int .i64 l[j].mo], .int .i64 (10 + (j : Int))] wr.drew fun e w1 => ∃ v1, e = .returned v1 ∧ Below w.heap.size w w1 ∧ Hid (Calls Tryz.prog 14 #[.pointer (some ⟨r, 0, none⟩), .agg #[.int .i64 l[j].d, .string (mkS l[j].bk), .string (mkS l[j].ky), .slice A3 l[j].dt.length c3, .int .i64 l[j].n, .int .i64 l[j].a, .string (mkS l[j].pf), .string (mkS l[j].fr), .int .i64 l[j].fi, .int .i64 l[j].mo], .int .i64 (10 + (j : Int))] w1 fun e w2 => ∃ v2, e = .returned v2 ∧ Below w.heap.size w w2 ∧ Hid (Calls Tryz.prog 12 #[v1, v2] w2 fun e w3 => e = .returned (.bool true) ∧ Hid (Duo w w3 (playP P0 l (j + 1)) q)))) := by
              have hf := playP_fix P0 l j
              have := duo_call (HM.out.below (Below.refl _ _).drew) l[j] A3 c3 (10 + (j : Int)) (HSh.out _ (List.getElem_mem hlL)) (by have := hf.2.2.1; have := HP0.out.2.2.1; omega) (by have := hf.2.2.2; have := HP0.out.2.2.2; omega) HLi.out
              rw [hf.1, hf.2.1, HP0.out.1, HP0.out.2.1, ← HId, ← playP_at hlL, HId] at this
              exact this
            clear HId HM
            go_wp2_with fail
            have hbd : Below w.heap.size w wr.drew := HBd.out
            go_region_held3 (fun V => V.cell? (ad.add (j * 10)) = some (.int .i64 l[j].d) ∧ V.cell? ⟨(ad.add (j * 10)).block, (ad.add (j * 10)).off + 1, none⟩ = some (.string (mkS l[j].bk)) ∧ V.cell? ⟨(ad.add (j * 10)).block, (ad.add (j * 10)).off + 2, none⟩ = some (.string (mkS l[j].ky)) ∧ V.cell? ⟨(ad.add (j * 10)).block, (ad.add (j * 10)).off + 3, none⟩ = some (.slice A3 l[j].dt.length c3) ∧ V.cell? ⟨(ad.add (j * 10)).block, (ad.add (j * 10)).off + 4, none⟩ = some (.int .i64 l[j].n) ∧ V.cell? ⟨(ad.add (j * 10)).block, (ad.add (j * 10)).off + 5, none⟩ = some (.int .i64 l[j].a) ∧ V.cell? ⟨(ad.add (j * 10)).block, (ad.add (j * 10)).off + 6, none⟩ = some (.string (mkS l[j].pf)) ∧ V.cell? ⟨(ad.add (j * 10)).block, (ad.add (j * 10)).off + 7, none⟩ = some (.string (mkS l[j].fr)) ∧ V.cell? ⟨(ad.add (j * 10)).block, (ad.add (j * 10)).off + 8, none⟩ = some (.int .i64 l[j].fi) ∧ V.cell? ⟨(ad.add (j * 10)).block, (ad.add (j * 10)).off + 9, none⟩ = some (.int .i64 l[j].mo)) (exact HCe.out _ (by assumption)) (first
              | (go_at_call 13; refine HPl.out.mono ?_; rintro e w5 ⟨v5, rfl, hb5, HP2⟩)
              | (go_at_call 14; refine HP2.out.mono ?_; rintro e w6 ⟨v6, rfl, hb6, HP3⟩)
              | (go_at_call 12; refine HP3.out.mono ?_; rintro e w7 ⟨rfl, HR7⟩; have hb7 : Below w.heap.size w w7 := HR7.out.1))
            all_goals
              have HD7 : Hid (Duo w w7 (playP P0 l (j + 1)) q) := HR7
              clear HR7 HPl HP2 HP3 hb5 hb6 hb7 hbd HBd
              have hf1 := playP_fix P0 l (j + 1)
              obtain ⟨sb, hsb⟩ : ∃ sb, sameB q.S (playP P0 l (j + 1)).S = sb := ⟨_, rfl⟩
              have HSa : Hid (Calls Tryz.prog 11 #[.pointer (some ⟨q.g, 0, none⟩), .pointer (some ⟨g, 0, none⟩)] w7 fun e w' => e = .returned (.bool sb) ∧ Hid (Duo w w' (playP P0 l (j + 1)) q)) := by
                have := duo_same HD7.out
                rw [hsb, hf1.1, HP0.out.1] at this
                exact this
              have HSr : Hid (∀ V, Duo w V (playP P0 l (j + 1)) q → Calls Tryz.prog 15 #[.pointer (some ⟨q.r, 0, none⟩), .pointer (some ⟨r, 0, none⟩)] V fun e w' => e = .returned (.bool sb) ∧ Hid (Duo w w' (playP P0 l (j + 1)) q)) := fun V hV => by
                have := duo_rsame hV (by have := hf1.2.2.2; have := HP0.out.2.2.2; omega) (by have := HCop.out.m; omega)
                rw [hsb, hf1.2.1, HP0.out.2.1] at this
                exact this
              have hbb : (sb != sb) = false := by simp
              clear hf1 hsb HD7
              go_wp2_with fail
              refine HSa.out.mono ?_
              rintro e w8 ⟨rfl, HD8⟩
              clear HSa
              go_wp2_with fail
              refine (HSr.out _ HD8.out).mono ?_
              rintro e w9 ⟨rfl, HD9⟩
              clear HSr HD8
              have HS9 : Hid (Stand w w9 (playP P0 l (j + 1)) k (j + 1) (.pointer (some ⟨q.g, 0, none⟩)) (.pointer (some ⟨q.r, 0, none⟩))) := .inr ⟨q, rfl, rfl, by omega, HCop.out, HD9.out⟩
              clear HD9
              go_wp2_with fail
              go_roundw
              case rel => exact ⟨j + 1, by go_num, by omega, HS9⟩
              case measure => simp [intOf]; omega
      · have hltz : ¬ (j : Int) < (n : Int) := by omega
        rcases HSt.out with ⟨hvc, hvw, hjk, HU⟩ | ⟨q, hvc, hvw, hkj, hcop, HD⟩
        · subst hvc
          subst hvw
          have HB := Lib.hid HU.1
          clear HU HSt hjk
          by_cases hn0 : 0 < n
          all_goals
            have hn0z : decide ((0 : Int) < (n : Int)) = decide (0 < n) := by simp
            go_wp2_with fail
            refine wp_loop_rounds 1 ?_
            rw [rounds_succ]
            go_wp2_with fail
            go_ret
            exact ⟨rfl, HB.out⟩
        · subst hvc
          subst hvw
          have HQ0 : Hid (∃ q2 : Par, q2.g = q.g ∧ q2.r = q.r ∧ Cop q2 0 ∧ Duo w wr q2 (playP P0 l j)) := ⟨q, rfl, rfl, hcop, HD.swap⟩
          clear HD HSt hcop hkj
          obtain ⟨pe, hpe⟩ : ∃ pe, playP P0 l j = pe := ⟨_, rfl⟩
          rw [hpe] at HQ0
          clear hpe
          go_wp2_with fail
          clear hltz hlt hj
          go_loopw [11] (fun vi wr => ∃ (j : Nat), vi = .int .i64 j ∧ j ≤ n ∧ Hid (∃ q2 : Par, q2.g = q.g ∧ q2.r = q.r ∧ Cop q2 j ∧ Duo w wr q2 pe)) (fun vi _ => n - (intOf vi).toNat)
          case atStart => exact ⟨0, rfl, Nat.zero_le _, HQ0⟩
          case round =>
            clear HQ0
            rename_i j0 _ _ _
            obtain ⟨j, rfl, hj, HQ⟩ := hrel
            by_cases hlt : j < n
            · have hltz : (j : Int) < (n : Int) := by omega
              have hlL : j < l.length := by rw [HN2.out]; exact hlt
              obtain ⟨ad, A3, c3, hA, hLi, hcells⟩ := HCh.out w (Below.refl _ _) j hlL
              subst hA
              have HLi := Lib.hid hLi
              have HCe := Lib.hid hcells
              clear hLi hcells
              obtain ⟨q2, hg2, hr2, hcop2, hD2⟩ := HQ.out
              have HBd : Hid (Below w.heap.size w wr.drew) := hD2.1.drew
              obtain ⟨a0, _, _, _, _, _, _, _, _, _⟩ := HCe.out _ hD2.1
              by_cases h5 : l[j].d = 5
              · have h5b : (l[j].d == 5) = true := by rw [beq_iff_eq]; exact h5
                have HPl : Hid (Calls Tryz.prog 13 #[.pointer (some ⟨q.g, 0, none⟩), .agg #[.int .i64 l[j].d, .string (mkS l[j].bk), .string (mkS l[j].ky), .slice A3 l[j].dt.length c3, .int .i64 l[j].n, .int .i64 l[j].a, .string (mkS l[j].pf), .string (mkS l[j].fr), .int .i64 l[j].fi, .int .i64 l[j].mo], .int .i64 (0)] wr.drew fun e w1 => ∃ v1, e = .returned v1 ∧ Below w.heap.size w w1 ∧ Hid (Calls Tryz.prog 14 #[.pointer (some ⟨q.r, 0, none⟩), .agg #[.int .i64 l[j].d, .string (mkS l[j].bk), .string (mkS l[j].ky), .slice A3 l[j].dt.length c3, .int .i64 l[j].n, .int .i64 l[j].a, .string (mkS l[j].pf), .string (mkS l[j].fr), .int .i64 l[j].fi, .int .i64 l[j].mo], .int .i64 (0)] w1 fun e w2 => ∃ v2, e = .returned v2 ∧ Below w.heap.size w w2 ∧ Hid (Calls Tryz.prog 12 #[v1, v2] w2 fun e w3 => e = .returned (.bool true) ∧ Hid (∃ q2 : Par, q2.g = q.g ∧ q2.r = q.r ∧ Cop q2 (j + 1) ∧ Duo w w3 q2 pe)))) := by
                  have := duo_call (hD2.below (Below.refl _ _).drew) l[j] A3 c3 0 (HSh.out _ (List.getElem_mem hlL)) (by have := hcop2.n; omega) (by have := hcop2.m; omega) HLi.out
                  rw [hg2, hr2] at this
                  exact Calls.mono this fun e w1 ⟨v1, b1, b2, b3⟩ => ⟨v1, b1, b2, b3.mono fun e w2 ⟨v2, d1, d2, d3⟩ => ⟨v2, d1, d2, d3.mono fun e w3 ⟨e1, e2⟩ => ⟨e1, q2.step l[j] 0, hg2, hr2, ⟨by have := hcop2.n; show q2.n + 1 ≤ _; omega, by have := hcop2.m; show q2.m + 1 ≤ _; omega⟩, e2⟩⟩⟩
                clear hD2 hcop2 hg2 hr2 h5
                go_wp2_with fail
                have hbd : Below w.heap.size w wr.drew := HBd.out
                go_region_held3 (fun V => V.cell? (ad.add (j * 10)) = some (.int .i64 l[j].d) ∧ V.cell? ⟨(ad.add (j * 10)).block, (ad.add (j * 10)).off + 1, none⟩ = some (.string (mkS l[j].bk)) ∧ V.cell? ⟨(ad.add (j * 10)).block, (ad.add (j * 10)).off + 2, none⟩ = some (.string (mkS l[j].ky)) ∧ V.cell? ⟨(ad.add (j * 10)).block, (ad.add (j * 10)).off + 3, none⟩ = some (.slice A3 l[j].dt.length c3) ∧ V.cell? ⟨(ad.add (j * 10)).block, (ad.add (j * 10)).off + 4, none⟩ = some (.int .i64 l[j].n) ∧ V.cell? ⟨(ad.add (j * 10)).block, (ad.add (j * 10)).off + 5, none⟩ = some (.int .i64 l[j].a) ∧ V.cell? ⟨(ad.add (j * 10)).block, (ad.add (j * 10)).off + 6, none⟩ = some (.string (mkS l[j].pf)) ∧ V.cell? ⟨(ad.add (j * 10)).block, (ad.add (j * 10)).off + 7, none⟩ = some (.string (mkS l[j].fr)) ∧ V.cell? ⟨(ad.add (j * 10)).block, (ad.add (j * 10)).off + 8, none⟩ = some (.int .i64 l[j].fi) ∧ V.cell? ⟨(ad.add (j * 10)).block, (ad.add (j * 10)).off + 9, none⟩ = some (.int .i64 l[j].mo)) (exact HCe.out _ (by assumption)) (first
                | (go_at_call 13; refine HPl.out.mono ?_; rintro e w5 ⟨v5, rfl, hb5, HP2⟩)
                | (go_at_call 14; refine HP2.out.mono ?_; rintro e w6 ⟨v6, rfl, hb6, HP3⟩)
                | (go_at_call 12; refine HP3.out.mono ?_; rintro e w7 ⟨rfl, HR7⟩; have hb7 : Below w.heap.size w w7 := (by obtain ⟨_, _, _, _, h⟩ := HR7.out; exact h.1)))
                all_goals
                  clear HPl HP2 HP3 hb5 hb6 hb7 hbd HBd
                  go_wp2_with fail
                  go_roundw
                  case rel => exact ⟨j + 1, by go_num, by omega, HR7⟩
                  case measure => simp [intOf]; omega
              · have h5b : (l[j].d == 5) = false := by rw [beq_eq_false_iff_ne]; exact h5
                have HQn : Hid (∀ k, ∃ q2 : Par, q2.g = q.g ∧ q2.r = q.r ∧ Cop q2 (j + 1) ∧ Duo w (wr.drewN k) q2 pe) := fun k => ⟨q2, hg2, hr2, ⟨by have := hcop2.n; omega, by have := hcop2.m; omega⟩, hD2.below ((Below.refl _ _).drewN k)⟩
                clear hD2 hcop2 hg2 hr2 h5 HBd
                go_wp2_with fail
                go_quiet (fail)
                go_wp2_with fail
                go_roundw
                case rel => exact ⟨j + 1, by go_num, by omega, HQn.out _⟩
                case measure => simp [intOf]; omega
            · have hltz : ¬ (j : Int) < (n : Int) := by omega
              have HB : Hid (Below w.heap.size w wr) := by
                obtain ⟨_, _, _, _, h⟩ := HQ.out
                exact h.1
              clear HQ
              go_wp2_with fail
              go_ret
              exact ⟨rfl, HB.out⟩
end Go.Proofs.YtjbjcfnbgcloiaaGreatDoor.modelPlays

/- ModelPlays: whatever is asked: each answer; a copy is one of its own. -/
namespace Go.Proofs.YtjbjcfnbgcloiaaGreatDoor.modelPlays
open Go.ChangeShapes Go.WideShapes Go.ChangeAt Go.RowKit Go.Shelf Nam Go.Proofs.YtjbjcfnbgcloiaaGreatDoor

section
variable {H : Type} {enc : TypeId × Value → H}
set_option maxRecDepth 100000 in
theorem walk (u : Value) (du : DataW H) (pu : List MemPlace) {Wu : World} {bu : Nat} (ou : Value.okWide Tryz.prog Wu .any bu 22 u) (hu : DataW.Trod enc Tryz.prog Wu 0 (fun _ => true) true 22 u du pu) (a : Int) (wa0 : (Lit.int .u8 a).wf = true) (W : World) (eu : W = Wu) (hT : Tabs W) :
    Calls Tryz.prog 3 #[u, .int .u8 a] W fun e W' => e = .returned (.bool true) ∧ Below W.heap.size W W' := by
  have wa := wf_u8 wa0
  subst eu
  obtain ⟨lu, Au, cu, rfl, hcu, hCu, hNu⟩ := open_chs ou hu
  obtain ⟨n, rfl⟩ : ∃ n : Nat, a = (n : Int) := ⟨a.toNat, by omega⟩
  exact walk0 lu Au cu n W (by omega) hcu hCu hT
end
theorem own : ownKnob Tryz.prog.godebug = none := by kernel_rfl
theorem laidOut : laidOutB Tryz.prog = true := by kernel_rfl
noncomputable def laidWorld (os : Os) : World :=
  let w0 := World.holding Tryz.prog os ⟨#[], #[], []⟩
  let put (h : Array Obj) (g : Nat) (cs : Array Value) : Array Obj := h.modify g fun
    | .cells _ t frozen => .cells cs t frozen
    | o => o
  let h1 := put w0.heap 0 (Lib.firstTab.map fun z => Value.int .u8 z).toArray
  let h2 := put h1 1 ((List.range 16).flatMap fun i => [Value.int .u8 (Lib.accLo i), Value.int .u8 (Lib.accHi i)]).toArray
  { w0 with heap := h2 }
theorem laid_met (os : Os) : laidMet Tryz.prog Rows.modelPlaysRow.laid ((laidWorld os).forCall (fun _ _ => 0) ⟨#[], #[.slice none 0 0, .int .u8 0], []⟩).memory :=
  laidMet_of_run' 8 (by kernel_rfl) (by kernel_rfl)
theorem reads (os : Os) {H : Type} (enc : TypeId × Value → H) : ∃ places, DataW.whole enc Tryz.prog ((laidWorld os).forCall (fun _ _ => 0) ⟨#[], #[.slice none 0 0, .int .u8 0], []⟩).memory Tryz.f3.params.toList Rows.modelPlaysSpec.vars false (#[.slice none 0 0, .int .u8 0] : Array Value).toList 8 = some ([.nil, .lit (.int .u8 0)], [], places) :=
  ⟨[], by kernel_rfl⟩
set_option maxRecDepth 1000000 in
theorem tabs_of {W : World} (h : laidMetH Tryz.prog Rows.modelPlaysRow.laid W) : Tabs W :=
  utf8Tabs_of_readsT (U8Types.of196 Tryz.laysValid) ⟨by kernel_rfl, by kernel_rfl, by kernel_rfl, by kernel_rfl, by kernel_rfl, by kernel_rfl, by kernel_rfl⟩ (Lib.laidMet.reads h (.tail _ (.head _))) (Lib.laidMet.reads h (.head _))
set_option maxRecDepth 100000 in
theorem lifted (os : Os) (started : os.Started) (H : Type) (enc : TypeId × Value → H) (F : Stop.Interp) :
    ReturnsInHanded {} Tryz.checked os 3 .any ((OpenSpec.ofChange Rows.modelPlaysSpec).preRow enc Tryz.prog Tryz.f3 Rows.modelPlaysRow.domain false Rows.modelPlaysRow.laid) (((OpenSpec.ofChange Rows.modelPlaysSpec).at F).post enc Tryz.prog Tryz.f3 false true false false) := by
  obtain ⟨places, hx⟩ := reads os enc
  refine returnsInHanded_of_row (C := Tryz.checked) (s := OpenSpec.ofChange Rows.modelPlaysSpec) own started (by kernel_rfl) Tryz.func3
    (witness_row_at (enc := enc) (C := Tryz.checked) false (laidWorld os) #[.slice none 0 0, .int .u8 0] rfl (by kernel_rfl) (by kernel_rfl) (by kernel_rfl)
      (OpenSpec.preRow_of_cond 8 hx (by kernel_rfl) (fun k hk => by cases hk) (by kernel_rfl) (laid_met os))) ?_
  intro W base args ds gs before hval0 hW _ _ _ hL _ _
  have hval : ∀ (j : Nat) t v, Tryz.f3.params[j]? = some t → args[j]? = some v → Value.okWide Tryz.prog W .any base t v := hval0
  have hW' := hW
  obtain ⟨p, q, hA0, hV, rfl, hfz, hnd⟩ := hW
  have hA : DataW.TrodAll enc Tryz.prog W 0 (fun _ => true) true Tryz.f3.params.toList args.toList ds p := hA0
  rw [Tryz.params3] at hA hval
  obtain ⟨v0, vs0, d0, ds0, p0, q0, hargs, rfl, rfl, h0, r0⟩ := trodAll_cons hA
  obtain ⟨v1, vs1, d1, ds1, p1, q1, rfl, rfl, rfl, h1, r1⟩ := trodAll_cons r0
  obtain ⟨rfl, rfl, rfl⟩ := trodAll_nil r1
  obtain rfl : args = #[v0, v1] := by cases args; simp_all
  obtain ⟨rfl, rfl⟩ := trodVars_none hV
  have o0 := hval 0 22 v0 rfl rfl
  obtain ⟨a1, rfl, rfl, rfl, w1⟩ := open_int Tryz.underlying5 (hval 1 5 v1 rfl rfl) h1
  clear hA0 hval0
  simp only [List.append_nil] at hW'
  refine (walk v0 d0 p0 o0 h0 a1 w1 W rfl (tabs_of hL)).mono fun e W' ⟨he, hg⟩ => ?_
  subst he
  exact ⟨_, rfl, law_post (s := Rows.modelPlaysSpec) laidOut (of_decide_eq_true (by kernel_rfl)) Tryz.underlying4 rfl rfl rfl rfl rfl hW' hg⟩

theorem said : Rows.ModelPlaysSaid :=
  OpenClaim.holds_of_cond 3 Tryz.f3 rfl rfl rfl rfl rfl rfl rfl ⟨rfl, rfl, rfl, rfl, rfl⟩ rfl rfl rfl rfl rfl (by kernel_rfl) Tryz.func3 (by kernel_rfl)
    (of_decide_eq_true (by kernel_rfl)) (by unfold Func.isWrapper; first | (rw [if_pos (by decide +kernel)]; kernel_rfl) | (rw [if_neg (by decide +kernel)]; exact ⟨rfl, rfl⟩))
    (fun os started H enc _ F => by rw [OpenClaim.pre_eq_preRow]; exact lifted os started H enc F)
theorem plain (f : FuncId) (fn : Func) (hf : Tryz.pinned.checked.prog.funcNamed "strongbox/strongboxlaw22.ModelPlays" = some f) (hfn : Tryz.pinned.checked.prog.funcs[f]? = some fn) :
    true = Tryz.pinned.checked.prog.looks [] ∧ ∀ (j : Nat) t, fn.params[j]? = some t → Tryz.pinned.checked.prog.wantsStandIn t = false := by
  obtain rfl : f = 3 := Option.some.inj ((show Tryz.prog.funcNamed "strongbox/strongboxlaw22.ModelPlays" = some 3 by kernel_rfl).symm.trans hf) |>.symm
  obtain rfl : fn = Tryz.f3 := (Option.some.inj (Tryz.func3.symm.trans hfn)).symm
  refine ⟨by kernel_rfl, fun j t ht => ?_⟩
  rw [Tryz.params3] at ht
  have hm := Array.mem_of_getElem? ht
  simp only [List.mem_toArray, List.mem_cons, List.not_mem_nil, or_false] at hm
  rcases hm with rfl | rfl
  · exact (show Tryz.prog.wantsStandIn 22 = false by kernel_rfl)
  · exact (show Tryz.prog.wantsStandIn 5 = false by kernel_rfl)

theorem proved : Rows.ModelPlaysCardSaid :=
  Claim7.holds_tied_plain_at .later [] _ _ _ _ said (fun _ h => by cases h) (by kernel_rfl) (fun _ h => by cases h) modelPlays_row_tie rfl ⟨rfl, rfl⟩ (by kernel_rfl) rfl plain (by kernel_rfl)
#print axioms proved
end Go.Proofs.YtjbjcfnbgcloiaaGreatDoor.modelPlays
