/- ClockParts: any boot, any count: the tag of them, and its parts again; the program and the reference answer the same. No condition. -/
import Derived.Test.YtnjcbeinfjbkdaaClk
import Derived.Test.YtnjcbeinfjbkdaaLaw
namespace Go.Proofs.Ytnjcbeinfjbkdaa
open Go.RowKit
def pB (t : Int) : Int := t / 65536
def pC (t : Int) : Int := bits BinOp.and IntKind.i64 t 65535
def pOk (t : Int) : Prop := 1 ≤ pB t ∧ pB t ≤ 32767 ∧ 1 ≤ pC t ∧ pC t ≤ 65535

set_option maxHeartbeats 400000 in
theorem parts_yes (t : Int) (w : World) (h : pOk t) :
    Calls Try.prog 15 #[.int .i64 t] w fun e w' => e = .returned (.tuple #[.int .i64 (pB t), .int .i64 (pC t)]) ∧ w = w' := by
  obtain ⟨h1, h2, h3, h4⟩ := h
  unfold pB pC at *
  go_enter Try.func15, Try.ntmps15
  go_wp2_with (go_at_call 14; refine (join_yes _ _ _ h1 h2 h3 h4).mono ?_; rintro e w' ⟨rfl, rfl⟩)
  go_ret2
  exact ⟨rfl, rfl⟩

set_option maxHeartbeats 400000 in
theorem parts_no (t : Int) (w : World) (h : ¬ pOk t) :
    Calls Try.prog 15 #[.int .i64 t] w fun e w' => e = .returned (.tuple #[.int .i64 0, .int .i64 0]) ∧ w = w' := by
  have H := Lib.hid h; clear h
  go_enter Try.func15, Try.ntmps15
  go_wp2_with (go_at_call 14; refine (join_no _ _ _ H.out).mono ?_; rintro e w' ⟨rfl, rfl⟩)
  go_ret2
  exact ⟨rfl, rfl⟩

set_option maxHeartbeats 400000 in
theorem rparts_yes (t : Int) (w : World) (h : pOk t) :
    Calls Try.prog 16 #[.int .i64 t] w fun e w' => e = .returned (.tuple #[.int .i64 (pB t), .int .i64 (pC t)]) ∧ w = w' := by
  obtain ⟨h1, h2, h3, h4⟩ := h
  unfold pB pC at *
  go_enter Try.func16, Try.ntmps16
  go_wp2_with (go_at_call 13; refine (rjoin_yes _ _ _ h1 h2 h3 h4).mono ?_; rintro e w' ⟨rfl, rfl⟩)
  go_ret2
  exact ⟨rfl, rfl⟩

set_option maxHeartbeats 400000 in
theorem rparts_no (t : Int) (w : World) (h : ¬ pOk t) :
    Calls Try.prog 16 #[.int .i64 t] w fun e w' => e = .returned (.tuple #[.int .i64 0, .int .i64 0]) ∧ w = w' := by
  have H := Lib.hid h; clear h
  go_enter Try.func16, Try.ntmps16
  go_wp2_with (go_at_call 13; refine (rjoin_no _ _ _ H.out).mono ?_; rintro e w' ⟨rfl, rfl⟩)
  go_ret2
  exact ⟨rfl, rfl⟩

/-- The two answers of Parts. -/
def pX (t : Int) : Int := if 1 ≤ pB t ∧ pB t ≤ 32767 ∧ 1 ≤ pC t ∧ pC t ≤ 65535 then pB t else 0
def pY (t : Int) : Int := if 1 ≤ pB t ∧ pB t ≤ 32767 ∧ 1 ≤ pC t ∧ pC t ≤ 65535 then pC t else 0
theorem parts_is (t : Int) (w : World) :
    Calls Try.prog 15 #[.int .i64 t] w fun e w' => e = .returned (.tuple #[.int .i64 (pX t), .int .i64 (pY t)]) ∧ w = w' := by
  by_cases h : 1 ≤ pB t ∧ pB t ≤ 32767 ∧ 1 ≤ pC t ∧ pC t ≤ 65535
  · unfold pX pY; rw [if_pos h, if_pos h]; exact parts_yes t w h
  · unfold pX pY; rw [if_neg h, if_neg h]; exact parts_no t w h
theorem rparts_is (t : Int) (w : World) :
    Calls Try.prog 16 #[.int .i64 t] w fun e w' => e = .returned (.tuple #[.int .i64 (pX t), .int .i64 (pY t)]) ∧ w = w' := by
  by_cases h : 1 ≤ pB t ∧ pB t ≤ 32767 ∧ 1 ≤ pC t ∧ pC t ≤ 65535
  · unfold pX pY; rw [if_pos h, if_pos h]; exact rparts_yes t w h
  · unfold pX pY; rw [if_neg h, if_neg h]; exact rparts_no t w h
theorem pX_join (b c : Int) (hb : 1 ≤ b) (hb' : b ≤ 32767) (hc : 1 ≤ c) (hc' : c ≤ 65535) : pX (b * 65536 + c) = b ∧ pY (b * 65536 + c) = c := by
  have e1 : pB (b * 65536 + c) = b := by unfold pB; omega
  have e2 : pC (b * 65536 + c) = c := by
    unfold pC
    rw [i64_and16 _ (by omega) (by omega)]
    omega
  unfold pX pY
  rw [e1, e2, if_pos ⟨hb, hb', hc, hc'⟩, if_pos ⟨hb, hb', hc, hc'⟩]
  exact ⟨rfl, rfl⟩

set_option maxHeartbeats 400000 in
theorem rnew_yes (b : Int) (w : World) (hb : 1 ≤ b) (hb' : b ≤ 32767) :
    Calls Try.prog 17 #[.int .i64 b] w fun e w' => e = .returned (.tuple #[.pointer (some ⟨w.heap.size, 0, none⟩), .int .i64 0]) ∧ w' = w.alloc (.cells #[.int .i64 b, .int .i64 0] 70) := by
  go_enter Try.func17, Try.ntmps17
  go_wp2
  go_ret2
  exact ⟨rfl, rfl⟩

set_option maxHeartbeats 400000 in
theorem rnew_no (b : Int) (w : World) (h : ¬ (1 ≤ b ∧ b ≤ 32767)) :
    Calls Try.prog 17 #[.int .i64 b] w fun e w' => e = .returned (.tuple #[.pointer none, .int .i64 1]) ∧ w' = w := by
  go_enter Try.func17, Try.ntmps17
  go_wp2
  all_goals
    go_ret2
    exact ⟨rfl, rfl⟩

/-- Both constructors answer a pointer and one number, the same one; only new blocks come. -/
theorem new_any (b : Int) (w : World) :
    Calls Try.prog 10 #[.int .i64 b] w fun e w' => (∃ p, e = .returned (.tuple #[p, .int .i64 (if 1 ≤ b ∧ b ≤ 32767 then 0 else 1)])) ∧ Below w.heap.size w w' := by
  by_cases h : 1 ≤ b ∧ b ≤ 32767
  · rw [if_pos h]
    exact (new_yes b w h.1 h.2).mono fun e w' ⟨he, hw⟩ => ⟨⟨_, he⟩, by rw [hw]; exact (Below.refl _ _).alloc (Nat.le_refl _) _⟩
  · rw [if_neg h]
    exact (new_no b w h).mono fun e w' ⟨he, hw⟩ => ⟨⟨_, he⟩, by rw [hw]; exact Below.refl _ _⟩
theorem rnew_any (b : Int) (w : World) :
    Calls Try.prog 17 #[.int .i64 b] w fun e w' => (∃ p, e = .returned (.tuple #[p, .int .i64 (if 1 ≤ b ∧ b ≤ 32767 then 0 else 1)])) ∧ Below w.heap.size w w' := by
  by_cases h : 1 ≤ b ∧ b ≤ 32767
  · rw [if_pos h]
    exact (rnew_yes b w h.1 h.2).mono fun e w' ⟨he, hw⟩ => ⟨⟨_, he⟩, by rw [hw]; exact (Below.refl _ _).alloc (Nat.le_refl _) _⟩
  · rw [if_neg h]
    exact (rnew_no b w h).mono fun e w' ⟨he, hw⟩ => ⟨⟨_, he⟩, by rw [hw]; exact Below.refl _ _⟩
end Go.Proofs.Ytnjcbeinfjbkdaa
namespace Go.Proofs.Ytnjcbeinfjbkdaa.clockParts
open Go.ChangeShapes Go.WideShapes Go.ChangeAt Go.RowKit

set_option maxHeartbeats 1000000 in
theorem walk (b : Int) (wb : (Lit.int .i64 b).wf = true) (c : Int) (wc : (Lit.int .i64 c).wf = true) (t : Int) (wt : (Lit.int .i64 t).wf = true) (w : World) :
    Calls Try.prog 5 #[.int .i64 b, .int .i64 c, .int .i64 t] w fun e w' => e = .returned (.bool true) ∧ Below w.heap.size w w' := by
  generalize hg : (if 1 ≤ b ∧ b ≤ 32767 then (0 : Int) else 1) = g
  have Hn : ∀ w : World, Calls Try.prog 10 #[.int .i64 b] w fun e w' => (∃ p, e = .returned (.tuple #[p, .int .i64 g])) ∧ Below w.heap.size w w' := by
    intro w; rw [← hg]; exact new_any b w
  have Hr : ∀ w : World, Calls Try.prog 17 #[.int .i64 b] w fun e w' => (∃ p, e = .returned (.tuple #[p, .int .i64 g])) ∧ Below w.heap.size w w' := by
    intro w; rw [← hg]; exact rnew_any b w
  clear hg
  have HN := Lib.hid Hn; clear Hn
  have HR := Lib.hid Hr; clear Hr
  by_cases hok : 1 ≤ b ∧ b ≤ 32767 ∧ 1 ≤ c ∧ c ≤ 65535
  · obtain ⟨h1, h2, h3, h4⟩ := hok
    obtain ⟨x1, x2⟩ := pX_join b c h1 h2 h3 h4
    go_enter Try.func5, Try.ntmps5
    go_wp2_with fail
    refine (awake_is _).mono ?_
    rintro e w2 ⟨rfl, hb⟩
    go_wp2_with fail
    refine (join_yes _ _ _ h1 h2 h3 h4).mono ?_
    rintro e w' ⟨rfl, rfl⟩
    go_wp2_with fail
    refine (rjoin_yes _ _ _ h1 h2 h3 h4).mono ?_
    rintro e w' ⟨rfl, rfl⟩
    go_wp2_with fail
    refine (parts_is _ _).mono ?_
    rintro e w' ⟨rfl, rfl⟩
    go_wp2_with fail
    refine (rparts_is _ _).mono ?_
    rintro e w' ⟨rfl, rfl⟩
    go_wp2_with fail
    refine (parts_is _ _).mono ?_
    rintro e w' ⟨rfl, rfl⟩
    go_wp2_with fail
    refine (HN.out _).mono ?_
    rintro e w3 ⟨⟨p, rfl⟩, hb3⟩
    go_wp2_with fail
    refine (HR.out _).mono ?_
    rintro e w4 ⟨⟨p4, rfl⟩, hb4⟩
    go_wp2
    go_ret
    have s3 := hb.size
    have s4 := hb3.size
    exact ⟨rfl, (hb.trans (hb3.mono s3)).trans (hb4.mono (by omega))⟩
  · have HO := Lib.hid hok; clear hok
    go_enter Try.func5, Try.ntmps5
    go_wp2_with fail
    refine (awake_is _).mono ?_
    rintro e w2 ⟨rfl, hb⟩
    go_wp2_with fail
    refine (join_no _ _ _ HO.out).mono ?_
    rintro e w' ⟨rfl, rfl⟩
    go_wp2_with fail
    refine (rjoin_no _ _ _ HO.out).mono ?_
    rintro e w' ⟨rfl, rfl⟩
    go_wp2_with fail
    refine (parts_is _ _).mono ?_
    rintro e w' ⟨rfl, rfl⟩
    go_wp2_with fail
    refine (rparts_is _ _).mono ?_
    rintro e w' ⟨rfl, rfl⟩
    go_wp2_with fail
    refine (parts_is _ _).mono ?_
    rintro e w' ⟨rfl, rfl⟩
    go_wp2_with fail
    refine (HN.out _).mono ?_
    rintro e w3 ⟨⟨p, rfl⟩, hb3⟩
    go_wp2_with fail
    refine (HR.out _).mono ?_
    rintro e w4 ⟨⟨p4, rfl⟩, hb4⟩
    go_wp2
    go_ret
    have s3 := hb.size
    have s4 := hb3.size
    exact ⟨rfl, (hb.trans (hb3.mono s3)).trans (hb4.mono (by omega))⟩

theorem own : ownKnob Try.prog.godebug = none := by kernel_rfl
theorem laidOut : laidOutB Try.prog = true := by kernel_rfl
set_option maxRecDepth 100000 in
theorem lifted (os : Os) (started : os.Started) (H : Type) (enc : TypeId × Value → H) :
    ReturnsInHanded {} Try.checked os 5 .any (Rows.clockPartsSpec.pre6 enc Try.prog Try.f5 Rows.clockPartsRow.domain false) (Rows.clockPartsSpec.post enc Try.prog Try.f5 false true false false) := by
  refine returnsInHanded_of_change (C := Try.checked) own started (by kernel_rfl) Try.func5
    (ChangeSpec.witness6 (enc := enc) (C := Try.checked) false ⟨#[], #[.int .i64 0, .int .i64 0, .int .i64 0], []⟩ 8 (by kernel_rfl) (by kernel_rfl) (by kernel_rfl) (by kernel_rfl)) ?_
  intro W base args ds gs before hval0 hW hcnd _
  have hval : ∀ (j : Nat) t v, Try.f5.params[j]? = some t → args[j]? = some v → Value.okWide Try.prog W .any base t v := hval0
  have hW' := hW
  obtain ⟨p, q, hA0, hV, rfl, hfz, hnd⟩ := hW
  have hA : DataW.TrodAll enc Try.prog W 0 (fun _ => true) true Try.f5.params.toList args.toList ds p := hA0
  rw [Try.params5] at hA hval
  obtain ⟨v0, vs0, d0, ds0, p0, q0, hargs, rfl, rfl, h0, r0⟩ := trodAll_cons hA
  obtain ⟨v1, vs1, d1, ds1, p1, q1, rfl, rfl, rfl, h1, r1⟩ := trodAll_cons r0
  obtain ⟨v2, vs2, d2, ds2, p2, q2, rfl, rfl, rfl, h2, r2⟩ := trodAll_cons r1
  obtain ⟨rfl, rfl, rfl⟩ := trodAll_nil r2
  obtain rfl : args = #[v0, v1, v2] := by cases args; simp_all
  obtain ⟨rfl, rfl⟩ := trodVars_none hV
  obtain ⟨a0, rfl, rfl, rfl, w0⟩ := open_int Try.underlying3 (hval 0 3 v0 rfl rfl) h0
  obtain ⟨a1, rfl, rfl, rfl, w1⟩ := open_int Try.underlying3 (hval 1 3 v1 rfl rfl) h1
  obtain ⟨a2, rfl, rfl, rfl, w2⟩ := open_int Try.underlying3 (hval 2 3 v2 rfl rfl) h2
  clear hA0 hval0
  simp only [List.append_nil] at hW'
  refine (walk a0 w0 a1 w1 a2 w2 W).mono fun e W' ⟨he, hg⟩ => ?_
  subst he
  exact ⟨_, rfl, law_post laidOut (of_decide_eq_true (by kernel_rfl)) Try.underlying4 rfl rfl rfl rfl rfl hW' hg⟩

theorem over : Rows.clockPartsRow.holds Try.pinned (OpenSpec.ofChange Rows.clockPartsSpec) :=
  OpenClaim.holds_of_wide 5 Try.f5 rfl rfl rfl rfl rfl rfl rfl ⟨rfl, rfl, rfl, rfl, rfl⟩ rfl rfl rfl rfl rfl (by kernel_rfl) Try.func5 (by kernel_rfl)
    (of_decide_eq_true (by kernel_rfl)) (by unfold Func.isWrapper; first | (rw [if_pos (by decide +kernel)]; kernel_rfl) | (rw [if_neg (by decide +kernel)]; exact ⟨rfl, rfl⟩))
    (fun os started H enc _ => lifted os started H enc)

/-- ████ THE STATEMENT ████ -/
theorem proved : Rows.ClockPartsSaid :=
  over
#print axioms proved
end Go.Proofs.Ytnjcbeinfjbkdaa.clockParts
