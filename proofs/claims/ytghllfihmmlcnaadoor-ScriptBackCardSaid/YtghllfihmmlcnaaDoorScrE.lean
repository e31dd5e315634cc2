/- The small parts of package script: readText, readNumber. -/
import Derived.Test.YtghllfihmmlcnaaDoorScrC
import Derived.Outline
namespace Go.Proofs.YtghllfihmmlcnaaDoor
open Go.RowKit Nam YtghllfihmmlcnaaDoorW.PrintWords

set_option maxHeartbeats 1000000 in
theorem preadtext_is (l : List UInt8) (w : World) (hs : l.length ≤ 65536) : Calls Tryd.prog 42 #[.string (mkS l)] w fun e w' => e = .returned (.tuple #[.string (mkS (readB l).1), .bool (readB l).2]) ∧ Below w.heap.size w w' := by
  have hz : (mkS l).size ≤ 65536 := by rw [mkS_size]; exact hs
  have hdl : (mkS l).toList = l := by rw [ByteArray.toList_eq, mkS_list]
  by_cases h : l = [46]
  · subst h
    have h0 : (mkS [46]).toList = [46] := hdl
    clear hdl
    go_enter Tryd.func42, Tryd.ntmps42
    go_wp2
    go_ret2
    exact ⟨rfl, Below.refl _ _⟩
  · have h0 : (mkS l).toList ≠ [46] := by rw [hdl]; exact h
    have h1 : ((mkS l).toList == [46]) = false := by simpa using h0
    obtain ⟨t, b, hr, ht⟩ : ∃ t b, readB l = (t, b) ∧ unText l = t ∧ (unp l).isSome = (unp l).isSome ∧ b = ((unp l).isSome && decide (t ≠ [])) := by
      unfold readB unText
      rw [if_neg h]
      cases unp l with
      | none => exact ⟨_, _, rfl, rfl, rfl, rfl⟩
      | some x => refine ⟨_, _, rfl, rfl, rfl, ?_⟩; simp; cases x <;> rfl
    rw [hr]
    obtain ⟨ht1, _, hb⟩ := ht
    clear hr hdl
    have HN := Lib.hid h; clear h
    have HB := Lib.hid hb; clear hb
    have HT := Lib.hid ht1; clear ht1
    cases hu : (unp l).isSome
    · have HU := Lib.hid hu; clear hu
      go_enter Tryd.func42, Tryd.ntmps42
      go_wp2_with fail
      refine (unpath_is _ _ hz).mono ?_
      rintro e w1 ⟨⟨x, rfl, hx⟩, hbl⟩
      rw [mkS_list, HT.out] at hx
      obtain rfl := eq_mkS hx
      rw [mkS_list, HU.out]
      go_wp2
      go_ret2
      exact ⟨by rw [HB.out, HU.out]; rfl, hbl⟩
    · have HU := Lib.hid hu; clear hu
      by_cases ht : t = []
      · subst ht
        have he : (mkS []).toList.isEmpty = true := by rw [isEmpty_mkS]; rfl
        go_enter Tryd.func42, Tryd.ntmps42
        go_wp2_with fail
        refine (unpath_is _ _ hz).mono ?_
        rintro e w1 ⟨⟨x, rfl, hx⟩, hbl⟩
        rw [mkS_list, HT.out] at hx
        obtain rfl := eq_mkS hx
        rw [mkS_list, HU.out]
        go_wp2
        go_ret2
        exact ⟨by rw [HB.out, HU.out]; rfl, hbl⟩
      · have he : (mkS t).toList.isEmpty = false := by rw [isEmpty_mkS]; exact decide_eq_false ht
        have HT2 := Lib.hid ht; clear ht
        go_enter Tryd.func42, Tryd.ntmps42
        go_wp2_with fail
        refine (unpath_is _ _ hz).mono ?_
        rintro e w1 ⟨⟨x, rfl, hx⟩, hbl⟩
        rw [mkS_list, HT.out] at hx
        obtain rfl := eq_mkS hx
        rw [mkS_list, HU.out]
        go_wp2
        go_ret2
        exact ⟨by rw [HB.out, HU.out, decide_eq_true HT2.out]; rfl, hbl⟩

/-- What readNumber's first answer is where there is none. -/
def NumIs (l : List UInt8) (w : World) (e : Ending) (w' : World) : Prop :=
  (∃ n : Int, e = .returned (.tuple #[.int .i64 n, .bool (numOf l).isSome]) ∧ (∀ v, numOf l = some v → n = v) ∧ -9223372036854775808 ≤ n ∧ n ≤ 9223372036854775807) ∧ Below w.heap.size w w'

theorem numIs_some {l : List UInt8} {w w' : World} {v : Int} (h : numOf l = some v) (hv0 : -9223372036854775808 ≤ v) (hv1 : v ≤ 9223372036854775807) (hb : Below w.heap.size w w') : NumIs l w (.returned (.tuple #[.int .i64 v, .bool true])) w' :=
  ⟨⟨v, by rw [h]; rfl, fun x hx => by rw [h] at hx; injection hx, hv0, hv1⟩, hb⟩
theorem numIs_none {l : List UInt8} {w w' : World} {v : Int} (h : numOf l = none) (hv0 : -9223372036854775808 ≤ v) (hv1 : v ≤ 9223372036854775807) (hb : Below w.heap.size w w') : NumIs l w (.returned (.tuple #[.int .i64 v, .bool false])) w' :=
  ⟨⟨v, by rw [h]; rfl, (fun x hx => by rw [h] at hx; cases hx), hv0, hv1⟩, hb⟩

set_option maxHeartbeats 1000000 in
theorem preadnumber_is (l : List UInt8) (w : World) (hs : l.length ≤ 65536) (hE : Env w) : Calls Tryd.prog 39 #[.string (mkS l)] w (NumIs l w) := by
  have hz : (mkS l).size ≤ 100000 := by rw [mkS_size]; omega
  have HE := Lib.hid hE; clear hE
  by_cases h : ∃ v, Lib.atoiAll l = .ok v
  · obtain ⟨v, hv⟩ := h
    have hbd := Lib.atoiAll_bounds hv
    obtain ⟨hv0, hv1⟩ := hbd
    by_cases hi : Lib.itoa v = l
    · have hn : numOf l = some v := by
        rw [← hi]; exact numOf_itoa v hv0 hv1
      have HV := Lib.hid hv; clear hv
      have HN := Lib.hid hn; clear hn
      have hq : ((mkS (Lib.itoa v)).toList == (mkS l).toList) = true := by rw [beq_mkS]; exact decide_eq_true hi
      have hq2 : (mkS (Lib.itoa v)).toList = (mkS l).toList := by simpa using hq
      have HI := Lib.hid hi; clear hi
      go_enter Tryd.func39, Tryd.ntmps39
      go_wp2_with fail
      refine (atoi_ok _ _ hz v HV.out).mono ?_
      rintro e w1 ⟨rfl, hb1⟩
      have hE1 := Lib.hid (HE.out.below hb1)
      have HB1 := Lib.hid hb1; clear hb1
      have HQ2 := Lib.hid hq2; clear hq2
      go_wp2_with (go_at_call 41; refine (itoa_is v _ hv0 hv1 hE1.out).mono ?_; rintro e w2 ⟨rfl, hb2⟩)
      go_ret2
      exact numIs_some HN.out hv0 hv1 (HB1.out.trans (hb2.mono HB1.out.size))
    · have hn : numOf l = none := by
        cases hh : numOf l with
        | none => rfl
        | some x =>
          obtain ⟨a, b, _⟩ := numOf_some hh
          rw [hv] at b
          injection b with b
          rw [b] at hi
          exact absurd a hi
      have HV := Lib.hid hv; clear hv
      have HN := Lib.hid hn; clear hn
      have hq : ((mkS (Lib.itoa v)).toList == (mkS l).toList) = false := by rw [beq_mkS]; exact decide_eq_false hi
      have HI := Lib.hid hi; clear hi
      go_enter Tryd.func39, Tryd.ntmps39
      go_wp2_with fail
      refine (atoi_ok _ _ hz v HV.out).mono ?_
      rintro e w1 ⟨rfl, hb1⟩
      have hE1 := Lib.hid (HE.out.below hb1)
      have HB1 := Lib.hid hb1; clear hb1
      go_wp2_with (go_at_call 41; refine (itoa_is v _ hv0 hv1 hE1.out).mono ?_; rintro e w2 ⟨rfl, hb2⟩)
      go_ret2
      exact numIs_none HN.out hv0 hv1 (HB1.out.trans (hb2.mono HB1.out.size))
  · have hn : numOf l = none := by
      cases hh : numOf l with
      | none => rfl
      | some x => exact absurd ⟨x, (numOf_some hh).2.1⟩ h
    have HN := Lib.hid hn; clear hn
    have HA := Lib.hid (fun v hv => h ⟨v, hv⟩ : ∀ v, Lib.atoiAll l ≠ .ok v); clear h
    go_enter Tryd.func39, Tryd.ntmps39
    go_wp2_with fail
    refine (atoi_no _ _ hz HA.out HE.out).mono ?_
    rintro e w1 ⟨⟨n, a, rfl, hn0, hn1⟩, hb1⟩
    have HB1 := Lib.hid hb1; clear hb1
    go_wp2
    go_ret2
    exact numIs_none HN.out hn0 hn1 HB1.out
end Go.Proofs.YtghllfihmmlcnaaDoor
