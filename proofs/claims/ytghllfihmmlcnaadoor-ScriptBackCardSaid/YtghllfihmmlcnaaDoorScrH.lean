/- set of package script. -/
import Derived.Test.YtghllfihmmlcnaaDoorScrG
namespace Go.Proofs.YtghllfihmmlcnaaDoor
open Go.RowKit Nam YtghllfihmmlcnaaDoorW.PrintWords

theorem setC_text {x : Ch} {s : List UInt8} {f : Nat} {y : Ch} (h : setC x f s = if (readB s).2 then some y else none) : (setC x f s).isSome = (readB s).2 ∧ ∀ z, setC x f s = some z → y = z := by
  rw [h]
  cases (readB s).2
  · exact ⟨rfl, fun z hz => by simp at hz⟩
  · exact ⟨rfl, fun z hz => by simpa using hz⟩

set_option maxHeartbeats 4000000 in
theorem set_is (x : Ch) (f : Nat) (hf : f ≤ 8) (s : List UInt8) (g : Nat) (P : Nat → Prop) (w : World) (hb : Box w g P x) (hs : s.length ≤ 65536) (hP : ∀ k, w.heap.size ≤ k → P k) (hE : Env w) :
    Calls Tryd.prog 29 #[.pointer (some ⟨g, 0, none⟩), .int .i64 f, .string (mkS s)] w (SetIs x f s w g P) := by
  have HP := Lib.hid hP; clear hP
  have hle := readB_le s
  obtain ⟨t, b, hr⟩ : ∃ t b, readB s = (t, b) := ⟨_, _, rfl⟩
  have htx : ∀ y : Ch, setC x f s = (if (readB s).2 then some y else none) → (setC x f s).isSome = b ∧ ∀ z, setC x f s = some z → y = z := fun y hy => by
    have := setC_text hy
    rw [hr] at this
    exact this
  rw [hr] at hle
  simp only [] at hle
  have HTX := Lib.hid htx; clear htx
  have HR := Lib.hid hr; clear hr
  have HE := Lib.hid hE; clear hE
  have HBX := Lib.hid hb
  obtain ⟨v, hblk, hdt⟩ := hb
  have hgl : g < w.heap.size := blk_lt hblk
  have HBL := Lib.hid hblk; clear hblk
  have HD := Lib.hid hdt; clear hdt
  by_cases hnum : f = 3 ∨ f = 4 ∨ f = 7 ∨ f = 8
  · have HCT := fun w1 (hb1 : Below w.heap.size w w1) => count_is x f hnum s g P w1 ⟨v, blk_below HBL.out hb1, Kd.V_below HD.out hb1⟩ hs (HE.out.below hb1)
    have HC := Lib.hid HCT; clear HCT
    have h3 : (f : Int) ≠ 0 ∧ (f : Int) ≠ 1 ∧ (f : Int) ≠ 2 ∧ (f : Int) ≠ 5 ∧ (f : Int) ≠ 6 := by omega
    obtain ⟨q0, q1, q2, q5, q6⟩ := h3
    have b0 : ((f : Int) == 0) = false := beq_eq_false_iff_ne.2 q0
    have b1 : ((f : Int) == 1) = false := beq_eq_false_iff_ne.2 q1
    have b2 : ((f : Int) == 2) = false := beq_eq_false_iff_ne.2 q2
    have b5 : ((f : Int) == 5) = false := beq_eq_false_iff_ne.2 q5
    have b6 : ((f : Int) == 6) = false := beq_eq_false_iff_ne.2 q6
    clear q0 q1 q2 q5 q6 hnum
    go_enter Tryd.func29, Tryd.ntmps29
    go_wp2_with fail
    refine (preadtext_is s _ hs).mono ?_
    rintro e w1 ⟨rfl, hb1⟩
    have HB1 := Lib.hid hb1; clear hb1
    go_wp2_with fail
    refine (HC.out _ HB1.out).mono ?_
    rintro e w2 ⟨y, rfl, hy, hbox, hg2, hok⟩
    have HY := Lib.hid hy; clear hy
    have HBo := Lib.hid hbox; clear hbox
    have HOK := Lib.hid hok; clear hok
    go_wp2
    go_ret
    exact ⟨y, rfl, HY.out, HBo.out, ⟨hg2.os.trans HB1.out.os, hg2.tape.trans HB1.out.tape, hg2.output.trans HB1.out.output, Nat.le_trans HB1.out.size hg2.size, fun k hk hne => (hg2.block k (Nat.lt_of_lt_of_le hk HB1.out.size) hne).trans (HB1.out.block k hk)⟩, HOK.out⟩
  · by_cases h2 : f = 2
    · subst h2
      clear hnum hf
      have kb := fun W => print_bytes (P := Tryd.prog) 9 35 5 Tryd.underlying9 Tryd.underlying35 Tryd.underlying5 (mkS t) W
      go_enter Tryd.func29, Tryd.ntmps29
      go_wp2_with fail
      refine (preadtext_is s _ hs).mono ?_
      rintro e w1 ⟨rfl, hb1⟩
      rw [HR.out]
      simp only []
      have hbw : Below w.heap.size w (Lib.bytesWorld w1 5 (mkS t)) := bytes_below hb1 hb1.size _ _
      have hbk := blk_below HBL.out hbw
      have c3 := (blk_cell hbk 3).trans (rfl : _ = some v)
      have f3 := blk_frozen hbk 3
      have HBK := Lib.hid hbk; clear hbk
      have hge := grownCap_ge w1 (mkS t).size 0 5
      have HGE := Lib.hid hge; clear hge
      have hsz1 := hb1.size
      have HB1 := Lib.hid hb1; clear hb1
      have HBW := Lib.hid hbw; clear hbw
      go_wp2
      go_ret
      have h := HTX.out { x with dt := t } (by simp only [setC, HR.out])
      refine ⟨{ x with dt := t }, by rw [h.1]; rfl, h.2, ⟨.slice (some ⟨w1.heap.size, 0, none⟩) (mkS t).size (grownCap w1 (mkS t).size 0 5), ?_, ?_⟩, grown_set HBW.out g 3 _, fun m h1 h2 => { h1 with dt := Nat.le_trans hle h2 }⟩
      · exact blk_put HBK.out 3 _ rfl
      · refine Kd.V_far (p := ⟨g, 3, none⟩) ?_ (fun _ hk => hk.2) _
        have hge := HGE.out
        rw [mkS_size] at hge ⊢
        exact bytes_V w1 t _ (by omega) _ hge ⟨HP.out _ hsz1, by omega⟩
    · have hf' : f = 0 ∨ f = 1 ∨ f = 5 ∨ f = 6 := by omega
      clear hnum h2 hf
      rcases hf' with rfl | rfl | rfl | rfl
      all_goals
        go_enter Tryd.func29, Tryd.ntmps29
        go_wp2_with fail
        refine (preadtext_is s _ hs).mono ?_
        rintro e w1 ⟨rfl, hb1⟩
        rw [HR.out]
        simp only []
        have hbk := blk_below HBL.out hb1
        have c1 := (blk_cell hbk 1).trans (rfl : _ = some (Value.string (mkS x.bk)))
        have c2 := (blk_cell hbk 2).trans (rfl : _ = some (Value.string (mkS x.ky)))
        have c6 := (blk_cell hbk 6).trans (rfl : _ = some (Value.string (mkS x.pf)))
        have c7 := (blk_cell hbk 7).trans (rfl : _ = some (Value.string (mkS x.fr)))
        have f1 := blk_frozen hbk 1
        have f2 := blk_frozen hbk 2
        have f6 := blk_frozen hbk 6
        have f7 := blk_frozen hbk 7
        have HB1 := Lib.hid hb1; clear hb1 hbk
        go_wp2
        go_ret
      · have h := HTX.out { x with bk := t } (by simp only [setC, HR.out])
        exact ⟨{ x with bk := t }, by rw [h.1]; rfl, h.2, box_set HB1.out HBL.out HD.out 1 _ rfl rfl, grown_set HB1.out g 1 _, fun m h1 h2 => { h1 with bk := Nat.le_trans hle h2 }⟩
      · have h := HTX.out { x with ky := t } (by simp only [setC, HR.out])
        exact ⟨{ x with ky := t }, by rw [h.1]; rfl, h.2, box_set HB1.out HBL.out HD.out 2 _ rfl rfl, grown_set HB1.out g 2 _, fun m h1 h2 => { h1 with ky := Nat.le_trans hle h2 }⟩
      · have h := HTX.out { x with pf := t } (by simp only [setC, HR.out])
        exact ⟨{ x with pf := t }, by rw [h.1]; rfl, h.2, box_set HB1.out HBL.out HD.out 6 _ rfl rfl, grown_set HB1.out g 6 _, fun m h1 h2 => { h1 with pf := Nat.le_trans hle h2 }⟩
      · have h := HTX.out { x with fr := t } (by simp only [setC, HR.out])
        exact ⟨{ x with fr := t }, by rw [h.1]; rfl, h.2, box_set HB1.out HBL.out HD.out 7 _ rfl rfl, grown_set HB1.out g 7 _, fun m h1 h2 => { h1 with fr := Nat.le_trans hle h2 }⟩
end Go.Proofs.YtghllfihmmlcnaaDoor
