/- The first sentence of layer 24's statements: a script is read. -/
import Derived.Test.YtghllfihmmlcnaaDoorScrQ
namespace Go.Proofs.YtghllfihmmlcnaaDoor
open Go.RowKit Nam YtghllfihmmlcnaaDoorW.PrintWords

theorem itoa_1 : Lib.itoa 1 = [49] := by rw [show (1 : Int) = ((1 : Nat) : Int) from rfl, Lib.itoa_nonneg, Lib.decDigits_one (by decide)]; rfl
theorem itoa_3 : Lib.itoa 3 = [51] := by rw [show (3 : Int) = ((3 : Nat) : Int) from rfl, Lib.itoa_nonneg, Lib.decDigits_one (by decide)]; rfl
theorem itoa_7 : Lib.itoa 7 = [55] := by rw [show (7 : Int) = ((7 : Nat) : Int) from rfl, Lib.itoa_nonneg, Lib.decDigits_one (by decide)]; rfl
theorem itoa_16 : Lib.itoa 16 = [49, 54] := by rw [show (16 : Int) = ((16 : Nat) : Int) from rfl, Lib.itoa_nonneg, decDigits_big (by decide), Lib.decDigits_one (by decide)]; rfl
theorem itoa_99 : Lib.itoa 99 = [57, 57] := by rw [show (99 : Int) = ((99 : Nat) : Int) from rfl, Lib.itoa_nonneg, decDigits_big (by decide), Lib.decDigits_one (by decide)]; rfl
theorem itoa_999 : Lib.itoa 999 = [57, 57, 57] := by rw [show (999 : Int) = ((999 : Nat) : Int) from rfl, Lib.itoa_nonneg, decDigits_big (by decide), decDigits_big (by decide), Lib.decDigits_one (by decide)]; rfl

def makeAbc : Ch := { bareC 1 with bk := [97, 98, 99] }
def crash3 : Ch := { bareC 18 with a := 3 }
def awakeT : List UInt8 := [97, 114, 114, 97, 121, 32, 49, 32, 49, 32, 49, 54, 32, 57, 57, 57, 10, 109, 97, 107, 101, 32, 54, 49, 54, 50, 54, 51, 10, 99, 114, 97, 115, 104, 32, 51, 10]
theorem text_abc : textC makeAbc = some [109, 97, 107, 101, 32, 54, 49, 54, 50, 54, 51] := by decide
theorem text_crash : textC crash3 = some [99, 114, 97, 115, 104, 32, 51] := by
  unfold textC
  rw [if_neg (by decide), if_pos (by decide)]
  have : lineC crash3 (formC crash3.d).2 = 32 :: Lib.itoa 3 := by
    show lineC crash3 [4] = _
    unfold lineC
    simp [wordC, crash3]
  rw [this, itoa_3]
  rfl
theorem print_awake : printC [1, 1, 16, 999] [makeAbc, crash3] = (awakeT, 0) := by
  have h1 : headC [1, 1, 16, 999] = [97, 114, 114, 97, 121, 32, 49, 32, 49, 32, 49, 54, 32, 57, 57, 57, 10] := by
    unfold headC numsB
    simp [itoa_1, itoa_16, itoa_999]
  have h2 : bodyC [makeAbc, crash3] = [109, 97, 107, 101, 32, 54, 49, 54, 50, 54, 51, 10, 99, 114, 97, 115, 104, 32, 51, 10] := by
    unfold bodyC
    simp [text_abc, text_crash]
  unfold printC
  rw [h1, h2]
  simp [text_abc, text_crash, awakeT]
theorem parse_awake : parseC awakeT = ⟨[1, 1, 16, 999], [makeAbc, crash3], 0, 0⟩ := by
  have h := parse_print 1 1 16 999 [makeAbc, crash3] (by decide) (fun x hx => by
    simp only [List.mem_cons, List.not_mem_nil, or_false] at hx
    rcases hx with rfl | rfl
    · exact ⟨by decide, by decide, by decide, by decide, by decide, by decide, by decide, by decide, by decide, by decide⟩
    · exact ⟨by decide, by decide, by decide, by decide, by decide, by decide, by decide, by decide, by decide, by decide⟩) (by rw [print_awake])
  rw [print_awake] at h
  exact h.1

set_option maxHeartbeats 1000000 in
set_option maxRecDepth 100000 in
theorem awake_is (w : World) (hE : Env w) : Calls Tryd.prog 8 #[] w fun e w' => e = .returned (.bool true) ∧ Below w.heap.size w w' := by
  have HE := Lib.hid hE; clear hE
  have HP : Hid (∀ W, Below w.heap.size w W → Calls Tryd.prog 11 #[.string (mkS awakeT)] W fun e w' => (∃ g c, e = .returned (.tuple #[.agg #[.int .i64 1, .int .i64 1, .int .i64 16], .int .i64 999, .slice (some ⟨g, 0, none⟩) 2 c, .int .i64 0, .int .i64 0]) ∧ g < w'.heap.size ∧ w'.cell? ⟨g, 1, none⟩ = some (.string ⟨#[97, 98, 99]⟩) ∧ w'.cell? ⟨g, 15, none⟩ = some (.int .i64 3)) ∧ Below W.heap.size W w') := fun W hW => by
    refine (parse_is awakeT W (by decide) (by decide) (HE.out.below hW)).mono ?_
    rintro e w' ⟨⟨k, m, b, o, v, rfl, hh, hN, _⟩, hb⟩
    rw [parse_awake] at hh hN ⊢
    obtain ⟨g, c, rfl, _, hg, _⟩ := Kd.N_form hN (by decide)
    have hC := (Kd.N_reads' hN).2.2
    simp only [List.cons.injEq, and_true] at hh
    obtain ⟨rfl, rfl, rfl, rfl⟩ := hh
    obtain ⟨ad, A3, c3, hA, _, h1⟩ := at_Ch hC 0 (by decide)
    injection hA with hA
    subst hA
    obtain ⟨ad, A4, c4, hA, _, h2⟩ := at_Ch hC 1 (by decide)
    injection hA with hA
    subst hA
    exact ⟨⟨g, c, rfl, hg, h1 1 _ rfl, h2 5 _ rfl⟩, hb⟩
  go_enter Tryd.func8, Tryd.ntmps8
  go_wp2_with fail
  refine (HP.out _ (Below.refl _ _)).mono ?_
  rintro e w2 ⟨⟨g, c, rfl, hg, h1, h2⟩, hB2⟩
  have c1 : ∀ ob, (w2.alloc ob).cell? ⟨g, 1, none⟩ = some (.string ⟨#[97, 98, 99]⟩) := fun ob => by rw [World.cell?_alloc_lt _ _ _ hg]; exact h1
  have c2 : ∀ ob, (w2.alloc ob).cell? ⟨g, 15, none⟩ = some (.int .i64 3) := fun ob => by rw [World.cell?_alloc_lt _ _ _ hg]; exact h2
  have HB2 := Lib.hid hB2; clear hB2
  go_wp2_with fail
  go_ret
  exact ⟨rfl, HB2.out.alloc HB2.out.size _⟩
end Go.Proofs.YtghllfihmmlcnaaDoor
