/- Layer 8's small words: few entries, fair ones, the same ones. -/
import Derived.Test.YtgaejaadjmcckaaPSort
import Derived.Test.YtgaejaadjmcckaaNamL
namespace Go.Proofs.Ytgaejaadjmcckaa
open Go.Shelf Go.RowKit Go.Lib

/-- The cells of entry i. -/
structure AtE (W : World) (b p : Nat) (e : Ent) : Prop where
  key : W.cell? ⟨b, p, none⟩ = some (.string e.key)
  id : W.cell? ⟨b, p + 1, none⟩ = some (.int .i64 e.id)
  mark : W.cell? ⟨b, p + 2, none⟩ = some (.bool e.mark)
  size : W.cell? ⟨b, p + 3, none⟩ = some (.int .i64 e.size)
  sum : W.cell? ⟨b, p + 4, none⟩ = some (.int .u32 e.sum)
  latest : W.cell? ⟨b, p + 5, none⟩ = some (.bool e.latest)

theorem at_of {W : World} {b o : Nat} {l : List Ent} (hc : ∀ j u, (l.flatMap encE)[j]? = some u → W.cell? ⟨b, o + j, none⟩ = some u) (i : Nat) (hi : i < l.length) : AtE W b (o + i * 6) l[i] := by
  have h : ∀ c, c < 6 → ∀ u, (encE l[i])[c]? = some u → W.cell? ⟨b, o + i * 6 + c, none⟩ = some u := fun c hc6 u hu => by
    rw [Nat.add_assoc]
    refine hc _ _ ?_
    rw [flat_get l i c hi hc6, List.getD_eq_getElem?_getD, List.getElem?_eq_getElem hi]
    exact hu
  exact ⟨h 0 (by omega) _ rfl, h 1 (by omega) _ rfl, h 2 (by omega) _ rfl, h 3 (by omega) _ rfl, h 4 (by omega) _ rfl, h 5 (by omega) _ rfl⟩

def fewB (l : List Ent) : Bool := decide (l.length ≤ 200) && l.all fun e => decide (e.key.size ≤ 500)

set_option maxHeartbeats 1000000 in
theorem few_is (l : List Ent) (hl : l.length ≤ maxLen) (v : Value) (w : World) (h : RowE w v l) : Calls Try.prog 9 #[v] w fun e w' => e = .returned (.bool (fewB l)) ∧ w = w' := by
  unfold maxLen at hl
  rcases h with ⟨rfl, rfl⟩ | ⟨b, o, cap, rfl, hb, hc⟩
  · go_enter Try.func9, Try.ntmps9
    go_wp2_with fail
    refine wp_loop_rounds 1 ?_
    rw [rounds_succ]
    go_wp2
    go_ret
    exact ⟨rfl, rfl⟩
  · by_cases h2 : l.length ≤ 200
    · obtain ⟨R, hR⟩ : ∃ R, (l.all fun e => decide (e.key.size ≤ 500)) = R := ⟨_, rfl⟩
      have hf : fewB l = R := by unfold fewB; rw [decide_eq_true h2, Bool.true_and, hR]
      rw [hf]; clear hf
      have hz : (l.length : Int) ≤ 200 := by omega
      have HC := Lib.hid hc; clear hc
      have HR0 : Hid ((l.drop 0).all (fun e => decide (e.key.size ≤ 500)) = R) := hR
      clear hR
      go_enter Try.func9, Try.ntmps9
      go_wp2_with fail
      go_loop [3] (fun v => ∃ i : Nat, v = .int .i64 i ∧ i ≤ l.length ∧ Hid ((l.drop i).all (fun e => decide (e.key.size ≤ 500)) = R)) (fun v => l.length - (intOf v).toNat)
      case atStart => exact ⟨0, rfl, Nat.zero_le _, HR0⟩
      case round =>
        obtain ⟨i, rfl, hi, HR⟩ := hrel
        by_cases hp : i < l.length
        · have hpz : (i : Int) < (l.length : Int) := by omega
          have at0 := (at_of HC.out i hp).key
          have hd : l.drop i = l[i] :: l.drop (i + 1) := List.drop_eq_getElem_cons hp
          have hr := HR.out
          rw [hd, List.all_cons] at hr
          obtain ⟨x, hx⟩ : ∃ x, l[i].key = x := ⟨_, rfl⟩
          rw [hx] at at0 hr
          clear hd
          by_cases h5 : x.size ≤ 500
          · have h5z : (x.size : Int) ≤ 500 := by omega
            rw [decide_eq_true h5, Bool.true_and] at hr
            have HR2 := Lib.hid hr; clear hr
            have HX := Lib.hid hx; clear hx
            go_wp2
            go_round
            case rel => exact ⟨i + 1, by go_num, by omega, HR2⟩
            case measure => simp [intOf]; omega
          · have h5z : (500 : Int) < (x.size : Int) := by omega
            rw [decide_eq_false h5, Bool.false_and] at hr
            have HR2 := Lib.hid hr; clear hr
            have HX := Lib.hid hx; clear hx
            go_wp2
            go_ret
            exact ⟨congrArg (fun x => Ending.returned (Value.bool x)) HR2.out, rfl⟩
        · have hpz : (l.length : Int) ≤ (i : Int) := by omega
          have hr := HR.out
          rw [List.drop_eq_nil_of_le (by omega)] at hr
          have HR2 : Hid (true = R) := hr
          clear hr
          go_wp2
          go_ret
          exact ⟨congrArg (fun x => Ending.returned (Value.bool x)) HR2.out, rfl⟩
    · have hf : fewB l = false := by unfold fewB; rw [decide_eq_false h2, Bool.false_and]
      rw [hf]; clear hf hc
      have hz : (200 : Int) < (l.length : Int) := by omega
      go_enter Try.func9, Try.ntmps9
      go_wp2
      go_ret
      exact ⟨rfl, rfl⟩
end Go.Proofs.Ytgaejaadjmcckaa
