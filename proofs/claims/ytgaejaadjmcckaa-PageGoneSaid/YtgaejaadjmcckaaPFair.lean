/- Layer 8's small words: is a row of entries fair? -/
import Derived.Test.YtgaejaadjmcckaaPSame
namespace Go.Proofs.Ytgaejaadjmcckaa
open Go.Shelf Go.RowKit Go.Lib

/-- What a fair entry is, beside the first k of the row. -/
structure FairAt (l : List Ent) (i k : Nat) : Prop where
  apart : ∀ j, j < k → j ≠ i → (l.getD j default).key = (l.getD i default).key → (l.getD j default).id ≠ (l.getD i default).id

/-- Is it the greatest of its key, beside the first k? -/
def MostAt (l : List Ent) (i k : Nat) : Prop := ∀ j, j < k → j ≠ i → (l.getD j default).key = (l.getD i default).key → (l.getD j default).id < (l.getD i default).id

structure FairI (l : List Ent) (i : Nat) : Prop where
  key : (l.getD i default).key ≠ ⟨#[]⟩
  id : 0 ≤ (l.getD i default).id
  apart : FairAt l i l.length
  latest : (l.getD i default).latest = true ↔ MostAt l i l.length

def FairP (l : List Ent) : Prop := ∀ i, i < l.length → FairI l i

set_option maxHeartbeats 4000000 in
set_option maxRecDepth 100000 in
theorem fair_is (l : List Ent) (hl : l.length ≤ 4611686018427387904) (v : Value) (w : World) (h : RowE w v l) :
    Calls Try.prog 10 #[v] w fun e w' => ∃ b, e = .returned (.bool b) ∧ (b = true → FairP l) ∧ ∃ q, w' = w.drewN q := by
  obtain ⟨p, c, rfl, hp⟩ := len_of_row h
  clear h
  have HP := Lib.hid hp; clear hp
  go_enter Try.func10, Try.ntmps10
  go_wp2_with fail
  go_loopw [3] (fun v wr => ∃ i q : Nat, v = .int .i64 i ∧ i ≤ l.length ∧ wr = w.drewN q ∧ Hid (∀ j, j < i → FairI l j)) (fun v _ => l.length - (intOf v).toNat)
  case atStart => exact ⟨0, 0, rfl, Nat.zero_le _, rfl, fun j hj => by omega⟩
  case round =>
    obtain ⟨i, q, rfl, hi, rfl, HF⟩ := hrel
    by_cases hpi : i < l.length
    · have hpz : (i : Int) < (l.length : Int) := by omega
      obtain ⟨b, o, rfl, _, hc⟩ := HP.out (by omega)
      have HC := Lib.hid hc; clear hc
      obtain ⟨a0, a1, _, _, _, a5⟩ := at_of HC.out i hpi
      obtain ⟨x, hx⟩ : ∃ x, l[i] = x := ⟨_, rfl⟩
      have hxg : l.getD i default = x := by rw [← hx, List.getD_eq_getElem?_getD, List.getElem?_eq_getElem hpi]; rfl
      rw [hx] at a0 a1 a5
      have HX := Lib.hid hxg; clear hx hxg
      by_cases hk : x.key.toList = []
      · have hke : x.key.toList.isEmpty = true := by rw [hk]; rfl
        have hkb : (x.key.toList == []) = true := by rw [hk]; rfl
        have HK := Lib.hid hk; clear hk
        go_wp2_with fail
        go_ret
        exact ⟨false, rfl, fun h => (by cases h), _, rfl⟩
      · have hke : x.key.toList.isEmpty = false := by simpa using hk
        have hkb : (x.key.toList == []) = false := by simpa using hk
        have HK := Lib.hid hk; clear hk
        by_cases hid0 : x.id < 0
        · go_wp2_with fail
          go_ret
          exact ⟨false, rfl, fun h => (by cases h), _, rfl⟩
        · have hid1 : 0 ≤ x.id := by omega
          go_wp2_with fail
          go_loopw [4, 5] (fun v1 v2 wr => ∃ (k q : Nat) (mb : Bool), v1 = .bool mb ∧ v2 = .int .i64 k ∧ k ≤ l.length ∧ wr = w.drewN q ∧ Hid (FairAt l i k) ∧ Hid (mb = true ↔ MostAt l i k)) (fun _ v _ => l.length - (intOf v).toNat)
          case atStart => exact ⟨0, q, true, rfl, rfl, Nat.zero_le _, rfl, ⟨fun j hj => by omega⟩, ⟨fun _ j hj => by omega, fun _ => rfl⟩⟩
          case round =>
            obtain ⟨k, q2, mb, rfl, rfl, hkl, rfl, HA, HM⟩ := hrel
            by_cases hpk : k < l.length
            · have hpkz : (k : Int) < (l.length : Int) := by omega
              obtain ⟨b0, b1, _, _, _, _⟩ := at_of HC.out k hpk
              obtain ⟨y, hy⟩ : ∃ y, l[k] = y := ⟨_, rfl⟩
              have hyg : l.getD k default = y := by rw [← hy, List.getD_eq_getElem?_getD, List.getElem?_eq_getElem hpk]; rfl
              rw [hy] at b0 b1
              have HY := Lib.hid hyg; clear hy hyg
              by_cases hki : k = i
              · have hbb : ((k : Int) != (i : Int)) = false := by simp [hki]
                have HA2 : Hid (FairAt l i (k + 1)) := ⟨fun j hj hji => HA.out.apart j (by omega) hji⟩
                have HM2 : Hid (mb = true ↔ MostAt l i (k + 1)) := HM.out.trans ⟨fun h j hj hji => h j (by omega) hji, fun h j hj hji => h j (by omega) hji⟩
                have HKI := Lib.hid hki; clear hki
                go_wp2_with fail
                go_quiet (fail)
                go_wp2
                go_roundw
                case rel => exact ⟨k + 1, q2 + nq, mb, rfl, by go_num, by omega, by first | rfl | rw [World.drewN_drewN], HA2, HM2⟩
                case measure => simp [intOf]; omega
              · have hbb : ((k : Int) != (i : Int)) = true := by simp; omega
                by_cases hkk : y.key = x.key
                · have hkt : (y.key.toList == x.key.toList) = true := by rw [hkk]; simp
                  by_cases hii : y.id = x.id
                  · have hit : (y.id == x.id) = true := by rw [hii]; simp
                    have HKK := Lib.hid hkk; clear hkk
                    have HII := Lib.hid hii; clear hii
                    go_wp2_with fail
                    go_quiet (fail)
                    go_wp2_with fail
                    go_quiet (fail)
                    go_wp2
                    go_ret
                    exact ⟨false, rfl, fun h => (by cases h), _, by rw [World.drewN_drewN, World.drewN_drewN]⟩
                  · have hit : (y.id == x.id) = false := by simpa using hii
                    have HA2 : Hid (FairAt l i (k + 1)) := ⟨fun j hj hji he => by
                      by_cases c : j = k
                      · subst c; rw [HX.out, HY.out]; exact hii
                      · exact HA.out.apart j (by omega) hji he⟩
                    have HM2 : Hid ((mb && decide (y.id < x.id)) = true ↔ MostAt l i (k + 1)) := by
                      show _ ↔ _
                      rw [Bool.and_eq_true, HM.out, decide_eq_true_eq]
                      constructor
                      · rintro ⟨h1, h2⟩ j hj hji he
                        by_cases c : j = k
                        · subst c; rw [HX.out, HY.out]; exact h2
                        · exact h1 j (by omega) hji he
                      · intro h
                        refine ⟨fun j hj hji he => h j (by omega) hji he, ?_⟩
                        have := h k (by omega) hki (by rw [HX.out, HY.out]; exact hkk)
                        rwa [HX.out, HY.out] at this
                    have HKK := Lib.hid hkk; clear hkk
                    have HII := Lib.hid hii; clear hii
                    cases mb
                    all_goals
                      go_wp2_with fail
                      go_quiet (fail)
                      go_wp2_with fail
                      go_quiet (fail)
                      go_wp2_with fail
                      go_quiet (fail)
                      go_wp2
                      go_roundw
                      case rel => exact ⟨k + 1, _, _, rfl, by go_num, by omega, by first | rfl | rw [World.drewN_drewN, World.drewN_drewN, World.drewN_drewN], HA2, (by refine (show _ ↔ _ from ?_); have h0 := HM2.out; simpa using h0)⟩
                      case measure => simp [intOf]; omega
                · have hkt : (y.key.toList == x.key.toList) = false := by
                    rw [beq_eq_false_iff_ne]; exact fun h => hkk (list_inj_data h)
                  have HA2 : Hid (FairAt l i (k + 1)) := ⟨fun j hj hji he => by
                    by_cases c : j = k
                    · subst c; rw [HX.out, HY.out] at he; exact absurd he hkk
                    · exact HA.out.apart j (by omega) hji he⟩
                  have HM2 : Hid (mb = true ↔ MostAt l i (k + 1)) := HM.out.trans ⟨fun h j hj hji he => by
                    by_cases c : j = k
                    · subst c; rw [HX.out, HY.out] at he; exact absurd he hkk
                    · exact h j (by omega) hji he, fun h j hj hji => h j (by omega) hji⟩
                  have HKK := Lib.hid hkk; clear hkk
                  go_wp2_with fail
                  go_quiet (fail)
                  go_wp2
                  go_roundw
                  case rel => exact ⟨k + 1, q2 + nq, mb, rfl, by go_num, by omega, by first | rfl | rw [World.drewN_drewN], HA2, HM2⟩
                  case measure => simp [intOf]; omega
            · have hpkz : (l.length : Int) ≤ (k : Int) := by omega
              have hke2 : k = l.length := by omega
              have HKE := Lib.hid hke2; clear hke2
              obtain ⟨la, hla⟩ : ∃ la, x.latest = la := ⟨_, rfl⟩
              rw [hla] at a5
              have HLA := Lib.hid hla; clear hla
              have HF2 : Hid (mb = la → ∀ j, j < i + 1 → FairI l j) := by
                intro hml j hj
                by_cases c : j = i
                · subst c
                  have hm := HM.out
                  have ha := HA.out
                  rw [HKE.out] at hm ha
                  refine ⟨?_, by rw [HX.out]; exact hid1, ha, by rw [HX.out, HLA.out, ← hml]; exact hm⟩
                  rw [HX.out]
                  intro h
                  exact HK.out (by rw [h, ByteArray.toList_eq])
                · exact HF.out j (by omega)
              clear HM HA HF HX
              cases mb <;> cases la
              case false.false | true.true =>
                have HF3 := Lib.hid (HF2.out rfl)
                clear HF2
                go_wp2
                go_roundw
                case rel => exact ⟨i + 1, q2, by go_num, by omega, rfl, HF3⟩
                case measure => simp [intOf]; omega
              case false.true | true.false =>
                clear HF2
                go_wp2
                go_ret
                exact ⟨false, rfl, fun h => (by cases h), _, rfl⟩
    · have hpz : (l.length : Int) ≤ (i : Int) := by omega
      go_wp2
      go_ret
      exact ⟨true, rfl, fun _ j hj => HF.out j (by omega), _, rfl⟩
end Go.Proofs.Ytgaejaadjmcckaa
