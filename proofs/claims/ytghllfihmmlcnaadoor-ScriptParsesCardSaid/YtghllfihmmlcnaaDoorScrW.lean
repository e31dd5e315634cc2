/- What the printed functions of the document's side compute: words, lines. -/
import Derived.Test.YtghllfihmmlcnaaDoorScrMA
import Derived.Test.YtghllfihmmlcnaaDoorPScriptParsesx4
namespace Go.Proofs.YtghllfihmmlcnaaDoor
open Nam Go.RowKit PScriptParses YtghllfihmmlcnaaDoorW.PrintWords

theorem words_l0 (s : ByteArray) (hs : s.size ≤ 100000) (d : Nat) : ∀ (k : Nat) (acc : List ByteArray) (a i : Nat), a ≤ i → i ≤ s.size → s.size - i = d → d < k → acc.length ≤ i →
    strongboxref23_words.l0 k s acc a i = some (acc ++ ((splitB 32 (s.data.toList.drop i)).modifyHead ((s.data.toList.drop a).take (i - a) ++ ·)).map mkS) := by
  induction d with
  | zero =>
    intro k acc a i hai hi hd hk hacc
    obtain ⟨k, rfl⟩ : ∃ m, k = m + 1 := ⟨k - 1, by omega⟩
    have hie : i = s.size := by omega
    subst hie
    simp only [strongboxref23_words.l0]
    rw [if_neg (by omega), if_pos (by omega), if_pos (by omega), if_pos (by omega), List.drop_eq_nil_of_le (by simp : s.data.toList.length ≤ s.size), Int.toNat_natCast, extract_mkS]
    simp [splitB]
  | succ d ih =>
    intro k acc a i hai hi hd hk hacc
    obtain ⟨k, rfl⟩ : ∃ m, k = m + 1 := ⟨k - 1, by omega⟩
    have hlt : i < s.size := by omega
    have hw : wrap64 ((i : Int) + 1) = ((i + 1 : Nat) : Int) := by unfold wrap64; omega
    have hdr : s.data.toList.drop i = s[i] :: s.data.toList.drop (i + 1) := by
      rw [List.drop_eq_getElem_cons (by simpa using hlt)]; rfl
    have hbt : bt s (i : Int) = (s[i].toNat : Int) := (bt_at s i (by simpa using hlt)).symm
    simp only [strongboxref23_words.l0]
    rw [if_pos (by omega), if_pos (by omega), hbt, hdr, splitB_step]
    by_cases hc : s[i] = 32
    · rw [if_pos (by rw [hc]; rfl), if_pos (by omega), if_pos (by omega), if_pos (by omega), if_pos (by omega), hw, ih k _ (i + 1) (i + 1) (Nat.le_refl _) (by omega) (by omega) (by omega) (by simp; omega), if_pos hc, Int.toNat_natCast, Int.toNat_natCast, extract_mkS]
      simp only [Nat.sub_self, List.take_zero, List.map_cons, List.append_assoc, List.singleton_append]
      rw [modifyHead_nil]
    · have hne : ¬ ((s[i].toNat : Int) = 32) := fun h => hc (UInt8.toNat_inj.1 (show s[i].toNat = 32 by omega))
      rw [if_neg hne, hw, ih k _ a (i + 1) (by omega) (by omega) (by omega) (by omega) (by omega), if_neg hc]
      have e : (s.data.toList.drop a).take (i + 1 - a) = (s.data.toList.drop a).take (i - a) ++ [s[i]] := by
        rw [show i + 1 - a = (i - a) + 1 by omega, List.take_succ_eq_append_getElem (by simp; omega)]
        congr 2
        rw [List.getElem_drop]
        have e0 : a + (i - a) = i := by omega
        simp only [e0]
        rfl
      rw [e]

theorem words_is (s : ByteArray) (hs : s.size ≤ 100000) : strongboxref23_words.f (s.size + 1) s = some ((splitB 32 s.data.toList).map mkS) := by
  have h := words_l0 s hs s.size (s.size + 1) [] 0 0 (Nat.le_refl _) (Nat.zero_le _) (by omega) (by omega) (Nat.zero_le _)
  unfold strongboxref23_words.f
  rw [show (0 : Int) = ((0 : Nat) : Int) from rfl, h]
  simp only [List.nil_append, Nat.sub_self, List.take_zero, List.drop_zero]
  cases splitB 32 s.data.toList <;> rfl

/-- Lines: what stands behind the last break is one only if it is not empty. -/
def finL : List (List UInt8) → List (List UInt8) × Bool
  | [] => ([], false)
  | [a] => if a = [] then ([], false) else ([a], true)
  | a :: b :: r => (a :: (finL (b :: r)).1, (finL (b :: r)).2)

theorem finL_cons (a : List UInt8) {L : List (List UInt8)} (h : L ≠ []) : finL (a :: L) = (a :: (finL L).1, (finL L).2) := by
  cases L with
  | nil => exact absurd rfl h
  | cons b r => rfl

theorem lines_l0 (s : ByteArray) (hs : s.size ≤ 100000) (d : Nat) : ∀ (k : Nat) (acc : List ByteArray) (a i : Nat), a ≤ i → i ≤ s.size → s.size - i = d → d < k → acc.length ≤ i →
    strongboxref23_lines.l0 k s acc a i = some (acc ++ (finL ((splitB 10 (s.data.toList.drop i)).modifyHead ((s.data.toList.drop a).take (i - a) ++ ·))).1.map mkS, (finL ((splitB 10 (s.data.toList.drop i)).modifyHead ((s.data.toList.drop a).take (i - a) ++ ·))).2) := by
  induction d with
  | zero =>
    intro k acc a i hai hi hd hk hacc
    obtain ⟨k, rfl⟩ : ∃ m, k = m + 1 := ⟨k - 1, by omega⟩
    have hie : i = s.size := by omega
    subst hie
    have e0 : (splitB 10 (s.data.toList.drop s.size)).modifyHead ((s.data.toList.drop a).take (s.size - a) ++ ·) = [(s.data.toList.drop a).take (s.size - a)] := by
      rw [List.drop_eq_nil_of_le (by simp : s.data.toList.length ≤ s.size)]
      simp [splitB]
    rw [e0]
    simp only [strongboxref23_lines.l0]
    rw [if_neg (by omega)]
    by_cases ha : a < s.size
    · have hne : (s.data.toList.drop a).take (s.size - a) ≠ [] := fun h => by
        have := congrArg List.length h
        simp at this
        omega
      rw [if_pos (by omega), if_pos (by omega), if_pos (by omega), if_pos (by omega), Int.toNat_natCast, extract_mkS]
      simp [finL, hne]
    · have he : (s.data.toList.drop a).take (s.size - a) = [] := by rw [show s.size - a = 0 by omega]; rfl
      rw [if_neg (by omega), he]
      simp [finL]
  | succ d ih =>
    intro k acc a i hai hi hd hk hacc
    obtain ⟨k, rfl⟩ : ∃ m, k = m + 1 := ⟨k - 1, by omega⟩
    have hlt : i < s.size := by omega
    have hw : wrap64 ((i : Int) + 1) = ((i + 1 : Nat) : Int) := by unfold wrap64; omega
    have hdr : s.data.toList.drop i = s[i] :: s.data.toList.drop (i + 1) := by
      rw [List.drop_eq_getElem_cons (by simpa using hlt)]; rfl
    have hbt : bt s (i : Int) = (s[i].toNat : Int) := (bt_at s i (by simpa using hlt)).symm
    simp only [strongboxref23_lines.l0]
    rw [if_pos (by omega), if_pos (by omega), hbt, hdr, splitB_step]
    by_cases hc : s[i] = 10
    · rw [if_pos (by rw [hc]; rfl), if_pos (by omega), if_pos (by omega), if_pos (by omega), if_pos (by omega), hw, ih k _ (i + 1) (i + 1) (Nat.le_refl _) (by omega) (by omega) (by omega) (by simp; omega), if_pos hc, Int.toNat_natCast, Int.toNat_natCast, extract_mkS, finL_cons _ (splitB_ne _ _)]
      simp only [Nat.sub_self, List.take_zero, List.map_cons, List.append_assoc, List.singleton_append]
      rw [modifyHead_nil]
    · have hne : ¬ ((s[i].toNat : Int) = 10) := fun h => hc (UInt8.toNat_inj.1 (show s[i].toNat = 10 by omega))
      rw [if_neg hne, hw, ih k _ a (i + 1) (by omega) (by omega) (by omega) (by omega) (by omega), if_neg hc]
      have e : (s.data.toList.drop a).take (i + 1 - a) = (s.data.toList.drop a).take (i - a) ++ [s[i]] := by
        rw [show i + 1 - a = (i - a) + 1 by omega, List.take_succ_eq_append_getElem (by simp; omega)]
        congr 2
        rw [List.getElem_drop]
        have e0 : a + (i - a) = i := by omega
        simp only [e0]
        rfl
      rw [e]

theorem lines_is (s : ByteArray) (hs : s.size ≤ 100000) : strongboxref23_lines.f (s.size + 1) s = some ((finL (splitB 10 s.data.toList)).1.map mkS, (finL (splitB 10 s.data.toList)).2) := by
  have h := lines_l0 s hs s.size (s.size + 1) [] 0 0 (Nat.le_refl _) (Nat.zero_le _) (by omega) (by omega) (Nat.zero_le _)
  unfold strongboxref23_lines.f
  rw [show (0 : Int) = ((0 : Nat) : Int) from rfl, h]
  have e : (splitB 10 (s.data.toList.drop 0)).modifyHead ((s.data.toList.drop 0).take (0 - 0) ++ ·) = splitB 10 s.data.toList := by
    rw [List.drop_zero]
    cases splitB 10 s.data.toList <;> rfl
  rw [e]
  rfl
end Go.Proofs.YtghllfihmmlcnaaDoor
