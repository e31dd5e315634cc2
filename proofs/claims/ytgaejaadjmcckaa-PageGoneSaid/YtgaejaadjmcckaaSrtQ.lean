/- The symmetric merge: plain laws. -/
import Derived.Test.YtgaejaadjmcckaaSrtP
namespace Go.Proofs.Ytgaejaadjmcckaa.Srt
open Go.Sort
variable {α : Type}

/-- Row a goes up by one place more. -/
theorem shift_up (a i : Nat) (hai : a ≤ i) (f : Nat → α) (x : Nat) :
    (if x = i + 1 then rotF a (a + 1) (i + 1) f i else if x = i then rotF a (a + 1) (i + 1) f (i + 1) else rotF a (a + 1) (i + 1) f x) = rotF a (a + 1) (i + 2) f x := by
  unfold rotF
  repeat' split
  all_goals first | rfl | (exfalso; omega) | (congr 1; omega)
theorem rot_one (a : Nat) (f : Nat → α) (x : Nat) : rotF a (a + 1) (a + 1) f x = f x := by
  unfold rotF
  repeat' split
  all_goals first | rfl | (exfalso; omega) | (congr 1; omega)
/-- Row m goes down by one place more. -/
theorem shift_down (m i : Nat) (him : i < m) (f : Nat → α) (x : Nat) :
    (if x = i then rotF (i + 1) m (m + 1) f (i + 1) else if x = i + 1 then rotF (i + 1) m (m + 1) f i else rotF (i + 1) m (m + 1) f x) = rotF i m (m + 1) f x := by
  unfold rotF
  repeat' split
  all_goals first | rfl | (exfalso; omega) | (congr 1; omega)
theorem rot_none (m e : Nat) (f : Nat → α) (x : Nat) : rotF m m e f x = f x := by
  unfold rotF
  repeat' split
  all_goals first | rfl | (exfalso; omega) | (congr 1; omega)
theorem rot_none' (s m : Nat) (f : Nat → α) (x : Nat) : rotF s m m f x = f x := by
  unfold rotF
  repeat' split
  all_goals first | rfl | (exfalso; omega) | (congr 1; omega)

variable [Inhabited α] {lt : α → α → Bool}

/-- One element laid into a sorted row behind it. -/
theorem ins_up (hS : SWO lt) (a b i : Nat) (d d' : Array α) (hai : a + 1 ≤ i) (hib : i ≤ b) (h2 : SortedIn lt (a + 1) b d) (hl : ∀ x, a + 1 ≤ x → x < i → lt d[x]! d[a]! = true) (hg : ∀ x, i ≤ x → x < b → lt d[x]! d[a]! = false)
    (hd : ∀ x, d'[x]! = rotF a (a + 1) i (fun y => d[y]!) x) : SortedIn lt a b d' := by
  intro p q hp hpq hq
  rw [hd p, hd q]
  unfold rotF
  by_cases c1 : i ≤ q
  · rw [if_pos (.inr c1)]
    by_cases c2 : i ≤ p
    · rw [if_pos (.inr c2)]
      exact h2 p q (by omega) hpq hq
    · rw [if_neg (by omega : ¬ (p < a ∨ i ≤ p))]
      by_cases c3 : p < a + (i - (a + 1))
      · rw [if_pos c3]
        exact h2 _ q (by omega) (by omega) hq
      · rw [if_neg c3]
        have e : p - (i - (a + 1)) = a := by omega
        rw [e]
        exact hg q c1 hq
  · rw [if_neg (by omega : ¬ (q < a ∨ i ≤ q)), if_neg (by omega : ¬ (p < a ∨ i ≤ p)), if_pos (by omega : p < a + (i - (a + 1)))]
    by_cases c3 : q < a + (i - (a + 1))
    · rw [if_pos c3]
      exact h2 _ _ (by omega) (by omega) (by omega)
    · rw [if_neg c3]
      have e : q - (i - (a + 1)) = a := by omega
      rw [e]
      exact le_of_lt hS (hl _ (by omega) (by omega))

/-- One element laid into a sorted row ahead of it. -/
theorem ins_down (hS : SWO lt) (a m i : Nat) (d d' : Array α) (hai : a ≤ i) (him : i ≤ m) (h1 : SortedIn lt a m d) (hl : ∀ x, a ≤ x → x < i → lt d[m]! d[x]! = false) (hg : ∀ x, i ≤ x → x < m → lt d[m]! d[x]! = true)
    (hd : ∀ x, d'[x]! = rotF i m (m + 1) (fun y => d[y]!) x) : SortedIn lt a (m + 1) d' := by
  intro p q hp hpq hq
  rw [hd p, hd q]
  unfold rotF
  by_cases c1 : q < i
  · rw [if_pos (.inl c1), if_pos (.inl (by omega : p < i))]
    exact h1 p q hp hpq (by omega)
  · rw [if_neg (by omega : ¬ (q < i ∨ m + 1 ≤ q))]
    by_cases c2 : q < i + (m + 1 - m)
    · have e : q = i := by omega
      subst e
      rw [if_pos c2, if_pos (.inl (by omega : p < q))]
      have e2 : q + (m - q) = m := by omega
      rw [e2]
      exact hl p hp hpq
    · rw [if_neg c2]
      by_cases c3 : p < i
      · rw [if_pos (.inl c3)]
        exact h1 p _ hp (by omega) (by omega)
      · rw [if_neg (by omega : ¬ (p < i ∨ m + 1 ≤ p))]
        by_cases c4 : p < i + (m + 1 - m)
        · rw [if_pos c4]
          have e2 : p + (m - i) = m := by omega
          rw [e2]
          exact le_of_lt hS (hg _ (by omega) (by omega))
        · rw [if_neg c4]
          exact h1 _ _ (by omega) (by omega) (by omega)

/-- What the rotation at the right place leaves: two halves, each of two sorted rows, nothing of the second less than anything of the first. -/
theorem rot_halves (hS : SWO lt) (a m b mid s s0 r0 : Nat) (d d1 : Array α) (ham : a < m) (hmb : m < b) (hmid : mid = (a + b) / 2) (hs0 : s0 = if mid < m then mid + m - b else a) (hr0 : r0 = if mid < m then mid else m)
    (hss : s0 ≤ s) (hsr : s ≤ r0) (h1 : SortedIn lt a m d) (h2 : SortedIn lt m b d)
    (hlo : ∀ x, s0 ≤ x → x < s → lt d[mid + m - 1 - x]! d[x]! = false) (hhi : ∀ x, s ≤ x → x < r0 → lt d[mid + m - 1 - x]! d[x]! = true)
    (hd : ∀ x, d1[x]! = rotF s m (mid + m - s) (fun y => d[y]!) x) :
    a ≤ s ∧ s ≤ m ∧ s ≤ mid ∧ m ≤ mid + m - s ∧ mid + m - s ≤ b ∧ SortedIn lt a s d1 ∧ SortedIn lt s mid d1 ∧ SortedIn lt mid (mid + m - s) d1 ∧ SortedIn lt (mid + m - s) b d1 ∧
      (∀ i j, a ≤ i → i < mid → mid ≤ j → j < b → lt d1[j]! d1[i]! = false) := by
  have b1 : a ≤ s0 ∧ r0 ≤ m ∧ r0 ≤ mid ∧ mid + m - s0 ≤ b := by
    rw [hs0, hr0]
    split <;> omega
  obtain ⟨b2, b3, b4, b5⟩ := b1
  obtain ⟨e, he⟩ : ∃ e, mid + m - s = e := ⟨_, rfl⟩
  have e1 : m ≤ e := by omega
  have e2 : e ≤ b := by omega
  have e3 : s + (e - m) = mid := by omega
  have e4 : mid ≤ e := by omega
  have f1 : ∀ x, x < s → d1[x]! = d[x]! := fun x hx => by rw [hd x]; unfold rotF; rw [if_pos (.inl hx)]
  have f2 : ∀ x, s ≤ x → x < mid → d1[x]! = d[x + (m - s)]! := fun x h1 h2 => by rw [hd x]; unfold rotF; rw [if_neg (by omega), if_pos (by omega)]
  have f3 : ∀ x, mid ≤ x → x < e → d1[x]! = d[x - (e - m)]! := fun x h1 h2 => by
    rw [hd x]; unfold rotF; rw [if_neg (by omega), if_neg (by omega), he]
  have f4 : ∀ x, e ≤ x → d1[x]! = d[x]! := fun x hx => by rw [hd x]; unfold rotF; rw [if_pos (.inr (by omega))]
  rw [he]
  refine ⟨by omega, by omega, by omega, e1, e2, ?_, ?_, ?_, ?_, ?_⟩
  · intro p q hp hpq hq
    rw [f1 p (by omega), f1 q hq]
    exact h1 p q hp hpq (by omega)
  · intro p q hp hpq hq
    rw [f2 p hp (by omega), f2 q (by omega) hq]
    exact h2 _ _ (by omega) (by omega) (by omega)
  · intro p q hp hpq hq
    rw [f3 p hp (by omega), f3 q (by omega) hq]
    exact h1 _ _ (by omega) (by omega) (by omega)
  · intro p q hp hpq hq
    rw [f4 p hp, f4 q (by omega)]
    exact h2 _ _ (by omega) hpq hq
  · intro i j hi him hmj hjb
    by_cases ci : i < s
    · rw [f1 i ci]
      by_cases cj : j < e
      · rw [f3 j hmj cj]
        exact h1 _ _ hi (by omega) (by omega)
      · rw [f4 j (by omega)]
        by_cases cs : s = s0
        · exfalso
          rw [hs0] at cs
          split at cs <;> omega
        · have q1 := hlo (s - 1) (by omega) (by omega)
          have q2 : mid + m - 1 - (s - 1) = e := by omega
          rw [q2] at q1
          have q3 : lt d[s - 1]! d[i]! = false := by
            by_cases c : i = s - 1
            · rw [c]; exact hS.irrefl _
            · exact h1 _ _ hi (by omega) (by omega)
          have q4 : lt d[j]! d[e]! = false := by
            by_cases c : j = e
            · rw [c]; exact hS.irrefl _
            · exact h2 _ _ (by omega) (by omega) hjb
          exact hS.ntrans _ _ _ q4 (hS.ntrans _ _ _ q1 q3)
    · rw [f2 i (by omega) him]
      by_cases cj : j < e
      · rw [f3 j hmj cj]
        by_cases cs : s = r0
        · exfalso
          rw [hr0] at cs
          split at cs <;> omega
        · have q1 := hhi s (by omega) (by omega)
          have q2 : mid + m - 1 - s = e - 1 := by omega
          rw [q2] at q1
          have q1 := le_of_lt hS q1
          have q3 : lt d[e - 1]! d[i + (m - s)]! = false := by
            by_cases c : i + (m - s) = e - 1
            · rw [c]; exact hS.irrefl _
            · exact h2 _ _ (by omega) (by omega) (by omega)
          have q4 : lt d[j - (e - m)]! d[s]! = false := by
            by_cases c : j - (e - m) = s
            · rw [c]; exact hS.irrefl _
            · exact h1 _ _ (by omega) (by omega) (by omega)
          exact hS.ntrans _ _ _ q4 (hS.ntrans _ _ _ q1 q3)
      · rw [f4 j (by omega)]
        exact h2 _ _ (by omega) (by omega) hjb
end Go.Proofs.Ytgaejaadjmcckaa.Srt
