/- The stable sort's parts over an array and a strict weak order: rotation by exchanges, the symmetric merge. Plain laws: no program is in sight. -/
import Derived.Sort.LotA
import Derived.Sort.Lot0
namespace Go.Proofs.Ytgaejaadjmcckaa.Srt
open Go.Sort
variable {α : Type}

/-- Two rows of n places exchanged. -/
def swapF (a b n : Nat) (f : Nat → α) (i : Nat) : α := if a ≤ i ∧ i < a + n then f (i - a + b) else if b ≤ i ∧ i < b + n then f (i - b + a) else f i
/-- [a, m) and [m, b) the other way round. -/
def rotF (a m b : Nat) (f : Nat → α) (i : Nat) : α := if i < a ∨ b ≤ i then f i else if i < a + (b - m) then f (i + (m - a)) else f (i - (b - m))

theorem swapF_zero (a b : Nat) (f : Nat → α) (i : Nat) : swapF a b 0 f i = f i := by
  unfold swapF
  rw [if_neg (by omega), if_neg (by omega)]
theorem swapF_step (a b n : Nat) (f : Nat → α) (hd : a + n < b ∨ b + n < a) (i : Nat) :
    (if i = a + n then swapF a b n f (b + n) else if i = b + n then swapF a b n f (a + n) else swapF a b n f i) = swapF a b (n + 1) f i := by
  unfold swapF
  repeat' split
  all_goals first | rfl | (exfalso; omega) | (congr 1; omega)

/-- One step of the rotation, the left side the longer. -/
theorem rot_left (m i j : Nat) (hj : 0 < j) (hij : j < i) (him : i ≤ m) (f : Nat → α) (k : Nat) :
    rotF (m - i) m (m + j) f k = rotF (m - (i - j)) m (m + j) (swapF (m - i) m j f) k := by
  unfold rotF swapF
  repeat' split
  all_goals first | rfl | (exfalso; omega) | (congr 1; omega)
/-- .. the right side the longer. -/
theorem rot_right (m i j : Nat) (hi : 0 < i) (hij : i < j) (him : i ≤ m) (f : Nat → α) (k : Nat) :
    rotF (m - i) m (m + j) f k = rotF (m - i) m (m + (j - i)) (swapF (m - i) (m + j - i) i f) k := by
  unfold rotF swapF
  repeat' split
  all_goals first | rfl | (exfalso; omega) | (congr 1; omega)
theorem rot_even (m i : Nat) (him : i ≤ m) (f : Nat → α) (k : Nat) : rotF (m - i) m (m + i) f k = swapF (m - i) m i f k := by
  unfold rotF swapF
  repeat' split
  all_goals first | rfl | (exfalso; omega) | (congr 1; omega)

section
variable {lt : α → α → Bool}
theorem lt_of_le_lt (hS : SWO lt) {x y z : α} (h1 : lt y x = false) (h2 : lt y z = true) : lt x z = true := by
  cases h : lt x z
  · have := hS.ntrans y x z h1 h
    rw [this] at h2; cases h2
  · rfl
theorem lt_of_lt_le (hS : SWO lt) {x y z : α} (h1 : lt x y = true) (h2 : lt z y = false) : lt x z = true := by
  cases h : lt x z
  · have := hS.ntrans x z y h h2
    rw [this] at h1; cases h1
  · rfl
theorem le_of_lt (hS : SWO lt) {x y : α} (h : lt x y = true) : lt y x = false := hS.asymmA h

variable [Inhabited α]
/-- Two sorted rows, nothing of the second less than anything of the first, make one. -/
theorem sorted_join (a m b : Nat) (d : Array α) (h1 : SortedIn lt a m d) (h2 : SortedIn lt m b d) (hx : ∀ i j, a ≤ i → i < m → m ≤ j → j < b → lt d[j]! d[i]! = false) : SortedIn lt a b d := by
  intro i j hi hij hj
  by_cases c1 : j < m
  · exact h1 i j hi hij c1
  · by_cases c2 : m ≤ i
    · exact h2 i j c2 hij hj
    · exact hx i j hi (by omega) (by omega) hj

/-- What the merge of two halves leaves: each half is a permutation of itself, sorted: the whole is. -/
theorem merge_halves (a m b : Nat) (d d1 d2 : Array α) (ham : a ≤ m) (hmb : m ≤ b) (hb : b ≤ d.size) (hx : ∀ i j, a ≤ i → i < m → m ≤ j → j < b → lt d[j]! d[i]! = false)
    (p1 : PermIn a m d d1) (s1 : SortedIn lt a m d1) (p2 : PermIn m b d1 d2) (s2 : SortedIn lt m b d2) : PermIn a b d d2 ∧ SortedIn lt a b d2 := by
  have q1 : PermIn a b d d1 := permIn_mono d d1 a m a b (Nat.le_refl _) hmb hb p1
  have q2 : PermIn a b d1 d2 := permIn_mono d1 d2 m b a b ham (Nat.le_refl _) (by rw [p1.1]; exact hb) p2
  refine ⟨permIn_trans _ _ _ _ _ q1 q2, ?_⟩
  have e1 : ∀ i, i < m → d2[i]! = d1[i]! := fun i hi => p2.2.1 i (.inl hi)
  refine sorted_join a m b d2 (fun i j hi hij hj => ?_) s2 (fun i j hi him hmj hjb => ?_)
  · rw [e1 i (by omega), e1 j hj]
    exact s1 i j hi hij hj
  · -- d2[i] is some d[i'] of the left, d2[j] some d[j'] of the right
    rw [e1 i him]
    have hL : ∀ k, m ≤ k → k < b → ∀ i, a ≤ i → i < m → lt d[k]! d1[i]! = false := fun k hk hkb =>
      permIn_all d d1 a m (fun x => lt d[k]! x = false) (by omega) p1 (fun i hi him => hx i k hi him hk hkb)
    have hR : ∀ j, m ≤ j → j < b → lt d2[j]! d1[i]! = false :=
      permIn_all d1 d2 m b (fun x => lt x d1[i]! = false) (by rw [p1.1]; exact hb) p2 (fun j hj hjb => by
        rw [p1.2.1 j (.inr hj)]
        exact hL j hj hjb i hi him)
    exact hR j hmj hjb
end
end Go.Proofs.Ytgaejaadjmcckaa.Srt
