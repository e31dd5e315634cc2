/- The stable sort's blocks: plain laws. -/
import Derived.Test.YtgaejaadjmcckaaSrtQ
namespace Go.Proofs.Ytgaejaadjmcckaa.Srt
open Go.Sort
variable {α : Type} [Inhabited α] {lt : α → α → Bool}

/-- The runs of s places below hi are sorted. -/
def RunsTo (lt : α → α → Bool) (s hi : Nat) (d : Array α) : Prop := ∀ q, q * s + s ≤ hi → SortedIn lt (q * s) (q * s + s) d
/-- Those from lo on are, the last one as long as there is room. -/
def Runs (lt : α → α → Bool) (s n lo : Nat) (d : Array α) : Prop := ∀ q, lo ≤ q * s → SortedIn lt (q * s) (min (q * s + s) n) d

theorem sorted_kept {a b x y : Nat} {d d' : Array α} (h : SortedIn lt x y d) (hp : PermIn a b d d') (ha : y ≤ a ∨ b ≤ x) : SortedIn lt x y d' := by
  intro i j hi hij hj
  rw [hp.2.1 i (by omega), hp.2.1 j (by omega)]
  exact h i j hi hij hj

theorem mul_cases (s : Nat) (q j : Nat) : q * s + s ≤ j * s ∨ q = j ∨ j * s + s ≤ q * s := by
  rcases Nat.lt_trichotomy q j with h | h | h
  · left
    have := Nat.mul_le_mul_right s h
    rwa [Nat.succ_mul] at this
  · exact .inr (.inl h)
  · right; right
    have := Nat.mul_le_mul_right s h
    rwa [Nat.succ_mul] at this

theorem runsTo_zero (s : Nat) (hs : 0 < s) (d : Array α) : RunsTo lt s 0 d := fun q h => by omega

theorem runsTo_step {s j : Nat} {d d' : Array α} (hs : 0 < s) (h : RunsTo lt s (j * s) d) (hp : PermIn (j * s) (j * s + s) d d') (hd : SortedIn lt (j * s) (j * s + s) d') : RunsTo lt s (j * s + s) d' := by
  intro q hq
  rcases mul_cases s q j with c | c | c
  · exact sorted_kept (h q c) hp (.inl c)
  · subst c; exact hd
  · exfalso; omega

theorem runs_of {s j n : Nat} {d d' : Array α} (h : RunsTo lt s (j * s) d) (hn : j * s ≤ n) (hn2 : n < j * s + s) (hp : PermIn (j * s) n d d') (hd : SortedIn lt (j * s) n d') : Runs lt s n 0 d' := by
  intro q _
  rcases mul_cases s q j with c | c | c
  · rw [Nat.min_eq_left (by omega)]
    exact sorted_kept (h q c) hp (.inl c)
  · subst c
    rw [Nat.min_eq_right (by omega)]
    exact hd
  · intro x y hx hxy hy
    exfalso
    have : min (q * s + s) n ≤ n := Nat.min_le_right _ _
    omega

theorem two_mul_run (s j : Nat) : j * (2 * s) = 2 * j * s := by rw [← Nat.mul_assoc, Nat.mul_comm j 2]
theorem two_mul_run' (s j : Nat) : j * (2 * s) + s = (2 * j + 1) * s := by rw [two_mul_run, Nat.add_mul (2 * j) 1 s, Nat.one_mul]

theorem runs_left {s j n : Nat} {d : Array α} (h : Runs lt s n (j * (2 * s)) d) (hn : j * (2 * s) + s ≤ n) : SortedIn lt (j * (2 * s)) (j * (2 * s) + s) d := by
  have := h (2 * j) (by rw [two_mul_run]; exact Nat.le_refl _)
  rw [← two_mul_run, Nat.min_eq_left hn] at this
  exact this
theorem runs_right {s j n : Nat} {d : Array α} (h : Runs lt s n (j * (2 * s)) d) : SortedIn lt (j * (2 * s) + s) (min (j * (2 * s) + s + s) n) d := by
  have := h (2 * j + 1) (by rw [← two_mul_run']; omega)
  rw [← two_mul_run'] at this
  exact this
theorem runs_last {s j n : Nat} {d : Array α} (h : Runs lt s n (j * (2 * s)) d) (hn : n ≤ j * (2 * s) + s) : SortedIn lt (j * (2 * s)) n d := by
  have := h (2 * j) (by rw [two_mul_run]; exact Nat.le_refl _)
  rw [← two_mul_run, Nat.min_eq_right hn] at this
  exact this
theorem runs_rest {s lo hi n b : Nat} {d d' : Array α} (h : Runs lt s n lo d) (hl : lo ≤ hi) (hp : PermIn b hi d d') : Runs lt s n hi d' := by
  intro q hq
  exact sorted_kept (h q (by omega)) hp (.inr hq)
theorem runs_end {s n : Nat} {d : Array α} (h : Runs lt s n 0 d) (hn : n ≤ s) : SortedIn lt 0 n d := by
  have := h 0 (Nat.zero_le _)
  rw [Nat.zero_mul, Nat.zero_add, Nat.min_eq_right hn] at this
  exact this
theorem runs_mono {s n lo : Nat} {d : Array α} (h : Runs lt s n 0 d) : Runs lt s n lo d := fun q _ => h q (Nat.zero_le _)
end Go.Proofs.Ytgaejaadjmcckaa.Srt
