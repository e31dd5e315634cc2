/- The library's stable sort over rows of k cells: rotation by exchanges. -/
import Derived.Test.YtjbjcfnbgcloiaaGreatDoorCq7
import Derived.Deep.CutRange
import Derived.StillTailTactics
import Derived.Test.YtjbjcfnbgcloiaaGreatDoorLaysS
import Derived.Shelf.SlicesE.Clone
import Derived.Laws.StructEq
set_option linter.unusedSimpArgs false
set_option linter.unusedVariables false

namespace Go.Proofs.YtjbjcfnbgcloiaaGreatDoor
open Go.Shelf Go.RowKit Go.Lib Go.Sort Srt

section
variable {P : Program} {k : Nat} {α : Type} [Inhabited α] {enc : α → List Value} {w0 W : World} {blk off : Nat} {d0 dk : Array α}

theorem get_far (d d' : Array α) (h : d'.size = d.size) (i : Nat) (hi : d.size ≤ i) : d'[i]! = d[i]! := by
  rw [getElem!_neg d' i (by omega), getElem!_neg d i (by omega)]

theorem swapF_all {d d' : Array α} {a b n : Nat} (h : d'.size = d.size) (ha : a + n ≤ d.size) (hb : b + n ≤ d.size) (hf : ∀ i, i < d.size → d'[i]! = swapF a b n (fun j => d[j]!) i) : ∀ i, d'[i]! = swapF a b n (fun j => d[j]!) i := by
  intro i
  by_cases hi : i < d.size
  · exact hf i hi
  · rw [get_far d d' h i (by omega)]
    unfold swapF
    rw [if_neg (by omega), if_neg (by omega)]

set_option maxHeartbeats 4000000 in
set_option maxRecDepth 100000 in
theorem rotate_is (L : Stb P k) (R : RowK enc k w0 blk off d0) (h : SWK enc k w0 blk off dk W) (hs : dk.size = d0.size) (hsz : d0.size < 4611686018427387904) (cap a m b : Nat) (g : Nat) (cb : Array Value) (ham : a < m) (hmb : m < b) (hb : b ≤ d0.size) :
    Calls P 131 #[.slice (some ⟨blk, off, none⟩) d0.size cap, .int .i64 a, .int .i64 m, .int .i64 b, .func (.func g) #[] cb] W fun e w' => e = .returned (.tuple #[]) ∧
      ∃ d' : Array α, SWK enc k w0 blk off d' w' ∧ d'.size = d0.size ∧ (∀ i, d'[i]! = rotF a m b (fun j => dk[j]!) i) ∧ PermIn a b dk d' := by
  have mixed := L.mixed; have t0 := L.t0; have a0 := L.a0; have z0 := L.z0; have v0 := L.v0; have t3 := L.t3; have a3 := L.a3; have z3 := L.z3; have v3 := L.v3; have t4 := L.t4; have a4 := L.a4; have z4 := L.z4; have v4 := L.v4; have t41 := L.t41; have a41 := L.a41; have z41 := L.z41; have v41 := L.v41; have t75 := L.t75; have a75 := L.a75; have z75 := L.z75; have v75 := L.v75; have t68 := L.t68; have a68 := L.a68; have z68 := L.z68; have v68 := L.v68; have aE := L.aE; have zE := L.zE; have u41 := run_underlying L.t41
  have eS : ∀ args w, (callFunc 132 args).run P w = .ok (.enter 132 args) w := enters_of L.fS (by kernel_rfl) rfl
  have HL := Lib.hid L
  have HR := Lib.hid R; clear R
  have HS0 := Lib.hid h; clear h
  go_enter L.fR, Tryz.ntmps131
  clear L
  have e1 : IntKind.i64.wrap ((m : Int) - (a : Int)) = ((m - a : Nat) : Int) := by rw [IntWalk.i64_in _ (by omega)]; omega
  have e2 : IntKind.i64.wrap ((b : Int) - (m : Int)) = ((b - m : Nat) : Int) := by rw [IntWalk.i64_in _ (by omega)]; omega
  go_wp2_with fail
  clear e1 e2
  go_loopw [10, 11] (fun v1 v2 wr => ∃ (i j : Nat) (d : Array α), v1 = .int .i64 i ∧ v2 = .int .i64 j ∧ 0 < i ∧ i ≤ m - a ∧ 0 < j ∧ j ≤ b - m ∧ Hid (SWK enc k w0 blk off d wr) ∧ d.size = d0.size ∧
      Hid (∀ x, rotF (m - i) m (m + j) (fun y => d[y]!) x = rotF a m b (fun y => dk[y]!) x) ∧ Hid (PermIn a b dk d)) (fun v1 v2 _ => (intOf v1).toNat + (intOf v2).toNat)
  case atStart => exact ⟨m - a, b - m, dk, rfl, rfl, by omega, Nat.le_refl _, by omega, Nat.le_refl _, HS0, hs, fun x => by rw [show m - (m - a) = a by omega, show m + (b - m) = b by omega], permIn_refl _ _ _⟩
  case round =>
    rename_i wr
    obtain ⟨i, j, d, rfl, rfl, hi0, hi, hj0, hj, HS, hds, HF, HP⟩ := hrel
    by_cases hij : i = j
    · have hbb : ((i : Int) == (j : Int)) = true := by rw [beq_iff_eq]; omega
      have c := swapRange_is HL.out HR.out HS.out hds hsz cap (m - i) m i g cb (by omega) (by omega) (by omega)
      have z1 : ((m - i : Nat) : Int) = (m : Int) - (i : Int) := by omega
      rw [z1] at c; clear z1
      have C := Lib.hid c; clear c
      have w1 : IntKind.i64.wrap ((m : Int) - (i : Int)) = (m : Int) - (i : Int) := IntWalk.i64_in _ (by omega)
      have HIJ := Lib.hid hij; clear hij
      go_wp2_with (go_at_fn 132; refine C.out.mono ?_; rintro e w' ⟨rfl, d1, hS1, hz1, hf1, hp1⟩)
      have hij := HIJ.out
      have hall := swapF_all (d := d) (d' := d1) (a := m - i) (b := m) (n := i) (by omega) (by omega) (by omega) (fun x hx => hf1 x (by omega))
      have hpp := hp1 a b (by omega) (by omega) (by omega) (by omega) hb
      have hrr : ∀ x, d1[x]! = rotF a m b (fun y => dk[y]!) x := fun x => by
        rw [← HF.out x, ← HIJ.out, rot_even m i (by omega), hall x]
      have Hrr := Lib.hid hrr; clear hrr
      clear hf1 hp1 hall
      go_end0
      exact ⟨rfl, d1, hS1, hz1, Hrr.out, permIn_trans _ _ _ _ _ HP.out hpp⟩
    · have hbb : ((i : Int) == (j : Int)) = false := by rw [beq_eq_false_iff_ne]; omega
      by_cases hlt : j < i
      · have hltz : (j : Int) < (i : Int) := by omega
        have c := swapRange_is HL.out HR.out HS.out hds hsz cap (m - i) m j g cb (by omega) (by omega) (by omega)
        have z1 : ((m - i : Nat) : Int) = (m : Int) - (i : Int) := by omega
        rw [z1] at c; clear z1
        have C := Lib.hid c; clear c
        have w1 : IntKind.i64.wrap ((m : Int) - (i : Int)) = (m : Int) - (i : Int) := IntWalk.i64_in _ (by omega)
        have w2 : IntKind.i64.wrap ((i : Int) - (j : Int)) = ((i - j : Nat) : Int) := by rw [IntWalk.i64_in _ (by omega)]; omega
        go_wp2_with (go_at_fn 132; refine C.out.mono ?_; rintro e w' ⟨rfl, d1, hS1, hz1, hf1, hp1⟩)
        have hall := swapF_all (d := d) (d' := d1) (a := m - i) (b := m) (n := j) (by omega) (by omega) (by omega) (fun x hx => hf1 x (by omega))
        have hpp := permIn_trans _ _ _ _ _ HP.out (hp1 a b (by omega) (by omega) (by omega) (by omega) hb)
        have hrr : ∀ x, rotF (m - (i - j)) m (m + j) (fun y => d1[y]!) x = rotF a m b (fun y => dk[y]!) x := fun x => by
          rw [← HF.out x, rot_left m i j hj0 hlt (by omega)]
          congr 1
          funext y
          exact hall y
        have Hrr := Lib.hid hrr; clear hrr
        clear hf1 hp1 hall
        go_roundw
        case rel => exact ⟨i - j, j, d1, rfl, rfl, by omega, by omega, hj0, hj, hS1, hz1, Hrr, hpp⟩
        case measure => simp [intOf]; omega
      · have hltz : (i : Int) < (j : Int) := by omega
        have c := swapRange_is HL.out HR.out HS.out hds hsz cap (m - i) (m + j - i) i g cb (by omega) (by omega) (by omega)
        have z1 : ((m - i : Nat) : Int) = (m : Int) - (i : Int) := by omega
        have z2 : ((m + j - i : Nat) : Int) = (m : Int) + (j : Int) - (i : Int) := by omega
        rw [z1, z2] at c; clear z1 z2
        have C := Lib.hid c; clear c
        have w1 : IntKind.i64.wrap ((m : Int) - (i : Int)) = (m : Int) - (i : Int) := IntWalk.i64_in _ (by omega)
        have w3 : IntKind.i64.wrap ((m : Int) + (j : Int)) = (m : Int) + (j : Int) := IntWalk.i64_in _ (by omega)
        have w4 : IntKind.i64.wrap ((m : Int) + (j : Int) - (i : Int)) = (m : Int) + (j : Int) - (i : Int) := IntWalk.i64_in _ (by omega)
        have w2 : IntKind.i64.wrap ((j : Int) - (i : Int)) = ((j - i : Nat) : Int) := by rw [IntWalk.i64_in _ (by omega)]; omega
        go_wp2_with (go_at_fn 132; refine C.out.mono ?_; rintro e w' ⟨rfl, d1, hS1, hz1, hf1, hp1⟩)
        have hall := swapF_all (d := d) (d' := d1) (a := m - i) (b := m + j - i) (n := i) (by omega) (by omega) (by omega) (fun x hx => hf1 x (by omega))
        have hpp := permIn_trans _ _ _ _ _ HP.out (hp1 a b (by omega) (by omega) (by omega) (by omega) hb)
        have hrr : ∀ x, rotF (m - i) m (m + (j - i)) (fun y => d1[y]!) x = rotF a m b (fun y => dk[y]!) x := fun x => by
          rw [← HF.out x, rot_right m i j hi0 (by omega) (by omega)]
          congr 1
          funext y
          exact hall y
        have Hrr := Lib.hid hrr; clear hrr
        clear hf1 hp1 hall
        go_roundw
        case rel => exact ⟨i, j - i, d1, rfl, rfl, hi0, hi, by omega, by omega, hS1, hz1, Hrr, hpp⟩
        case measure => simp [intOf]; omega
end
end Go.Proofs.YtjbjcfnbgcloiaaGreatDoor

/- The symmetric merge: plain laws. -/
namespace Go.Proofs.YtjbjcfnbgcloiaaGreatDoor.Srt
open Go.Sort
variable {α : Type}

theorem shift_up (a i : Nat) (hai : a ≤ i) (f : Nat → α) (x : Nat) :
    (if x = i + 1 then rotF a (a + 1) (i + 1) f i else if x = i then rotF a (a + 1) (i + 1) f (i + 1) else rotF a (a + 1) (i + 1) f x) = rotF a (a + 1) (i + 2) f x := by
  unfold rotF
  repeat' split
  all_goals first | rfl | (exfalso; omega) | (congr 1; omega)
theorem rot_one (a : Nat) (f : Nat → α) (x : Nat) : rotF a (a + 1) (a + 1) f x = f x := by
  unfold rotF
  repeat' split
  all_goals first | rfl | (exfalso; omega) | (congr 1; omega)
theorem shift_down (m i : Nat) (him : i < m) (f : Nat → α) (x : Nat) :
    (if x = i then rotF (i + 1) m (m + 1) f (i + 1) else if x = i + 1 then rotF (i + 1) m (m + 1) f i else rotF (i + 1) m (m + 1) f x) = rotF i m (m + 1) f x := by
  unfold rotF
  repeat' split
  all_goals first | rfl | (exfalso; omega) | (congr 1; omega)
theorem rot_none (m e : Nat) (f : Nat → α) (x : Nat) : rotF m m e f x = f x := by
  unfold rotF
  repeat' split
  all_goals first | rfl | (exfalso; omega) | (congr 1; omega)
theorem rot_none' (s m : Nat) (f : Nat → α) (x : Nat) : rotF s m m f x = f x := by
  unfold rotF
  repeat' split
  all_goals first | rfl | (exfalso; omega) | (congr 1; omega)

variable [Inhabited α] {lt : α → α → Bool}

theorem ins_up (hS : SWO lt) (a b i : Nat) (d d' : Array α) (hai : a + 1 ≤ i) (hib : i ≤ b) (h2 : SortedIn lt (a + 1) b d) (hl : ∀ x, a + 1 ≤ x → x < i → lt d[x]! d[a]! = true) (hg : ∀ x, i ≤ x → x < b → lt d[x]! d[a]! = false)
    (hd : ∀ x, d'[x]! = rotF a (a + 1) i (fun y => d[y]!) x) : SortedIn lt a b d' := by
  intro p q hp hpq hq
  rw [hd p, hd q]
  unfold rotF
  by_cases c1 : i ≤ q
  · rw [if_pos (.inr c1)]
    by_cases c2 : i ≤ p
    · rw [if_pos (.inr c2)]
      exact h2 p q (by omega) hpq hq
    · rw [if_neg (by omega : ¬ (p < a ∨ i ≤ p))]
      by_cases c3 : p < a + (i - (a + 1))
      · rw [if_pos c3]
        exact h2 _ q (by omega) (by omega) hq
      · rw [if_neg c3]
        have e : p - (i - (a + 1)) = a := by omega
        rw [e]
        exact hg q c1 hq
  · rw [if_neg (by omega : ¬ (q < a ∨ i ≤ q)), if_neg (by omega : ¬ (p < a ∨ i ≤ p)), if_pos (by omega : p < a + (i - (a + 1)))]
    by_cases c3 : q < a + (i - (a + 1))
    · rw [if_pos c3]
      exact h2 _ _ (by omega) (by omega) (by omega)
    · rw [if_neg c3]
      have e : q - (i - (a + 1)) = a := by omega
      rw [e]
      exact le_of_lt hS (hl _ (by omega) (by omega))

theorem ins_down (hS : SWO lt) (a m i : Nat) (d d' : Array α) (hai : a ≤ i) (him : i ≤ m) (h1 : SortedIn lt a m d) (hl : ∀ x, a ≤ x → x < i → lt d[m]! d[x]! = false) (hg : ∀ x, i ≤ x → x < m → lt d[m]! d[x]! = true)
    (hd : ∀ x, d'[x]! = rotF i m (m + 1) (fun y => d[y]!) x) : SortedIn lt a (m + 1) d' := by
  intro p q hp hpq hq
  rw [hd p, hd q]
  unfold rotF
  by_cases c1 : q < i
  · rw [if_pos (.inl c1), if_pos (.inl (by omega : p < i))]
    exact h1 p q hp hpq (by omega)
  · rw [if_neg (by omega : ¬ (q < i ∨ m + 1 ≤ q))]
    by_cases c2 : q < i + (m + 1 - m)
    · have e : q = i := by omega
      subst e
      rw [if_pos c2, if_pos (.inl (by omega : p < q))]
      have e2 : q + (m - q) = m := by omega
      rw [e2]
      exact hl p hp hpq
    · rw [if_neg c2]
      by_cases c3 : p < i
      · rw [if_pos (.inl c3)]
        exact h1 p _ hp (by omega) (by omega)
      · rw [if_neg (by omega : ¬ (p < i ∨ m + 1 ≤ p))]
        by_cases c4 : p < i + (m + 1 - m)
        · rw [if_pos c4]
          have e2 : p + (m - i) = m := by omega
          rw [e2]
          exact le_of_lt hS (hg _ (by omega) (by omega))
        · rw [if_neg c4]
          exact h1 _ _ (by omega) (by omega) (by omega)

theorem rot_halves (hS : SWO lt) (a m b mid s s0 r0 : Nat) (d d1 : Array α) (ham : a < m) (hmb : m < b) (hmid : mid = (a + b) / 2) (hs0 : s0 = if mid < m then mid + m - b else a) (hr0 : r0 = if mid < m then mid else m)
    (hss : s0 ≤ s) (hsr : s ≤ r0) (h1 : SortedIn lt a m d) (h2 : SortedIn lt m b d)
    (hlo : ∀ x, s0 ≤ x → x < s → lt d[mid + m - 1 - x]! d[x]! = false) (hhi : ∀ x, s ≤ x → x < r0 → lt d[mid + m - 1 - x]! d[x]! = true)
    (hd : ∀ x, d1[x]! = rotF s m (mid + m - s) (fun y => d[y]!) x) :
    a ≤ s ∧ s ≤ m ∧ s ≤ mid ∧ m ≤ mid + m - s ∧ mid + m - s ≤ b ∧ SortedIn lt a s d1 ∧ SortedIn lt s mid d1 ∧ SortedIn lt mid (mid + m - s) d1 ∧ SortedIn lt (mid + m - s) b d1 ∧
      (∀ i j, a ≤ i → i < mid → mid ≤ j → j < b → lt d1[j]! d1[i]! = false) := by
  have b1 : a ≤ s0 ∧ r0 ≤ m ∧ r0 ≤ mid ∧ mid + m - s0 ≤ b := by
    rw [hs0, hr0]
    split <;> omega
  obtain ⟨b2, b3, b4, b5⟩ := b1
  obtain ⟨e, he⟩ : ∃ e, mid + m - s = e := ⟨_, rfl⟩
  have e1 : m ≤ e := by omega
  have e2 : e ≤ b := by omega
  have e3 : s + (e - m) = mid := by omega
  have e4 : mid ≤ e := by omega
  have f1 : ∀ x, x < s → d1[x]! = d[x]! := fun x hx => by rw [hd x]; unfold rotF; rw [if_pos (.inl hx)]
  have f2 : ∀ x, s ≤ x → x < mid → d1[x]! = d[x + (m - s)]! := fun x h1 h2 => by rw [hd x]; unfold rotF; rw [if_neg (by omega), if_pos (by omega)]
  have f3 : ∀ x, mid ≤ x → x < e → d1[x]! = d[x - (e - m)]! := fun x h1 h2 => by
    rw [hd x]; unfold rotF; rw [if_neg (by omega), if_neg (by omega), he]
  have f4 : ∀ x, e ≤ x → d1[x]! = d[x]! := fun x hx => by rw [hd x]; unfold rotF; rw [if_pos (.inr (by omega))]
  rw [he]
  refine ⟨by omega, by omega, by omega, e1, e2, ?_, ?_, ?_, ?_, ?_⟩
  · intro p q hp hpq hq
    rw [f1 p (by omega), f1 q hq]
    exact h1 p q hp hpq (by omega)
  · intro p q hp hpq hq
    rw [f2 p hp (by omega), f2 q (by omega) hq]
    exact h2 _ _ (by omega) (by omega) (by omega)
  · intro p q hp hpq hq
    rw [f3 p hp (by omega), f3 q (by omega) hq]
    exact h1 _ _ (by omega) (by omega) (by omega)
  · intro p q hp hpq hq
    rw [f4 p hp, f4 q (by omega)]
    exact h2 _ _ (by omega) hpq hq
  · intro i j hi him hmj hjb
    by_cases ci : i < s
    · rw [f1 i ci]
      by_cases cj : j < e
      · rw [f3 j hmj cj]
        exact h1 _ _ hi (by omega) (by omega)
      · rw [f4 j (by omega)]
        by_cases cs : s = s0
        · exfalso
          rw [hs0] at cs
          split at cs <;> omega
        · have q1 := hlo (s - 1) (by omega) (by omega)
          have q2 : mid + m - 1 - (s - 1) = e := by omega
          rw [q2] at q1
          have q3 : lt d[s - 1]! d[i]! = false := by
            by_cases c : i = s - 1
            · rw [c]; exact hS.irrefl _
            · exact h1 _ _ hi (by omega) (by omega)
          have q4 : lt d[j]! d[e]! = false := by
            by_cases c : j = e
            · rw [c]; exact hS.irrefl _
            · exact h2 _ _ (by omega) (by omega) hjb
          exact hS.ntrans _ _ _ q4 (hS.ntrans _ _ _ q1 q3)
    · rw [f2 i (by omega) him]
      by_cases cj : j < e
      · rw [f3 j hmj cj]
        by_cases cs : s = r0
        · exfalso
          rw [hr0] at cs
          split at cs <;> omega
        · have q1 := hhi s (by omega) (by omega)
          have q2 : mid + m - 1 - s = e - 1 := by omega
          rw [q2] at q1
          have q1 := le_of_lt hS q1
          have q3 : lt d[e - 1]! d[i + (m - s)]! = false := by
            by_cases c : i + (m - s) = e - 1
            · rw [c]; exact hS.irrefl _
            · exact h2 _ _ (by omega) (by omega) (by omega)
          have q4 : lt d[j - (e - m)]! d[s]! = false := by
            by_cases c : j - (e - m) = s
            · rw [c]; exact hS.irrefl _
            · exact h1 _ _ (by omega) (by omega) (by omega)
          exact hS.ntrans _ _ _ q4 (hS.ntrans _ _ _ q1 q3)
      · rw [f4 j (by omega)]
        exact h2 _ _ (by omega) (by omega) hjb
end Go.Proofs.YtjbjcfnbgcloiaaGreatDoor.Srt

/- The library's stable sort over rows of k cells: the symmetric merge where one side has one element. -/
namespace Go.Proofs.YtjbjcfnbgcloiaaGreatDoor
open Go.Shelf Go.RowKit Go.Lib Go.Sort Srt

section
variable {P : Program} {k : Nat} {α : Type} [Inhabited α] {enc : α → List Value} {w0 W : World} {blk off : Nat} {d0 dk : Array α}

set_option maxHeartbeats 8000000 in
set_option maxRecDepth 100000 in
theorem merge1_is (L : Stb P k) (R : RowK enc k w0 blk off d0) (cf : α → α → Int) (g : Nat) (cb : Array Value) (eg : ∀ args w, (callFunc g args).run P w = .ok (.enter g args) w) (hC : CmpLays P g cb enc k cf blk off d0.size w0) (hS : SWO (ltOf cf))
    (h : SWK enc k w0 blk off dk W) (hs : dk.size = d0.size) (hsz : d0.size < 4611686018427387904) (cap a b : Nat) (hab : a + 1 < b) (hb : b ≤ d0.size) (h2 : SortedIn (ltOf cf) (a + 1) b dk) :
    Calls P 130 #[.slice (some ⟨blk, off, none⟩) d0.size cap, .int .i64 a, .int .i64 ((a : Int) + 1), .int .i64 b, .func (.func g) #[] cb] W fun e w' => e = .returned (.tuple #[]) ∧
      ∃ d' : Array α, SWK enc k w0 blk off d' w' ∧ d'.size = d0.size ∧ PermIn a b dk d' ∧ SortedIn (ltOf cf) a b d' := by
  have mixed := L.mixed; have t0 := L.t0; have a0 := L.a0; have z0 := L.z0; have v0 := L.v0; have t3 := L.t3; have a3 := L.a3; have z3 := L.z3; have v3 := L.v3; have t4 := L.t4; have a4 := L.a4; have z4 := L.z4; have v4 := L.v4; have t41 := L.t41; have a41 := L.a41; have z41 := L.z41; have v41 := L.v41; have t75 := L.t75; have a75 := L.a75; have z75 := L.z75; have v75 := L.v75; have t68 := L.t68; have a68 := L.a68; have z68 := L.z68; have v68 := L.v68; have aE := L.aE; have zE := L.zE; have u41 := run_underlying L.t41
  have HR := Lib.hid R; clear R
  have HS0 := Lib.hid h; clear h
  have HC := Lib.hid hC; clear hC
  have H2 := Lib.hid h2; clear h2
  have HSW := Lib.hid hS; clear hS
  go_enter L.fM, Tryz.ntmps130
  have e1 : IntKind.i64.wrap ((a : Int) + 1 - (a : Int)) = 1 := by rw [IntWalk.i64_in _ (by omega)]; omega
  go_wp2_with fail
  clear e1
  go_loopw [10, 11] (fun v1 v2 wr => ∃ (i j : Nat), v1 = .int .i64 i ∧ v2 = .int .i64 j ∧ a + 1 ≤ i ∧ i ≤ j ∧ j ≤ b ∧ Hid (SWK enc k w0 blk off dk wr) ∧
      Hid (∀ x, a + 1 ≤ x → x < i → ltOf cf dk[x]! dk[a]! = true) ∧ Hid (∀ x, j ≤ x → x < b → ltOf cf dk[x]! dk[a]! = false)) (fun v1 v2 _ => (intOf v2).toNat - (intOf v1).toNat)
  case atStart => exact ⟨a + 1, b, by go_num, rfl, Nat.le_refl _, by omega, Nat.le_refl _, HS0, fun x h1 h2 => by omega, fun x h1 h2 => by omega⟩
  case round =>
    rename_i wr
    obtain ⟨i, j, rfl, rfl, hai, hij, hjb, HS, HLo, HHi⟩ := hrel
    by_cases hlt : i < j
    · have hltz : (i : Int) < (j : Int) := by omega
      obtain ⟨c, hc⟩ : ∃ c, (i + j) / 2 = c := ⟨_, rfl⟩
      have hci : i ≤ c := by omega
      have hcj : c < j := by omega
      have g1 : IntKind.i64.wrap ((i : Int) + (j : Int)) = (i : Int) + (j : Int) := IntWalk.i64_in _ (by omega)
      have g2 : IntKind.u64.wrap ((i : Int) + (j : Int)) = (i : Int) + (j : Int) := IntWalk.u64_in _ (by omega)
      have g3 : ((i : Int) + (j : Int)) / 2 = (c : Int) := by omega
      have g4 : IntKind.i64.wrap (c : Int) = (c : Int) := IntWalk.i64_in _ (by omega)
      have g5 : IntKind.u64.wrap (c : Int) = (c : Int) := IntWalk.u64_in _ (by omega)
      have g6 : IntKind.i64.wrap ((c : Int) + 1) = (c : Int) + 1 := IntWalk.i64_in _ (by omega)
      have r1 : (c : Int) < (d0.size : Int) := by omega
      have r2 : (a : Int) < (d0.size : Int) := by omega
      obtain ⟨xc, hxc⟩ : ∃ x, dk[c]! = x := ⟨_, rfl⟩
      obtain ⟨xa, hxa⟩ : ∃ x, dk[a]! = x := ⟨_, rfl⟩
      have lc : ∀ n os, Sem.run P (loadCellsFrom ⟨blk, off + c * k, none⟩ 0 k #[]) (grow (wr.drewN n) os) = .ok (enc xc).toArray (grow (wr.drewN n) os) := fun n os => by rw [← hxc]; exact HS.out.ld HR.out hs P c (by omega) n os
      have la : ∀ n os, Sem.run P (loadCellsFrom ⟨blk, off + a * k, none⟩ 0 k #[]) (grow (wr.drewN n) os) = .ok (enc xa).toArray (grow (wr.drewN n) os) := fun n os => by rw [← hxa]; exact HS.out.ld HR.out hs P a (by omega) n os
      have hcg : ∀ n' os', Calls P g (#[.agg (enc xc).toArray, .agg (enc xa).toArray] ++ cb) (grow (wr.drewN n') os') fun e w' => e = .returned (.int .i64 (cf xc xa)) ∧ ∃ q os'', w' = grow ((grow (wr.drewN n') os').drewN q) os'' := fun n' os' => HS.out.cmp HC.out hs xc xa n' os'
      have GR : Hid (∀ n os, SWK enc k w0 blk off dk (grow (wr.drewN n) os)) := fun n os => HS.out.grown n os
      have HC2 := Lib.hid hc; clear hc
      have HXC := Lib.hid hxc; clear hxc
      have HXA := Lib.hid hxa; clear hxa
      by_cases hlv : cf xc xa < 0
      · have HN : Hid (∀ x, a + 1 ≤ x → x < c + 1 → ltOf cf dk[x]! dk[a]! = true) := by
          intro x h1 h2
          have q : ltOf cf dk[c]! dk[a]! = true := by rw [HXC.out, HXA.out]; exact decide_eq_true hlv
          by_cases e : x = c
          · rw [e]; exact q
          · exact lt_of_le_lt HSW.out (H2.out x c h1 (by omega) (by omega)) q
        go_wp2_with fail
        go_quiet_grown (first | (go_at_fn g; refine Calls.grown_of (hcg _ _)))
        clear lc la hcg
        go_wp2
        go_roundw
        case rel => exact ⟨c + 1, j, by go_num, rfl, by omega, by omega, hjb, GR.out _ _, HN, HHi⟩
        case measure => simp [intOf]; omega
      · have HN : Hid (∀ x, c ≤ x → x < b → ltOf cf dk[x]! dk[a]! = false) := by
          intro x h1 h2
          have q : ltOf cf dk[c]! dk[a]! = false := by rw [HXC.out, HXA.out]; exact decide_eq_false hlv
          by_cases e : x = c
          · rw [e]; exact q
          · exact HSW.out.ntrans _ _ _ (H2.out c x (by omega) (by omega) (by omega)) q
        go_wp2_with fail
        go_quiet_grown (first | (go_at_fn g; refine Calls.grown_of (hcg _ _)))
        clear lc la hcg
        go_wp2
        go_roundw
        case rel => exact ⟨i, c, rfl, rfl, by omega, by omega, by omega, GR.out _ _, HLo, HN⟩
        case measure => simp [intOf]; omega
    · have hltz : (j : Int) ≤ (i : Int) := by omega
      obtain rfl : i = j := by omega
      clear hltz
      have nlt : ¬ ((i : Int) < (i : Int)) := by omega
      have FIN : Hid (∀ d' : Array α, (∀ x, d'[x]! = rotF a (a + 1) i (fun y => dk[y]!) x) → SortedIn (ltOf cf) a b d') := fun d' hd => ins_up HSW.out a b i dk d' hai hjb H2.out HLo.out HHi.out hd
      have w1 : IntKind.i64.wrap ((i : Int) - 1) = (i : Int) - 1 := IntWalk.i64_in _ (by omega)
      go_wp2_with fail
      go_loopw [13] (fun v wr => ∃ (x : Nat) (d : Array α), v = .int .i64 x ∧ a ≤ x ∧ x + 1 ≤ i ∧ Hid (SWK enc k w0 blk off d wr) ∧ d.size = d0.size ∧ Hid (∀ y, d[y]! = rotF a (a + 1) (x + 1) (fun y => dk[y]!) y) ∧ Hid (PermIn a b dk d)) (fun v _ => i - (intOf v).toNat)
      case atStart => exact ⟨a, dk, rfl, Nat.le_refl _, hai, HS, hs, fun y => (rot_one a _ y).symm, permIn_refl _ _ _⟩
      case round =>
        rename_i wq
        clear HS
        obtain ⟨x, d, rfl, hax, hxi, HS, hds, HF, HP⟩ := hrel
        by_cases hp : x + 1 < i
        · have hpz : (x : Int) < (i : Int) - 1 := by omega
          have sa := swp_get d (i := x) (j := x + 1) (by omega) (by omega)
          have sp : PermIn a b d (swp d x (x + 1)) := swp_permIn d a b x (x + 1) (by omega) (by omega) (by omega) (by omega) (by omega)
          have HF2 : Hid (∀ y, (swp d x (x + 1))[y]! = rotF a (a + 1) (x + 2) (fun y => dk[y]!) y) := by
            intro y
            rw [sa y, HF.out, HF.out, HF.out]
            exact shift_up a x hax _ y
          have HP2 : Hid (PermIn a b dk (swp d x (x + 1))) := permIn_trans _ _ _ _ _ HP.out sp
          clear sa sp
          obtain ⟨xa, hxa⟩ : ∃ z, d[x]! = z := ⟨_, rfl⟩
          obtain ⟨xb, hxb⟩ : ∃ z, d[x + 1]! = z := ⟨_, rfl⟩
          have la := HS.out.ld1 HR.out hds P x (by omega)
          have lb := HS.out.ld1 HR.out hds P (x + 1) (by omega)
          have s1 := HS.out.st1 HR.out hds P x (by omega) (d[x + 1]!)
          have s2 := HS.out.st2 HR.out hds P x (x + 1) (by omega) (by omega) (d[x + 1]!) (d[x]!)
          have sw := HS.out.swapped HR.out x (x + 1) (by omega) (by omega)
          have kA : (enc (d[x]!)).length = k := HR.out.hk _
          have kB : (enc (d[x + 1]!)).length = k := HR.out.hk _
          rw [hxa] at la s2 sw kA
          rw [hxb] at lb s1 s2 sw kB
          clear hxa hxb
          obtain ⟨cA, hcA⟩ : ∃ c, enc xa = c := ⟨_, rfl⟩
          obtain ⟨cB, hcB⟩ : ∃ c, enc xb = c := ⟨_, rfl⟩
          rw [hcA] at la s2 sw kA
          rw [hcB] at lb s1 s2 sw kB
          clear hcA hcB
          have SW := Lib.hid sw; clear sw
          have e1 : IntKind.i64.wrap ((x : Int) + 1) = (x : Int) + 1 := IntWalk.i64_in _ (by omega)
          have p1 : (0 : Int) ≤ (x : Int) + 1 := by omega
          have q1 : ((x : Int) + 1).toNat = x + 1 := by omega
          have r1 : (x : Int) + 1 < (d0.size : Int) := by omega
          have r2 : (x : Int) < (d0.size : Int) := by omega
          go_wp2_with fail
          go_big_region_o
          all_goals go_wp2
          go_roundw
          case rel => exact ⟨x + 1, _, by go_num, by omega, by omega, SW, by rw [swp_size]; exact hds, HF2, HP2⟩
          case measure => simp [intOf]; omega
        · have hpz : (i : Int) - 1 ≤ (x : Int) := by omega
          have hxe : x + 1 = i := by omega
          rw [hxe] at HF
          have hfin := FIN.out d HF.out
          have HFN := Lib.hid hfin; clear hfin
          clear HF FIN
          go_wp2
          (try simp only [Exit.inBlock, Exit.then])
          refine bodyPost_ret (results_none rfl _ _ _) rfl ?_
          exact ⟨rfl, d, HS.out, hds, HP.out, HFN.out⟩

set_option maxHeartbeats 8000000 in
set_option maxRecDepth 100000 in
theorem merge2_is (L : Stb P k) (R : RowK enc k w0 blk off d0) (cf : α → α → Int) (g : Nat) (cb : Array Value) (eg : ∀ args w, (callFunc g args).run P w = .ok (.enter g args) w) (hC : CmpLays P g cb enc k cf blk off d0.size w0) (hS : SWO (ltOf cf))
    (h : SWK enc k w0 blk off dk W) (hs : dk.size = d0.size) (hsz : d0.size < 4611686018427387904) (cap a m : Nat) (ham : a + 1 < m) (hb : m + 1 ≤ d0.size) (h1 : SortedIn (ltOf cf) a m dk) :
    Calls P 130 #[.slice (some ⟨blk, off, none⟩) d0.size cap, .int .i64 a, .int .i64 m, .int .i64 ((m : Int) + 1), .func (.func g) #[] cb] W fun e w' => e = .returned (.tuple #[]) ∧
      ∃ d' : Array α, SWK enc k w0 blk off d' w' ∧ d'.size = d0.size ∧ PermIn a (m + 1) dk d' ∧ SortedIn (ltOf cf) a (m + 1) d' := by
  have mixed := L.mixed; have t0 := L.t0; have a0 := L.a0; have z0 := L.z0; have v0 := L.v0; have t3 := L.t3; have a3 := L.a3; have z3 := L.z3; have v3 := L.v3; have t4 := L.t4; have a4 := L.a4; have z4 := L.z4; have v4 := L.v4; have t41 := L.t41; have a41 := L.a41; have z41 := L.z41; have v41 := L.v41; have t75 := L.t75; have a75 := L.a75; have z75 := L.z75; have v75 := L.v75; have t68 := L.t68; have a68 := L.a68; have z68 := L.z68; have v68 := L.v68; have aE := L.aE; have zE := L.zE; have u41 := run_underlying L.t41
  have HR := Lib.hid R; clear R
  have HS0 := Lib.hid h; clear h
  have HC := Lib.hid hC; clear hC
  have H1 := Lib.hid h1; clear h1
  have HSW := Lib.hid hS; clear hS
  go_enter L.fM, Tryz.ntmps130
  have e1 : IntKind.i64.wrap ((m : Int) + 1 - (m : Int)) = 1 := by rw [IntWalk.i64_in _ (by omega)]; omega
  have e2 : IntKind.i64.wrap ((m : Int) - (a : Int)) = (m : Int) - (a : Int) := IntWalk.i64_in _ (by omega)
  have e3 : ((m : Int) - (a : Int) == 1) = false := by rw [beq_eq_false_iff_ne]; omega
  go_wp2_with fail
  clear e1 e2 e3
  go_loopw [14, 15] (fun v1 v2 wr => ∃ (i j : Nat), v1 = .int .i64 i ∧ v2 = .int .i64 j ∧ a ≤ i ∧ i ≤ j ∧ j ≤ m ∧ Hid (SWK enc k w0 blk off dk wr) ∧
      Hid (∀ x, a ≤ x → x < i → ltOf cf dk[m]! dk[x]! = false) ∧ Hid (∀ x, j ≤ x → x < m → ltOf cf dk[m]! dk[x]! = true)) (fun v1 v2 _ => (intOf v2).toNat - (intOf v1).toNat)
  case atStart => exact ⟨a, m, rfl, rfl, Nat.le_refl _, by omega, Nat.le_refl _, HS0, fun x h1 h2 => by omega, fun x h1 h2 => by omega⟩
  case round =>
    rename_i wr
    obtain ⟨i, j, rfl, rfl, hai, hij, hjb, HS, HLo, HHi⟩ := hrel
    by_cases hlt : i < j
    · have hltz : (i : Int) < (j : Int) := by omega
      obtain ⟨c, hc⟩ : ∃ c, (i + j) / 2 = c := ⟨_, rfl⟩
      have hci : i ≤ c := by omega
      have hcj : c < j := by omega
      have g1 : IntKind.i64.wrap ((i : Int) + (j : Int)) = (i : Int) + (j : Int) := IntWalk.i64_in _ (by omega)
      have g2 : IntKind.u64.wrap ((i : Int) + (j : Int)) = (i : Int) + (j : Int) := IntWalk.u64_in _ (by omega)
      have g3 : ((i : Int) + (j : Int)) / 2 = (c : Int) := by omega
      have g4 : IntKind.i64.wrap (c : Int) = (c : Int) := IntWalk.i64_in _ (by omega)
      have g5 : IntKind.u64.wrap (c : Int) = (c : Int) := IntWalk.u64_in _ (by omega)
      have g6 : IntKind.i64.wrap ((c : Int) + 1) = (c : Int) + 1 := IntWalk.i64_in _ (by omega)
      have r1 : (c : Int) < (d0.size : Int) := by omega
      have r2 : (m : Int) < (d0.size : Int) := by omega
      obtain ⟨xc, hxc⟩ : ∃ x, dk[c]! = x := ⟨_, rfl⟩
      obtain ⟨xa, hxa⟩ : ∃ x, dk[m]! = x := ⟨_, rfl⟩
      have lc : ∀ n os, Sem.run P (loadCellsFrom ⟨blk, off + c * k, none⟩ 0 k #[]) (grow (wr.drewN n) os) = .ok (enc xc).toArray (grow (wr.drewN n) os) := fun n os => by rw [← hxc]; exact HS.out.ld HR.out hs P c (by omega) n os
      have la : ∀ n os, Sem.run P (loadCellsFrom ⟨blk, off + m * k, none⟩ 0 k #[]) (grow (wr.drewN n) os) = .ok (enc xa).toArray (grow (wr.drewN n) os) := fun n os => by rw [← hxa]; exact HS.out.ld HR.out hs P m (by omega) n os
      have hcg : ∀ n' os', Calls P g (#[.agg (enc xa).toArray, .agg (enc xc).toArray] ++ cb) (grow (wr.drewN n') os') fun e w' => e = .returned (.int .i64 (cf xa xc)) ∧ ∃ q os'', w' = grow ((grow (wr.drewN n') os').drewN q) os'' := fun n' os' => HS.out.cmp HC.out hs xa xc n' os'
      have GR : Hid (∀ n os, SWK enc k w0 blk off dk (grow (wr.drewN n) os)) := fun n os => HS.out.grown n os
      have HC2 := Lib.hid hc; clear hc
      have HXC := Lib.hid hxc; clear hxc
      have HXA := Lib.hid hxa; clear hxa
      by_cases hlv : cf xa xc < 0
      · have HN : Hid (∀ x, c ≤ x → x < m → ltOf cf dk[m]! dk[x]! = true) := by
          intro x h1 h2
          have q : ltOf cf dk[m]! dk[c]! = true := by rw [HXC.out, HXA.out]; exact decide_eq_true hlv
          by_cases e : x = c
          · rw [e]; exact q
          · exact lt_of_lt_le HSW.out q (H1.out c x (by omega) (by omega) (by omega))
        have hbn : (!decide (cf xa xc < 0)) = false := by rw [decide_eq_true hlv]; rfl
        go_wp2_with fail
        go_quiet_grown (first | (go_at_fn g; refine Calls.grown_of (hcg _ _)))
        clear lc la hcg
        go_wp2
        go_roundw
        case rel => exact ⟨i, c, rfl, rfl, by omega, by omega, by omega, GR.out _ _, HLo, HN⟩
        case measure => simp [intOf]; omega
      · have HN : Hid (∀ x, a ≤ x → x < c + 1 → ltOf cf dk[m]! dk[x]! = false) := by
          intro x h1 h2
          have q : ltOf cf dk[m]! dk[c]! = false := by rw [HXC.out, HXA.out]; exact decide_eq_false hlv
          by_cases e : x = c
          · rw [e]; exact q
          · exact HSW.out.ntrans _ _ _ q (H1.out x c h1 (by omega) (by omega))
        have hbn : (!decide (cf xa xc < 0)) = true := by rw [decide_eq_false hlv]; rfl
        go_wp2_with fail
        go_quiet_grown (first | (go_at_fn g; refine Calls.grown_of (hcg _ _)))
        clear lc la hcg
        go_wp2
        go_roundw
        case rel => exact ⟨c + 1, j, by go_num, rfl, by omega, by omega, hjb, GR.out _ _, HN, HHi⟩
        case measure => simp [intOf]; omega
    · have hltz : (j : Int) ≤ (i : Int) := by omega
      obtain rfl : i = j := by omega
      clear hltz
      have nlt : ¬ ((i : Int) < (i : Int)) := by omega
      have FIN : Hid (∀ d' : Array α, (∀ x, d'[x]! = rotF i m (m + 1) (fun y => dk[y]!) x) → SortedIn (ltOf cf) a (m + 1) d') := fun d' hd => ins_down HSW.out a m i dk d' hai hjb H1.out HLo.out HHi.out hd
      go_wp2_with fail
      go_loopw [17] (fun v wr => ∃ (x : Nat) (d : Array α), v = .int .i64 x ∧ i ≤ x ∧ x ≤ m ∧ Hid (SWK enc k w0 blk off d wr) ∧ d.size = d0.size ∧ Hid (∀ y, d[y]! = rotF x m (m + 1) (fun y => dk[y]!) y) ∧ Hid (PermIn a (m + 1) dk d)) (fun v _ => (intOf v).toNat)
      case atStart => exact ⟨m, dk, rfl, hjb, Nat.le_refl _, HS, hs, fun y => (rot_none m _ _ y).symm, permIn_refl _ _ _⟩
      case round =>
        rename_i wq
        clear HS
        obtain ⟨x, d, rfl, hax, hxi, HS, hds, HF, HP⟩ := hrel
        by_cases hp : i < x
        · obtain ⟨y, rfl⟩ : ∃ y, x = y + 1 := ⟨x - 1, by omega⟩
          have hpz : (i : Int) < (y : Int) + 1 := by omega
          have sa := swp_get d (i := y + 1) (j := y) (by omega) (by omega)
          have sp : PermIn a (m + 1) d (swp d (y + 1) y) := swp_permIn d a (m + 1) (y + 1) y (by omega) (by omega) (by omega) (by omega) (by omega)
          have HF2 : Hid (∀ z, (swp d (y + 1) y)[z]! = rotF y m (m + 1) (fun y => dk[y]!) z) := by
            intro z
            rw [sa z, HF.out, HF.out, HF.out]
            exact shift_down m y (by omega) _ z
          have HP2 : Hid (PermIn a (m + 1) dk (swp d (y + 1) y)) := permIn_trans _ _ _ _ _ HP.out sp
          clear sa sp
          obtain ⟨xa, hxa⟩ : ∃ z, d[y + 1]! = z := ⟨_, rfl⟩
          obtain ⟨xb, hxb⟩ : ∃ z, d[y]! = z := ⟨_, rfl⟩
          have la := HS.out.ld1 HR.out hds P (y + 1) (by omega)
          have lb := HS.out.ld1 HR.out hds P y (by omega)
          have s1 := HS.out.st1 HR.out hds P (y + 1) (by omega) (d[y]!)
          have s2 := HS.out.st2 HR.out hds P (y + 1) y (by omega) (by omega) (d[y]!) (d[y + 1]!)
          have sw := HS.out.swapped HR.out (y + 1) y (by omega) (by omega)
          have kA : (enc (d[y + 1]!)).length = k := HR.out.hk _
          have kB : (enc (d[y]!)).length = k := HR.out.hk _
          rw [hxa] at la s2 sw kA
          rw [hxb] at lb s1 s2 sw kB
          clear hxa hxb
          obtain ⟨cA, hcA⟩ : ∃ c, enc xa = c := ⟨_, rfl⟩
          obtain ⟨cB, hcB⟩ : ∃ c, enc xb = c := ⟨_, rfl⟩
          rw [hcA] at la s2 sw kA
          rw [hcB] at lb s1 s2 sw kB
          clear hcA hcB
          have SW := Lib.hid sw; clear sw
          have e1 : IntKind.i64.wrap (y : Int) = (y : Int) := IntWalk.i64_in _ (by omega)
          have p1 : (0 : Int) ≤ (y : Int) + 1 := by omega
          have q1 : ((y : Int) + 1).toNat = y + 1 := by omega
          have r1 : (y : Int) + 1 < (d0.size : Int) := by omega
          have r2 : (y : Int) < (d0.size : Int) := by omega
          go_wp2_with fail
          go_big_region_o
          all_goals go_wp2
          go_roundw
          case rel => exact ⟨y, _, by go_num, by omega, by omega, SW, by rw [swp_size]; exact hds, HF2, HP2⟩
          case measure => simp [intOf]
        · have hpz : (x : Int) ≤ (i : Int) := by omega
          obtain rfl : x = i := by omega
          have hfin := FIN.out d HF.out
          have HFN := Lib.hid hfin; clear hfin
          clear HF FIN
          go_wp2
          (try simp only [Exit.inBlock, Exit.then])
          refine bodyPost_ret (results_none rfl _ _ _) rfl ?_
          exact ⟨rfl, d, HS.out, hds, HP.out, HFN.out⟩
end
end Go.Proofs.YtjbjcfnbgcloiaaGreatDoor

/- The library's stable sort over rows of k cells: the symmetric merge. -/
namespace Go.Proofs.YtjbjcfnbgcloiaaGreatDoor
open Go.Shelf Go.RowKit Go.Lib Go.Sort Srt

section
variable {P : Program} {k : Nat} {α : Type} [Inhabited α] {enc : α → List Value} {w0 : World} {blk off : Nat} {d0 : Array α}

set_option maxHeartbeats 8000000 in
set_option maxRecDepth 100000 in
theorem merge_is (L : Stb P k) (R : RowK enc k w0 blk off d0) (cf : α → α → Int) (g : Nat) (cb : Array Value) (eg : ∀ args w, (callFunc g args).run P w = .ok (.enter g args) w) (hC : CmpLays P g cb enc k cf blk off d0.size w0) (hS : SWO (ltOf cf))
    (hsz : d0.size < 2305843009213693952) (cap : Nat) : ∀ (N a m b : Nat) (dk : Array α) (W : World), b - a ≤ N → SWK enc k w0 blk off dk W → dk.size = d0.size → a < m → m < b → b ≤ d0.size → SortedIn (ltOf cf) a m dk → SortedIn (ltOf cf) m b dk →
    Calls P 130 #[.slice (some ⟨blk, off, none⟩) d0.size cap, .int .i64 a, .int .i64 m, .int .i64 b, .func (.func g) #[] cb] W fun e w' => e = .returned (.tuple #[]) ∧
      ∃ d' : Array α, SWK enc k w0 blk off d' w' ∧ d'.size = d0.size ∧ PermIn a b dk d' ∧ SortedIn (ltOf cf) a b d' := by
  intro N
  induction N with
  | zero => intro a m b dk W hN _ _ ham hmb _ _ _; omega
  | succ N ih =>
  intro a m b dk W hN h hs ham hmb hb h1 h2
  by_cases c1 : m = a + 1
  · subst c1
    have := merge1_is L R cf g cb eg hC hS h hs (by omega) cap a b hmb hb h2
    simpa using this
  by_cases c2 : b = m + 1
  · subst c2
    have := merge2_is L R cf g cb eg hC hS h hs (by omega) cap a m (by omega) hb h1
    simpa using this
  have mixed := L.mixed; have t0 := L.t0; have a0 := L.a0; have z0 := L.z0; have v0 := L.v0; have t3 := L.t3; have a3 := L.a3; have z3 := L.z3; have v3 := L.v3; have t4 := L.t4; have a4 := L.a4; have z4 := L.z4; have v4 := L.v4; have t41 := L.t41; have a41 := L.a41; have z41 := L.z41; have v41 := L.v41; have t75 := L.t75; have a75 := L.a75; have z75 := L.z75; have v75 := L.v75; have t68 := L.t68; have a68 := L.a68; have z68 := L.z68; have v68 := L.v68; have aE := L.aE; have zE := L.zE; have u41 := run_underlying L.t41
  have eR : ∀ args w, (callFunc 131 args).run P w = .ok (.enter 131 args) w := enters_of L.fR (by kernel_rfl) rfl
  have eM : ∀ args w, (callFunc 130 args).run P w = .ok (.enter 130 args) w := enters_of L.fM (by kernel_rfl) rfl
  have HL := Lib.hid L
  have HR := Lib.hid R; clear R
  have HS0 := Lib.hid h; clear h
  have HC := Lib.hid hC; clear hC
  have H1 := Lib.hid h1; clear h1
  have H2 := Lib.hid h2; clear h2
  have HSW := Lib.hid hS; clear hS
  have IH := Lib.hid ih; clear ih
  obtain ⟨mid, hmid⟩ : ∃ mid, mid = (a + b) / 2 := ⟨_, rfl⟩
  obtain ⟨s0, hs0⟩ : ∃ s0, s0 = if mid < m then mid + m - b else a := ⟨_, rfl⟩
  obtain ⟨r0, hr0⟩ : ∃ r0, r0 = if mid < m then mid else m := ⟨_, rfl⟩
  have b0 : a ≤ s0 ∧ s0 ≤ r0 ∧ r0 ≤ m ∧ r0 ≤ mid ∧ mid + m - s0 ≤ b ∧ m < mid + m - r0 + 1 := by
    rw [hs0, hr0]
    split <;> omega
  obtain ⟨b1, b2, b3, b4, b5, b6⟩ := b0
  have hma : a < mid := by omega
  have hmb' : mid < b := by omega
  have HH : ∀ (s : Nat) (d1 : Array α), s0 ≤ s → s ≤ r0 → (∀ x, s0 ≤ x → x < s → ltOf cf dk[mid + m - 1 - x]! dk[x]! = false) → (∀ x, s ≤ x → x < r0 → ltOf cf dk[mid + m - 1 - x]! dk[x]! = true) →
      (∀ x, d1[x]! = rotF s m (mid + m - s) (fun y => dk[y]!) x) → _ := fun s d1 q1 q2 q3 q4 q5 => rot_halves HSW.out a m b mid s s0 r0 dk d1 ham hmb hmid hs0 hr0 q1 q2 H1.out H2.out q3 q4 q5
  have HRH := Lib.hid HH; clear HH
  have MONO : Hid (∀ x y, s0 ≤ x → x ≤ y → y < r0 → (ltOf cf dk[mid + m - 1 - y]! dk[y]! = false → ltOf cf dk[mid + m - 1 - x]! dk[x]! = false) ∧ (ltOf cf dk[mid + m - 1 - x]! dk[x]! = true → ltOf cf dk[mid + m - 1 - y]! dk[y]! = true)) := by
    intro x y hx hxy hy
    by_cases e : x = y
    · subst e; exact ⟨id, id⟩
    have u1 : ltOf cf dk[y]! dk[x]! = false := H1.out x y (by omega) (by omega) (by omega)
    have u2 : ltOf cf dk[mid + m - 1 - x]! dk[mid + m - 1 - y]! = false := H2.out _ _ (by omega) (by omega) (by omega)
    refine ⟨fun h => ?_, fun h => ?_⟩
    · exact HSW.out.ntrans _ _ _ (HSW.out.ntrans _ _ _ u2 h) u1
    · exact lt_of_le_lt HSW.out u2 (lt_of_lt_le HSW.out h u1)
  have g1 : IntKind.i64.wrap ((a : Int) + (b : Int)) = (a : Int) + (b : Int) := IntWalk.i64_in _ (by omega)
  have g2 : IntKind.u64.wrap ((a : Int) + (b : Int)) = (a : Int) + (b : Int) := IntWalk.u64_in _ (by omega)
  have g3 : ((a : Int) + (b : Int)) / 2 = (mid : Int) := by omega
  have g4 : IntKind.i64.wrap (mid : Int) = (mid : Int) := IntWalk.i64_in _ (by omega)
  have g5 : IntKind.u64.wrap (mid : Int) = (mid : Int) := IntWalk.u64_in _ (by omega)
  have g6 : IntKind.i64.wrap ((mid : Int) + (m : Int)) = (mid : Int) + (m : Int) := IntWalk.i64_in _ (by omega)
  have g7 : IntKind.i64.wrap ((m : Int) - (a : Int)) = (m : Int) - (a : Int) := IntWalk.i64_in _ (by omega)
  have g8 : ((m : Int) - (a : Int) == 1) = false := by rw [beq_eq_false_iff_ne]; omega
  have g9 : IntKind.i64.wrap ((b : Int) - (m : Int)) = (b : Int) - (m : Int) := IntWalk.i64_in _ (by omega)
  have g10 : ((b : Int) - (m : Int) == 1) = false := by rw [beq_eq_false_iff_ne]; omega
  have g11 : IntKind.i64.wrap ((mid : Int) + (m : Int) - 1) = (mid : Int) + (m : Int) - 1 := IntWalk.i64_in _ (by omega)
  have g12 : IntKind.i64.wrap ((mid : Int) + (m : Int) - (b : Int)) = (mid : Int) + (m : Int) - (b : Int) := IntWalk.i64_in _ (by omega)
  have E1 : Hid (mid < m → (mid : Int) + (m : Int) - (b : Int) = (s0 : Int) ∧ (mid : Int) = (r0 : Int)) := fun q => by
    rw [hs0, hr0, if_pos q, if_pos q]; omega
  have E2 : Hid (¬ mid < m → (a : Int) = (s0 : Int) ∧ (m : Int) = (r0 : Int)) := fun q => by
    rw [hs0, hr0, if_neg q, if_neg q]; exact ⟨rfl, rfl⟩
  have HMID := Lib.hid hmid; clear hmid
  have Hs0 := Lib.hid hs0; clear hs0
  have Hr0 := Lib.hid hr0; clear hr0
  go_enter L.fM, Tryz.ntmps130
  clear L
  go_upto_if 140 with (fail)
  go_cut [20, 21] from 25 to 219 (fun v1 v2 wx => v1 = .int .i64 (s0 : Int) ∧ v2 = .int .i64 (r0 : Int) ∧ wx = W)
  case first =>
    as_aux_lemma =>
      by_cases q : mid < m
      · have qz : (mid : Int) < (m : Int) := by omega
        obtain ⟨q1, q2⟩ := E1.out q
        have Q1 := Lib.hid q1; clear q1
        have Q2 := Lib.hid q2; clear q2
        go_wp2_with fail
        go_meet
        case rel => exact ⟨congrArg (Value.int .i64) Q1.out, congrArg (Value.int .i64) Q2.out, rfl⟩
      · have qz : (m : Int) ≤ (mid : Int) := by omega
        obtain ⟨q1, q2⟩ := E2.out q
        have Q1 := Lib.hid q1; clear q1
        have Q2 := Lib.hid q2; clear q2
        go_wp2_with fail
        go_meet
        case rel => exact ⟨congrArg (Value.int .i64) Q1.out, congrArg (Value.int .i64) Q2.out, rfl⟩
  case rest =>
  obtain ⟨rfl, rfl, rfl⟩ := hcut
  clear g1 g2 g3 g4 g5 g6 g7 g8 g9 g10 g12 E1 E2
  go_wp2_with fail
  go_loopw [20, 21] (fun v1 v2 wr => ∃ (s r : Nat), v1 = .int .i64 s ∧ v2 = .int .i64 r ∧ s0 ≤ s ∧ s ≤ r ∧ r ≤ r0 ∧ Hid (SWK enc k w0 blk off dk wr) ∧
      Hid (∀ x, s0 ≤ x → x < s → ltOf cf dk[mid + m - 1 - x]! dk[x]! = false) ∧ Hid (∀ x, r ≤ x → x < r0 → ltOf cf dk[mid + m - 1 - x]! dk[x]! = true)) (fun v1 v2 _ => (intOf v2).toNat - (intOf v1).toNat)
  case atStart => exact ⟨s0, r0, rfl, rfl, Nat.le_refl _, b2, Nat.le_refl _, HS0, fun x h1 h2 => by omega, fun x h1 h2 => by omega⟩
  case round =>
    rename_i wr
    obtain ⟨s, r, rfl, rfl, hs1, hsr, hr1, HS, HLo, HHi⟩ := hrel
    clear HS0
    by_cases hlt : s < r
    · as_aux_lemma =>
        have hltz : (s : Int) < (r : Int) := by omega
        obtain ⟨c, hc⟩ : ∃ c, (s + r) / 2 = c := ⟨_, rfl⟩
        have hci : s ≤ c := by omega
        have hcj : c < r := by omega
        obtain ⟨pc, hpc⟩ : ∃ pc, mid + m - 1 - c = pc := ⟨_, rfl⟩
        have hpc1 : pc < b := by omega
        have g1 : IntKind.i64.wrap ((s : Int) + (r : Int)) = (s : Int) + (r : Int) := IntWalk.i64_in _ (by omega)
        have g2 : IntKind.u64.wrap ((s : Int) + (r : Int)) = (s : Int) + (r : Int) := IntWalk.u64_in _ (by omega)
        have g3 : ((s : Int) + (r : Int)) / 2 = (c : Int) := by omega
        have g4 : IntKind.i64.wrap (c : Int) = (c : Int) := IntWalk.i64_in _ (by omega)
        have g5 : IntKind.u64.wrap (c : Int) = (c : Int) := IntWalk.u64_in _ (by omega)
        have g6 : IntKind.i64.wrap ((c : Int) + 1) = (c : Int) + 1 := IntWalk.i64_in _ (by omega)
        have g7 : IntKind.i64.wrap ((mid : Int) + (m : Int) - 1 - (c : Int)) = (pc : Int) := by rw [IntWalk.i64_in _ (by omega)]; omega
        have r1 : (c : Int) < (d0.size : Int) := by omega
        have r2 : (pc : Int) < (d0.size : Int) := by omega
        obtain ⟨xc, hxc⟩ : ∃ x, dk[c]! = x := ⟨_, rfl⟩
        obtain ⟨xa, hxa⟩ : ∃ x, dk[pc]! = x := ⟨_, rfl⟩
        have lc : ∀ n os, Sem.run P (loadCellsFrom ⟨blk, off + c * k, none⟩ 0 k #[]) (grow (wr.drewN n) os) = .ok (enc xc).toArray (grow (wr.drewN n) os) := fun n os => by rw [← hxc]; exact HS.out.ld HR.out hs P c (by omega) n os
        have la : ∀ n os, Sem.run P (loadCellsFrom ⟨blk, off + pc * k, none⟩ 0 k #[]) (grow (wr.drewN n) os) = .ok (enc xa).toArray (grow (wr.drewN n) os) := fun n os => by rw [← hxa]; exact HS.out.ld HR.out hs P pc (by omega) n os
        have hcg : ∀ n' os', Calls P g (#[.agg (enc xa).toArray, .agg (enc xc).toArray] ++ cb) (grow (wr.drewN n') os') fun e w' => e = .returned (.int .i64 (cf xa xc)) ∧ ∃ q os'', w' = grow ((grow (wr.drewN n') os').drewN q) os'' := fun n' os' => HS.out.cmp HC.out hs xa xc n' os'
        have GR : Hid (∀ n os, SWK enc k w0 blk off dk (grow (wr.drewN n) os)) := fun n os => HS.out.grown n os
        have HC2 := Lib.hid hc; clear hc
        have HPC := Lib.hid hpc; clear hpc
        have HXC := Lib.hid hxc; clear hxc
        have HXA := Lib.hid hxa; clear hxa
        by_cases hlv : cf xa xc < 0
        · have HN : Hid (∀ x, c ≤ x → x < r0 → ltOf cf dk[mid + m - 1 - x]! dk[x]! = true) := by
            intro x h1 h2
            have q : ltOf cf dk[mid + m - 1 - c]! dk[c]! = true := by rw [HPC.out, HXC.out, HXA.out]; exact decide_eq_true hlv
            exact (MONO.out c x (by omega) h1 h2).2 q
          have hbn : (!decide (cf xa xc < 0)) = false := by rw [decide_eq_true hlv]; rfl
          go_wp2_with fail
          go_quiet_grown (first | (go_at_fn g; refine Calls.grown_of (hcg _ _)))
          clear lc la hcg
          go_wp2
          go_roundw
          case rel => exact ⟨s, c, rfl, rfl, by omega, by omega, by omega, GR.out _ _, HLo, HN⟩
          case measure => simp [intOf]; omega
        · have HN : Hid (∀ x, s0 ≤ x → x < c + 1 → ltOf cf dk[mid + m - 1 - x]! dk[x]! = false) := by
            intro x h1 h2
            have q : ltOf cf dk[mid + m - 1 - c]! dk[c]! = false := by rw [HPC.out, HXC.out, HXA.out]; exact decide_eq_false hlv
            exact (MONO.out x c h1 (by omega) (by omega)).1 q
          have hbn : (!decide (cf xa xc < 0)) = true := by rw [decide_eq_false hlv]; rfl
          go_wp2_with fail
          go_quiet_grown (first | (go_at_fn g; refine Calls.grown_of (hcg _ _)))
          clear lc la hcg
          go_wp2
          go_roundw
          case rel => exact ⟨c + 1, r, by go_num, rfl, by omega, by omega, by omega, GR.out _ _, HN, HHi⟩
          case measure => simp [intOf]; omega
    · obtain rfl : s = r := by omega
      have nlt : ¬ ((s : Int) < (s : Int)) := by omega
      obtain ⟨e, he⟩ : ∃ e, mid + m - s = e := ⟨_, rfl⟩
      have hme : m ≤ e := by omega
      have heb : e ≤ b := by omega
      have hmide : mid ≤ e := by omega
      have hsm : s ≤ m := by omega
      have hsmid : s ≤ mid := by omega
      have has : a ≤ s := by omega
      have g7 : IntKind.i64.wrap ((mid : Int) + (m : Int) - (s : Int)) = (e : Int) := by rw [IntWalk.i64_in _ (by omega)]; omega
      have FIN : Hid (∀ d1 : Array α, (∀ x, d1[x]! = rotF s m e (fun y => dk[y]!) x) → SortedIn (ltOf cf) a s d1 ∧ SortedIn (ltOf cf) s mid d1 ∧ SortedIn (ltOf cf) mid e d1 ∧ SortedIn (ltOf cf) e b d1 ∧ (∀ i j, a ≤ i → i < mid → mid ≤ j → j < b → ltOf cf d1[j]! d1[i]! = false)) := by
        intro d1 hd1
        have := HRH.out s d1 hs1 hr1 HLo.out HHi.out (by rw [he]; exact hd1)
        rw [he] at this
        exact this.2.2.2.2.2
      have HE := Lib.hid he; clear he
      clear HLo HHi MONO
      go_upto_region 39 with (fail)
      go_cut [185] from 25 to 219 (fun v wx => v = .bool (decide (s < m) && decide (m < e)) ∧ wx = wr)
      case first =>
        as_aux_lemma =>
          by_cases q1 : s < m
          · have z1 : (s : Int) < (m : Int) := by omega
            by_cases q2 : m < e
            · have z2 : (m : Int) < (e : Int) := by omega
              go_wp2_with fail
              go_meet
              case rel => exact ⟨by rw [decide_eq_true q1, decide_eq_true q2]; rfl, rfl⟩
            · have z2 : (e : Int) ≤ (m : Int) := by omega
              go_wp2_with fail
              go_meet
              case rel => exact ⟨by rw [decide_eq_true q1, decide_eq_false q2]; rfl, rfl⟩
          · have z1 : (m : Int) ≤ (s : Int) := by omega
            go_wp2_with fail
            go_meet
            case rel => exact ⟨by rw [decide_eq_false q1]; rfl, rfl⟩
      case rest =>
      obtain ⟨rfl, rfl⟩ := hcut
      go_upto_if 185 with (fail)
      go_cut [] from 25 to 219 (fun wx => ∃ d1 : Array α, Hid (SWK enc k w0 blk off d1 wx) ∧ d1.size = d0.size ∧ Hid (∀ x, d1[x]! = rotF s m e (fun y => dk[y]!) x) ∧ Hid (PermIn a b dk d1))
      case first =>
        as_aux_lemma =>
          by_cases q : s < m ∧ m < e
          · have qz1 : (s : Int) < (m : Int) := by omega
            have qz2 : (m : Int) < (e : Int) := by omega
            have qb : (decide (s < m) && decide (m < e)) = true := by rw [decide_eq_true q.1, decide_eq_true q.2]; rfl
            have C := Lib.hid (rotate_is HL.out HR.out HS.out hs (by omega) cap s m e g cb q.1 q.2 (by omega))
            go_wp2_with (go_at_fn 131; refine C.out.mono ?_; rintro e w' ⟨rfl, d1, hS1, hz1, hf1, hp1⟩)
            go_meet
            case rel => exact ⟨d1, hS1, hz1, hf1, permIn_mono _ _ _ _ _ _ has heb (by omega) hp1⟩
          · have hrot : Hid (∀ x, dk[x]! = rotF s m e (fun y => dk[y]!) x) := by
              intro x
              by_cases q1 : s = m
              · rw [q1, rot_none]
              · have q2 : e = m := by omega
                rw [q2, rot_none']
            have qb : (decide (s < m) && decide (m < e)) = false := by rw [Bool.and_eq_false_iff]; simp only [decide_eq_false_iff_not]; omega
            go_wp2_with fail
            all_goals first
              | (exfalso; omega)
              | (go_meet
                 case rel => exact ⟨dk, HS, hs, hrot, permIn_refl _ _ _⟩)
      case rest =>
      clear HS
      obtain ⟨d1, HS1, hz1, HF1, HP1⟩ := hcut
      obtain ⟨k1, k2, k3, k4, k5⟩ := FIN.out d1 HF1.out
      have K1 := Lib.hid k1; clear k1
      have K2 := Lib.hid k2; clear k2
      have K3 := Lib.hid k3; clear k3
      have K4 := Lib.hid k4; clear k4
      have K5 := Lib.hid k5; clear k5
      clear FIN HF1
      go_upto_region 41 with (fail)
      go_cut [199] from 25 to 219 (fun v wx => v = .bool (decide (a < s) && decide (s < mid)) ∧ wx = wc)
      case first =>
        as_aux_lemma =>
          by_cases q1 : a < s
          · have z1 : (a : Int) < (s : Int) := by omega
            by_cases q2 : s < mid
            · have z2 : (s : Int) < (mid : Int) := by omega
              go_wp2_with fail
              go_meet
              case rel => exact ⟨by rw [decide_eq_true q1, decide_eq_true q2]; rfl, rfl⟩
            · have z2 : (mid : Int) ≤ (s : Int) := by omega
              go_wp2_with fail
              go_meet
              case rel => exact ⟨by rw [decide_eq_true q1, decide_eq_false q2]; rfl, rfl⟩
          · have z1 : (s : Int) ≤ (a : Int) := by omega
            go_wp2_with fail
            go_meet
            case rel => exact ⟨by rw [decide_eq_false q1]; rfl, rfl⟩
      case rest =>
      obtain ⟨rfl, rfl⟩ := hcut
      go_upto_if 199 with (fail)
      go_cut [] from 25 to 219 (fun wx => ∃ d2 : Array α, Hid (SWK enc k w0 blk off d2 wx) ∧ d2.size = d0.size ∧ Hid (PermIn a mid d1 d2) ∧ Hid (SortedIn (ltOf cf) a mid d2))
      case first =>
        as_aux_lemma =>
          by_cases q : a < s ∧ s < mid
          · have qz1 : (a : Int) < (s : Int) := by omega
            have qz2 : (s : Int) < (mid : Int) := by omega
            have qb : (decide (a < s) && decide (s < mid)) = true := by rw [decide_eq_true q.1, decide_eq_true q.2]; rfl
            have C := Lib.hid (IH.out a s mid d1 _ (by omega) HS1.out hz1 q.1 q.2 (by omega) K1.out K2.out)
            go_wp2_with (go_at_fn 130; refine C.out.mono ?_; rintro e w' ⟨rfl, d2, hS2, hz2, hp2, hs2⟩)
            go_meet
            case rel => exact ⟨d2, hS2, hz2, hp2, hs2⟩
          · have hsrt : Hid (SortedIn (ltOf cf) a mid d1) := by
              show SortedIn _ _ _ _
              by_cases q1 : a = s
              · rw [q1]; exact K2.out
              · have q2 : s = mid := by omega
                rw [← q2]; exact K1.out
            have qb : (decide (a < s) && decide (s < mid)) = false := by rw [Bool.and_eq_false_iff]; simp only [decide_eq_false_iff_not]; omega
            go_wp2_with fail
            all_goals first
              | (exfalso; omega)
              | (go_meet
                 case rel => exact ⟨d1, HS1, hz1, permIn_refl _ _ _, hsrt⟩)
      case rest =>
      clear HS1
      obtain ⟨d2, HS2, hz2, HP2, HD2⟩ := hcut
      have K3' : Hid (SortedIn (ltOf cf) mid e d2) := fun i j h1 h2 h3 => by
        rw [HP2.out.2.1 i (.inr h1), HP2.out.2.1 j (.inr (by omega))]; exact K3.out i j h1 h2 h3
      have K4' : Hid (SortedIn (ltOf cf) e b d2) := fun i j h1 h2 h3 => by
        rw [HP2.out.2.1 i (.inr (by omega)), HP2.out.2.1 j (.inr (by omega))]; exact K4.out i j h1 h2 h3
      have FIN2 : Hid (∀ d3 : Array α, PermIn mid b d2 d3 → SortedIn (ltOf cf) mid b d3 → PermIn a b dk d3 ∧ SortedIn (ltOf cf) a b d3) := by
        intro d3 p3 s3
        have := merge_halves a mid b d1 d2 d3 (by omega) (by omega) (by omega) K5.out HP2.out HD2.out p3 s3
        exact ⟨permIn_trans _ _ _ _ _ HP1.out this.1, this.2⟩
      clear K1 K2 K3 K4 K5
      by_cases q : mid < e ∧ e < b
      · as_aux_lemma =>
          have qz1 : (mid : Int) < (e : Int) := by omega
          have qz2 : (e : Int) < (b : Int) := by omega
          have C := Lib.hid (IH.out mid e b d2 _ (by omega) HS2.out hz2 q.1 q.2 hb K3'.out K4'.out)
          go_wp2_with (go_at_fn 130; refine C.out.mono ?_; rintro e w' ⟨rfl, d3, hS3, hz3, hp3, hs3⟩)
          go_end0
          exact ⟨rfl, d3, hS3, hz3, FIN2.out d3 hp3 hs3⟩
      · have hsrt : Hid (SortedIn (ltOf cf) mid b d2) := by
          show SortedIn _ _ _ _
          by_cases q1 : mid = e
          · rw [q1]; exact K4'.out
          · have q2 : e = b := by omega
            rw [← q2]; exact K3'.out
        go_wp2_with fail
        all_goals first
          | (exfalso; omega)
          | (go_end0
             exact ⟨rfl, d2, HS2.out, hz2, FIN2.out d2 (permIn_refl _ _ _) hsrt.out⟩)
end
end Go.Proofs.YtjbjcfnbgcloiaaGreatDoor

/- The stable sort's blocks: plain laws. -/
namespace Go.Proofs.YtjbjcfnbgcloiaaGreatDoor.Srt
open Go.Sort
variable {α : Type} [Inhabited α] {lt : α → α → Bool}

def RunsTo (lt : α → α → Bool) (s hi : Nat) (d : Array α) : Prop := ∀ q, q * s + s ≤ hi → SortedIn lt (q * s) (q * s + s) d
def Runs (lt : α → α → Bool) (s n lo : Nat) (d : Array α) : Prop := ∀ q, lo ≤ q * s → SortedIn lt (q * s) (min (q * s + s) n) d

theorem sorted_kept {a b x y : Nat} {d d' : Array α} (h : SortedIn lt x y d) (hp : PermIn a b d d') (ha : y ≤ a ∨ b ≤ x) : SortedIn lt x y d' := by
  intro i j hi hij hj
  rw [hp.2.1 i (by omega), hp.2.1 j (by omega)]
  exact h i j hi hij hj

theorem mul_cases (s : Nat) (q j : Nat) : q * s + s ≤ j * s ∨ q = j ∨ j * s + s ≤ q * s := by
  rcases Nat.lt_trichotomy q j with h | h | h
  · left
    have := Nat.mul_le_mul_right s h
    rwa [Nat.succ_mul] at this
  · exact .inr (.inl h)
  · right; right
    have := Nat.mul_le_mul_right s h
    rwa [Nat.succ_mul] at this

theorem runsTo_zero (s : Nat) (hs : 0 < s) (d : Array α) : RunsTo lt s 0 d := fun q h => by omega

theorem runsTo_step {s j : Nat} {d d' : Array α} (hs : 0 < s) (h : RunsTo lt s (j * s) d) (hp : PermIn (j * s) (j * s + s) d d') (hd : SortedIn lt (j * s) (j * s + s) d') : RunsTo lt s (j * s + s) d' := by
  intro q hq
  rcases mul_cases s q j with c | c | c
  · exact sorted_kept (h q c) hp (.inl c)
  · subst c; exact hd
  · exfalso; omega

theorem runs_of {s j n : Nat} {d d' : Array α} (h : RunsTo lt s (j * s) d) (hn : j * s ≤ n) (hn2 : n < j * s + s) (hp : PermIn (j * s) n d d') (hd : SortedIn lt (j * s) n d') : Runs lt s n 0 d' := by
  intro q _
  rcases mul_cases s q j with c | c | c
  · rw [Nat.min_eq_left (by omega)]
    exact sorted_kept (h q c) hp (.inl c)
  · subst c
    rw [Nat.min_eq_right (by omega)]
    exact hd
  · intro x y hx hxy hy
    exfalso
    have : min (q * s + s) n ≤ n := Nat.min_le_right _ _
    omega

theorem two_mul_run (s j : Nat) : j * (2 * s) = 2 * j * s := by rw [← Nat.mul_assoc, Nat.mul_comm j 2]
theorem two_mul_run' (s j : Nat) : j * (2 * s) + s = (2 * j + 1) * s := by rw [two_mul_run, Nat.add_mul (2 * j) 1 s, Nat.one_mul]

theorem runs_left {s j n : Nat} {d : Array α} (h : Runs lt s n (j * (2 * s)) d) (hn : j * (2 * s) + s ≤ n) : SortedIn lt (j * (2 * s)) (j * (2 * s) + s) d := by
  have := h (2 * j) (by rw [two_mul_run]; exact Nat.le_refl _)
  rw [← two_mul_run, Nat.min_eq_left hn] at this
  exact this
theorem runs_right {s j n : Nat} {d : Array α} (h : Runs lt s n (j * (2 * s)) d) : SortedIn lt (j * (2 * s) + s) (min (j * (2 * s) + s + s) n) d := by
  have := h (2 * j + 1) (by rw [← two_mul_run']; omega)
  rw [← two_mul_run'] at this
  exact this
theorem runs_last {s j n : Nat} {d : Array α} (h : Runs lt s n (j * (2 * s)) d) (hn : n ≤ j * (2 * s) + s) : SortedIn lt (j * (2 * s)) n d := by
  have := h (2 * j) (by rw [two_mul_run]; exact Nat.le_refl _)
  rw [← two_mul_run, Nat.min_eq_right hn] at this
  exact this
theorem runs_rest {s lo hi n b : Nat} {d d' : Array α} (h : Runs lt s n lo d) (hl : lo ≤ hi) (hp : PermIn b hi d d') : Runs lt s n hi d' := by
  intro q hq
  exact sorted_kept (h q (by omega)) hp (.inr hq)
theorem runs_end {s n : Nat} {d : Array α} (h : Runs lt s n 0 d) (hn : n ≤ s) : SortedIn lt 0 n d := by
  have := h 0 (Nat.zero_le _)
  rw [Nat.zero_mul, Nat.zero_add, Nat.min_eq_right hn] at this
  exact this
theorem runs_mono {s n lo : Nat} {d : Array α} (h : Runs lt s n 0 d) : Runs lt s n lo d := fun q _ => h q (Nat.zero_le _)
end Go.Proofs.YtjbjcfnbgcloiaaGreatDoor.Srt

/- The library's stable sort over rows of k cells: blocks of twenty, then merges. -/
namespace Go.Proofs.YtjbjcfnbgcloiaaGreatDoor
open Go.Shelf Go.RowKit Go.Lib Go.Sort Srt

section
variable {P : Program} {k : Nat} {α : Type} [Inhabited α] {enc : α → List Value} {w0 W : World} {blk off : Nat} {d0 dk : Array α}

set_option maxHeartbeats 8000000 in
set_option maxRecDepth 100000 in
theorem stable_is (L : Stb P k) (R : RowK enc k w0 blk off d0) (cf : α → α → Int) (g : Nat) (cb : Array Value) (eg : ∀ args w, (callFunc g args).run P w = .ok (.enter g args) w) (hC : CmpLays P g cb enc k cf blk off d0.size w0) (hS : SWO (ltOf cf))
    (hsz : d0.size < 1152921504606846976) (cap : Nat) (eI : ∀ args w, (callFunc 129 args).run P w = .ok (.enter 129 args) w)
    (hI : ∀ (a b : Nat) (d : Array α) (W : World), SWK enc k w0 blk off d W → d.size = d0.size → a ≤ b → b ≤ d0.size → Calls P 129 #[.slice (some ⟨blk, off, none⟩) d0.size cap, .int .i64 a, .int .i64 b, .func (.func g) #[] cb] W fun e w' => e = .returned (.tuple #[]) ∧
      ∃ d' : Array α, SWK enc k w0 blk off d' w' ∧ d'.size = d0.size ∧ PermIn a b d d' ∧ SortedIn (ltOf cf) a b d')
    (h : SWK enc k w0 blk off dk W) (hs : dk.size = d0.size) :
    Calls P 125 #[.slice (some ⟨blk, off, none⟩) d0.size cap, .int .i64 d0.size, .func (.func g) #[] cb] W fun e w' => e = .returned (.tuple #[]) ∧
      ∃ d' : Array α, SWK enc k w0 blk off d' w' ∧ d'.size = d0.size ∧ PermIn 0 d0.size dk d' ∧ SortedIn (ltOf cf) 0 d0.size d' := by
  have mixed := L.mixed; have t0 := L.t0; have a0 := L.a0; have z0 := L.z0; have v0 := L.v0; have t3 := L.t3; have a3 := L.a3; have z3 := L.z3; have v3 := L.v3; have t4 := L.t4; have a4 := L.a4; have z4 := L.z4; have v4 := L.v4; have t41 := L.t41; have a41 := L.a41; have z41 := L.z41; have v41 := L.v41; have t75 := L.t75; have a75 := L.a75; have z75 := L.z75; have v75 := L.v75; have t68 := L.t68; have a68 := L.a68; have z68 := L.z68; have v68 := L.v68; have aE := L.aE; have zE := L.zE; have u41 := run_underlying L.t41
  have eM : ∀ args w, (callFunc 130 args).run P w = .ok (.enter 130 args) w := enters_of L.fM (by kernel_rfl) rfl
  have HI := Lib.hid hI; clear hI
  have HM : Hid (∀ (a m b : Nat) (d : Array α) (W : World), SWK enc k w0 blk off d W → d.size = d0.size → a < m → m < b → b ≤ d0.size → SortedIn (ltOf cf) a m d → SortedIn (ltOf cf) m b d →
    Calls P 130 #[.slice (some ⟨blk, off, none⟩) d0.size cap, .int .i64 a, .int .i64 m, .int .i64 b, .func (.func g) #[] cb] W fun e w' => e = .returned (.tuple #[]) ∧
      ∃ d' : Array α, SWK enc k w0 blk off d' w' ∧ d'.size = d0.size ∧ PermIn a b d d' ∧ SortedIn (ltOf cf) a b d') := fun a m b d W => merge_is L R cf g cb eg hC hS (by omega) cap (b - a) a m b d W (Nat.le_refl _)
  have HS0 := Lib.hid h; clear h
  clear hC hS R eg
  go_enter L.fT, Tryz.ntmps125
  clear L
  obtain ⟨n, hn⟩ : ∃ n, d0.size = n := ⟨_, rfl⟩
  rw [hn] at hs hsz HI HM ⊢
  clear hn
  go_wp2_with fail
  go_loopw [7, 8] (fun v1 v2 wr => ∃ (j a : Nat) (d : Array α), Hid (a = j * 20) ∧ v1 = .int .i64 (a : Int) ∧ v2 = .int .i64 ((a : Int) + 20) ∧ a ≤ n ∧ Hid (SWK enc k w0 blk off d wr) ∧ d.size = n ∧ Hid (RunsTo (ltOf cf) 20 a d) ∧ Hid (PermIn 0 n dk d)) (fun v1 _ _ => n - (intOf v1).toNat)
  case atStart => exact ⟨0, 0, dk, rfl, rfl, rfl, Nat.zero_le _, HS0, hs, runsTo_zero 20 (by omega) dk, permIn_refl _ _ _⟩
  case round =>
    rename_i wr
    clear HS0
    obtain ⟨j, a, d, HA, rfl, rfl, han, HS, hds, HT, HP⟩ := hrel
    by_cases hp : a + 20 ≤ n
    · as_aux_lemma =>
        have hpz : (a : Int) + 20 ≤ (n : Int) := by omega
        have c := HI.out a (a + 20) d _ HS.out hds (by omega) hp
        rw [show ((a + 20 : Nat) : Int) = (a : Int) + 20 from by omega] at c
        have C := Lib.hid c; clear c
        have e1 : IntKind.i64.wrap ((a : Int) + 20 + 20) = (a : Int) + 20 + 20 := IntWalk.i64_in _ (by omega)
        go_wp2_with (go_at_fn 129; refine C.out.mono ?_; rintro e w' ⟨rfl, d', hS', hz', hp', hd'⟩)
        have HT' : Hid (RunsTo (ltOf cf) 20 (a + 20) d') := by
          show RunsTo _ _ _ _
          have h1 := HT.out
          rw [HA.out] at h1 hp' hd' ⊢
          exact runsTo_step (by omega) h1 hp' hd'
        have HP' : Hid (PermIn 0 n dk d') := permIn_trans _ _ _ _ _ HP.out (permIn_mono _ _ a (a + 20) 0 n (Nat.zero_le _) hp (by omega) hp')
        clear hp' hd'
        go_roundw
        case rel => exact ⟨j + 1, a + 20, d', (show a + 20 = (j + 1) * 20 by rw [HA.out]; omega), by go_num, by go_num, hp, hS', hz', HT', HP'⟩
        case measure => simp [intOf]; omega
    · have hpz : (n : Int) < (a : Int) + 20 := by omega
      have c := HI.out a n d _ HS.out hds han (Nat.le_refl _)
      have C := Lib.hid c; clear c
      go_wp2_with (go_at_fn 129; refine C.out.mono ?_; rintro e w' ⟨rfl, d1, hS1, hz1, hp1, hd1⟩)
      have HR1 : Hid (Runs (ltOf cf) 20 n 0 d1) := by
        show Runs _ _ _ _ _
        have h1 := HT.out
        have h2 := HA.out
        rw [h2] at h1 hp1 hd1
        exact runs_of h1 (by omega) (by omega) hp1 hd1
      have HP1 : Hid (PermIn 0 n dk d1) := permIn_trans _ _ _ _ _ HP.out (permIn_mono _ _ a n 0 n (Nat.zero_le _) (Nat.le_refl _) (by omega) hp1)
      have HS1 := Lib.hid hS1
      clear hp1 hd1 HT HP HS hds hS1 hpz C
      go_loopw [6] (fun v wr => ∃ (s : Nat) (d : Array α), v = .int .i64 (s : Int) ∧ 0 < s ∧ s ≤ 2 * n + 20 ∧ Hid (SWK enc k w0 blk off d wr) ∧ d.size = n ∧ Hid (Runs (ltOf cf) s n 0 d) ∧ Hid (PermIn 0 n dk d)) (fun v _ => n - (intOf v).toNat)
      case atStart => exact ⟨20, d1, rfl, by omega, by omega, HS1, hz1, HR1, HP1⟩
      case round =>
        rename_i wq
        clear HS1 HR1 HP1 hz1
        obtain ⟨s, d2, rfl, hs0, hsn, HS2, hz2, HR2, HP2⟩ := hrel
        by_cases hq : s < n
        · have hqz : (s : Int) < (n : Int) := by omega
          have e1 : IntKind.i64.wrap (2 * (s : Int)) = 2 * (s : Int) := IntWalk.i64_in _ (by omega)
          have e2 : IntKind.i64.wrap ((s : Int) * 2) = (s : Int) * 2 := IntWalk.i64_in _ (by omega)
          go_wp2_with fail
          go_loopw [7, 8] (fun v1 v2 wr => ∃ (j a : Nat) (d : Array α), Hid (a = j * (2 * s)) ∧ v1 = .int .i64 (a : Int) ∧ v2 = .int .i64 ((a : Int) + 2 * (s : Int)) ∧ a ≤ n ∧ Hid (SWK enc k w0 blk off d wr) ∧ d.size = n ∧ Hid (RunsTo (ltOf cf) (2 * s) a d) ∧ Hid (Runs (ltOf cf) s n a d) ∧ Hid (PermIn 0 n dk d)) (fun v1 _ _ => n - (intOf v1).toNat)
          case atStart => exact ⟨0, 0, d2, (by show 0 = 0 * (2 * s); rw [Nat.zero_mul]), rfl, congrArg (Value.int .i64) (by omega), Nat.zero_le _, HS2, hz2, runsTo_zero _ (by omega) d2, runs_mono HR2.out, HP2⟩
          case round =>
            rename_i wi
            clear HS2 HR2 HP2 hz2
            clear d2
            obtain ⟨j, a, d, HA, rfl, rfl, han, HS, hds, HT, HR, HP⟩ := hrel
            have e3 : IntKind.i64.wrap ((a : Int) + (s : Int)) = (a : Int) + (s : Int) := IntWalk.i64_in _ (by omega)
            by_cases hi : a + 2 * s ≤ n
            · as_aux_lemma =>
                have hiz : (a : Int) + 2 * (s : Int) ≤ (n : Int) := by omega
                have q1 : SortedIn (ltOf cf) a (a + s) d := by
                  have h1 := HR.out
                  rw [HA.out] at h1 ⊢
                  exact runs_left h1 (by rw [← HA.out]; omega)
                have q2 : SortedIn (ltOf cf) (a + s) (a + 2 * s) d := by
                  have h1 := HR.out
                  rw [HA.out] at h1
                  have h2 := runs_right h1
                  rw [← HA.out, Nat.min_eq_left (by omega)] at h2
                  rwa [show a + 2 * s = a + s + s by omega]
                have c := HM.out a (a + s) (a + 2 * s) d _ HS.out hds (by omega) (by omega) hi q1 q2
                rw [show ((a + s : Nat) : Int) = (a : Int) + (s : Int) from by omega, show ((a + 2 * s : Nat) : Int) = (a : Int) + 2 * (s : Int) from by omega] at c
                have C := Lib.hid c; clear c q1 q2
                have e4 : IntKind.i64.wrap ((a : Int) + 2 * (s : Int) + 2 * (s : Int)) = (a : Int) + 2 * (s : Int) + 2 * (s : Int) := IntWalk.i64_in _ (by omega)
                go_wp2_with (go_at_fn 130; refine C.out.mono ?_; rintro e w' ⟨rfl, d', hS', hz', hp', hd'⟩)
                have HT' : Hid (RunsTo (ltOf cf) (2 * s) (a + 2 * s) d') := by
                  show RunsTo _ _ _ _
                  have h1 := HT.out
                  rw [HA.out] at h1 hp' hd' ⊢
                  exact runsTo_step (by omega) h1 hp' hd'
                have HR' : Hid (Runs (ltOf cf) s n (a + 2 * s) d') := runs_rest HR.out (by omega) hp'
                have HP' : Hid (PermIn 0 n dk d') := permIn_trans _ _ _ _ _ HP.out (permIn_mono _ _ a (a + 2 * s) 0 n (Nat.zero_le _) hi (by omega) hp')
                clear hp' hd'
                go_roundw
                case rel => exact ⟨j + 1, a + 2 * s, d', (show a + 2 * s = (j + 1) * (2 * s) by rw [HA.out, Nat.add_mul j 1 (2 * s), Nat.one_mul]), congrArg (Value.int .i64) (by omega), congrArg (Value.int .i64) (by omega), hi, hS', hz', HT', HR', HP'⟩
                case measure => simp [intOf]; omega
            · have hiz : (n : Int) < (a : Int) + 2 * (s : Int) := by omega
              by_cases hm : a + s < n
              · as_aux_lemma =>
                  have hmz : (a : Int) + (s : Int) < (n : Int) := by omega
                  have q1 : SortedIn (ltOf cf) a (a + s) d := by
                    have h1 := HR.out
                    rw [HA.out] at h1 ⊢
                    exact runs_left h1 (by rw [← HA.out]; omega)
                  have q2 : SortedIn (ltOf cf) (a + s) n d := by
                    have h1 := HR.out
                    rw [HA.out] at h1
                    have h2 := runs_right h1
                    rwa [← HA.out, Nat.min_eq_right (by omega)] at h2
                  have c := HM.out a (a + s) n d _ HS.out hds (by omega) hm (Nat.le_refl _) q1 q2
                  rw [show ((a + s : Nat) : Int) = (a : Int) + (s : Int) from by omega] at c
                  have C := Lib.hid c; clear c q1 q2
                  go_wp2_with (go_at_fn 130; refine C.out.mono ?_; rintro e w' ⟨rfl, d', hS', hz', hp', hd'⟩)
                  have HR' : Hid (Runs (ltOf cf) (2 * s) n 0 d') := by
                    show Runs _ _ _ _ _
                    have h1 := HT.out
                    have h2 := HA.out
                    rw [h2] at h1 hp' hd'
                    exact runs_of h1 (by omega) (by omega) hp' hd'
                  have HP' : Hid (PermIn 0 n dk d') := permIn_trans _ _ _ _ _ HP.out (permIn_mono _ _ a n 0 n (Nat.zero_le _) (Nat.le_refl _) (by omega) hp')
                  clear hp' hd'
                  go_roundw
                  case rel => exact ⟨2 * s, d', congrArg (Value.int .i64) (by omega), by omega, by omega, hS', hz', HR', HP'⟩
                  case measure => simp [intOf]; omega
              · as_aux_lemma =>
                  have hmz : (n : Int) ≤ (a : Int) + (s : Int) := by omega
                  have HR' : Hid (Runs (ltOf cf) (2 * s) n 0 d) := by
                    show Runs _ _ _ _ _
                    have h1 := HT.out
                    have h2 := HA.out
                    have h3 := HR.out
                    rw [h2] at h1 h3
                    exact runs_of h1 (by omega) (by omega) (permIn_refl _ _ _) (runs_last h3 (by omega))
                  go_wp2_with fail
                  go_roundw
                  case rel => exact ⟨2 * s, d, congrArg (Value.int .i64) (by omega), by omega, by omega, HS, hds, HR', HP⟩
                  case measure => simp [intOf]; omega
        · as_aux_lemma =>
            have hqz : (n : Int) ≤ (s : Int) := by omega
            have hfin := runs_end HR2.out (by omega)
            have HF := Lib.hid hfin; clear hfin
            go_wp2
            go_end0
            exact ⟨rfl, d2, HS2.out, hz2, HP2.out, HF.out⟩
end
end Go.Proofs.YtjbjcfnbgcloiaaGreatDoor

/- Entries as six cells; their order (keys, then the greater id first); what the comparing function of page.Sort answers. -/
namespace Go.Proofs.YtjbjcfnbgcloiaaGreatDoor
open Go.Shelf Go.RowKit Go.Lib Go.Sort Srt

structure Ent where
  key : ByteArray
  id : Int
  mark : Bool
  size : Int
  sum : Int
  latest : Bool
deriving Inhabited, DecidableEq

def encE (e : Ent) : List Value := [.string e.key, .int .i64 e.id, .bool e.mark, .int .i64 e.size, .int .u32 e.sum, .bool e.latest]

theorem encE_length (e : Ent) : (encE e).length = 6 := rfl
theorem encE_one (e : Ent) : ∀ v ∈ encE e, v.oneCell' = true := by
  intro v hv
  simp only [encE, List.mem_cons, List.not_mem_nil, or_false] at hv
  rcases hv with rfl | rfl | rfl | rfl | rfl | rfl <;> rfl

theorem less_swap (a b : List UInt8) : (!Op.bytesLess a b && !(a == b)) = Op.bytesLess b a := by
  cases h : Op.bytesLess a b
  · by_cases e : a = b
    · subst e; simp [h]
    · cases h2 : Op.bytesLess b a
      · exact absurd (Nam.less_total a b h h2) e
      · simp [e]
  · rw [Nam.less_asymm a b h]; rfl

def cmpS (a b : ByteArray) : Int := if Op.bytesLess a.toList b.toList then -1 else if Op.bytesLess b.toList a.toList then 1 else 0
def cmpI (a b : Int) : Int := if a < b then -1 else if b < a then 1 else 0
def cfE (x y : Ent) : Int := if cmpS x.key y.key ≠ 0 then cmpS x.key y.key else cmpI y.id x.id

set_option maxHeartbeats 1000000 in
theorem nanS_is (a : ByteArray) (w : World) : Calls Tryz.prog 124 #[.string a] w fun e w' => e = .returned (.bool false) ∧ w = w' := by
  go_enter Tryz.func124, Tryz.ntmps124
  go_wp2
  go_ret
  exact ⟨congrArg (fun x => Ending.returned (Value.bool x)) (by simp), rfl⟩
set_option maxHeartbeats 1000000 in
theorem nanI_is (a : Int) (w : World) : Calls Tryz.prog 126 #[.int .i64 a] w fun e w' => e = .returned (.bool false) ∧ w = w' := by
  go_enter Tryz.func126, Tryz.ntmps126
  go_wp2
  go_ret
  exact ⟨congrArg (fun x => Ending.returned (Value.bool x)) (by simp), rfl⟩

set_option maxHeartbeats 1000000 in
theorem cmpS_is (a b : ByteArray) (w : World) : Calls Tryz.prog 116 #[.string a, .string b] w fun e w' => e = .returned (.int .i64 (cmpS a b)) ∧ w = w' := by
  unfold cmpS
  have hgt : ∀ (t : TypeId) (W : World), (binOp .gtr t (.string a) (.string b)).run Tryz.prog W = .ok (.bool (Op.bytesLess b.toList a.toList)) W := fun t W => by
    rw [← less_swap]
    simp [binOp, Op.stringOp]
  cases h1 : Op.bytesLess a.toList b.toList <;> cases h2 : Op.bytesLess b.toList a.toList
  all_goals
    go_enter Tryz.func116, Tryz.ntmps116
    go_wp2_with (first | (go_at_call_of 124 (Value.string a); refine (nanS_is _ _).mono ?_; rintro e w' ⟨rfl, rfl⟩) | (go_at_call 124; refine (nanS_is _ _).mono ?_; rintro e w' ⟨rfl, rfl⟩))
    go_ret
    exact ⟨rfl, rfl⟩

set_option maxHeartbeats 1000000 in
theorem cmpI_is (a b : Int) (w : World) : Calls Tryz.prog 117 #[.int .i64 a, .int .i64 b] w fun e w' => e = .returned (.int .i64 (cmpI a b)) ∧ w = w' := by
  unfold cmpI
  by_cases h1 : a < b <;> by_cases h2 : b < a
  all_goals (try (exfalso; omega))
  all_goals
    simp only [h1, h2, if_true, if_false]
    go_enter Tryz.func117, Tryz.ntmps117
    go_wp2_with (first | (go_at_call 126; refine (nanI_is _ _).mono ?_; rintro e w' ⟨rfl, rfl⟩))
    go_ret
    exact ⟨rfl, rfl⟩

set_option maxHeartbeats 1000000 in
theorem or_is (g c : Nat) (x y : Int) (w : World) (h0 : w.cell? ⟨g, 0, none⟩ = some (.int .i64 x)) (h1 : w.cell? ⟨g, 1, none⟩ = some (.int .i64 y)) :
    Calls Tryz.prog 115 #[.slice (some ⟨g, 0, none⟩) 2 c] w fun e w' => e = .returned (.int .i64 (if x ≠ 0 then x else y)) ∧ w = w' := by
  by_cases hx : x = 0
  · have bx : (x != 0) = false := by simp [hx]
    rw [if_neg (by simp [hx])]
    by_cases hy : y = 0
    · have by' : (y != 0) = false := by simp [hy]
      have HX := Lib.hid hx; clear hx
      have HY := Lib.hid hy; clear hy
      go_enter Tryz.func115, Tryz.ntmps115
      go_wp2_with fail
      refine wp_loop_rounds 3 ?_
      rw [rounds_succ]
      go_wp2_with fail
      rw [rounds_succ]
      go_wp2_with fail
      rw [rounds_succ]
      go_wp2
      go_ret
      exact ⟨congrArg (fun x => Ending.returned (Value.int .i64 x)) HY.out.symm, rfl⟩
    · have by' : (y != 0) = true := by simp [hy]
      have HX := Lib.hid hx; clear hx
      go_enter Tryz.func115, Tryz.ntmps115
      go_wp2_with fail
      refine wp_loop_rounds 2 ?_
      rw [rounds_succ]
      go_wp2_with fail
      rw [rounds_succ]
      go_wp2
      go_ret
      exact ⟨rfl, rfl⟩
  · have bx : (x != 0) = true := by simp [hx]
    rw [if_pos hx]
    go_enter Tryz.func115, Tryz.ntmps115
    go_wp2_with fail
    refine wp_loop_rounds 1 ?_
    rw [rounds_succ]
    go_wp2
    go_ret
    exact ⟨rfl, rfl⟩

theorem three_grown (w : World) (A B C : Obj) : ((w.alloc A).alloc B).drew.alloc C = grow (w.drewN 1) #[A, B, C] := by
  rw [alloc_eq_grow, alloc_eq_grow, alloc_eq_grow, drew_grow, drew_grow, grow_grow, grow_grow]
  rfl

set_option maxRecDepth 100000 in
set_option maxHeartbeats 2000000 in
theorem cmpE_is (x y : Ent) (w : World) : Calls Tryz.prog 114 #[.agg (encE x).toArray, .agg (encE y).toArray] w fun e w' => e = .returned (.int .i64 (cfE x y)) ∧ ∃ q os, w' = grow (w.drewN q) os := by
  obtain ⟨k1, i1, m1, s1, u1, l1⟩ := x
  obtain ⟨k2, i2, m2, s2, u2, l2⟩ := y
  unfold encE cfE
  obtain ⟨cs, hcs⟩ : ∃ c, cmpS k1 k2 = c := ⟨_, rfl⟩
  obtain ⟨ci, hci⟩ : ∃ c, cmpI i2 i1 = c := ⟨_, rfl⟩
  have c1 : ∀ W : World, Calls Tryz.prog 116 #[.string k1, .string k2] W fun e w' => e = .returned (.int .i64 cs) ∧ W = w' := fun W => by rw [← hcs]; exact cmpS_is k1 k2 W
  have c2 : ∀ W : World, Calls Tryz.prog 117 #[.int .i64 i2, .int .i64 i1] W fun e w' => e = .returned (.int .i64 ci) ∧ W = w' := fun W => by rw [← hci]; exact cmpI_is i2 i1 W
  simp only [hcs, hci]
  have C1 := Lib.hid c1; clear c1
  have C2 := Lib.hid c2; clear c2
  clear hcs hci
  obtain ⟨r, hr⟩ : ∃ r, (if cs ≠ 0 then cs else ci) = r := ⟨_, rfl⟩
  have CO : Hid (∀ W2 : World, Calls Tryz.prog 115 #[.slice (some ⟨W2.heap.size, 0, none⟩) 2 2] (W2.alloc (.cells #[.int .i64 cs, .int .i64 ci] 3)) fun e w' => e = .returned (.int .i64 r) ∧ W2.alloc (.cells #[.int .i64 cs, .int .i64 ci] 3) = w') := by
    intro W2
    rw [← hr]
    exact or_is _ 2 cs ci _ (by simp) (by simp)
  rw [hr]
  clear hr
  go_enter Tryz.func114, Tryz.ntmps114
  go_wp2_with fail
  refine wp_region_still_tail 12 (by kernel_rfl) (by kernel_rfl) ?_
  change wpStill _ _ (World.drew _) (fun a' => wpList _ _ _ _ a' (World.drew _)) _ _
  generalize hW : World.drew _ = W2
  have c00 : W2.cell? ⟨w.heap.size, 0, none⟩ = some (.string k1) := by rw [← hW]; simp
  have c01 : W2.cell? ⟨w.heap.size, 1, none⟩ = some (.int .i64 i1) := by rw [← hW]; simp
  have c10 : W2.cell? ⟨w.heap.size + 1, 0, none⟩ = some (.string k2) := by rw [← hW]; simp
  have c11 : W2.cell? ⟨w.heap.size + 1, 1, none⟩ = some (.int .i64 i2) := by rw [← hW]; simp
  have HW := Lib.hid hW; clear hW
  simp only [List.take_succ_cons, List.take_zero, List.drop_succ_cons, List.drop_zero]
  iterate 4 still_step
  still_call ((C1.out _).mono (fun e w' ⟨h1, h2⟩ => ⟨h1, h2.symm⟩))
  iterate 6 still_step
  still_call ((C2.out _).mono (fun e w' ⟨h1, h2⟩ => ⟨h1, h2.symm⟩))
  refine wpStill_nil ?_
  go_wp2_with (go_at_call 115; refine (CO.out _).mono ?_; rintro e w' ⟨rfl, rfl⟩)
  go_ret
  obtain ⟨A, B, hA⟩ : ∃ A B, W2 = ((w.alloc A).alloc B).drew := ⟨_, _, HW.out.symm⟩
  have e := three_grown w A B (.cells #[.int .i64 cs, .int .i64 ci] 3)
  rw [← hA] at e
  exact ⟨rfl, 1, _, e⟩

theorem cmpE_lays (blk off size : Nat) (w : World) : CmpLays Tryz.prog 114 #[] encE 6 cfE blk off size w := fun _ _ _ _ x y => cmpE_is x y _

theorem cmpS_neg (a b : ByteArray) : cmpS a b < 0 ↔ Op.bytesLess a.toList b.toList = true := by
  unfold cmpS
  cases Op.bytesLess a.toList b.toList <;> cases Op.bytesLess b.toList a.toList <;> simp
theorem cmpS_zero (a b : ByteArray) : cmpS a b = 0 ↔ a = b := by
  unfold cmpS
  constructor
  · intro h
    cases h1 : Op.bytesLess a.toList b.toList
    · cases h2 : Op.bytesLess b.toList a.toList
      · have := Nam.less_total _ _ h1 h2
        apply ByteArray.ext
        apply Array.toList_inj.1
        rw [← ByteArray.toList_eq, ← ByteArray.toList_eq, this]
      · rw [h1, h2] at h; simp at h
    · rw [h1] at h; simp at h
  · rintro rfl
    rw [Nam.less_irrefl]; rfl

theorem ltE_iff (x y : Ent) : ltOf cfE x y = true ↔ Op.bytesLess x.key.toList y.key.toList = true ∨ (x.key = y.key ∧ y.id < x.id) := by
  unfold ltOf cfE
  rw [decide_eq_true_eq]
  by_cases h : cmpS x.key y.key = 0
  · have e := (cmpS_zero _ _).1 h
    rw [if_neg (by simpa using h), e, Nam.less_irrefl]
    unfold cmpI
    constructor
    · intro h1
      refine .inr ⟨rfl, ?_⟩
      by_cases c : y.id < x.id
      · exact c
      · rw [if_neg c] at h1
        split at h1 <;> simp at h1
    · rintro (h1 | ⟨_, h1⟩)
      · cases h1
      · rw [if_pos h1]; decide
  · rw [if_pos h, cmpS_neg]
    constructor
    · exact .inl
    · rintro (h1 | ⟨h1, _⟩)
      · exact h1
      · exact absurd ((cmpS_zero _ _).2 h1) h
theorem ltE_not (x y : Ent) : ltOf cfE x y = false ↔ Op.bytesLess y.key.toList x.key.toList = true ∨ (x.key = y.key ∧ x.id ≤ y.id) := by
  rw [← Bool.not_eq_true, ltE_iff]
  constructor
  · intro h
    cases h2 : Op.bytesLess y.key.toList x.key.toList
    · right
      cases h1 : Op.bytesLess x.key.toList y.key.toList
      · have e : x.key = y.key := (cmpS_zero _ _).1 (by unfold cmpS; rw [h1, h2]; rfl)
        exact ⟨e, Int.not_lt.1 (fun c => h (.inr ⟨e, c⟩))⟩
      · exact absurd (.inl h1) h
    · exact .inl rfl
  · rintro (h | ⟨h1, h2⟩) (h3 | ⟨h3, h4⟩)
    · rw [Nam.less_asymm _ _ h] at h3; cases h3
    · rw [h3, Nam.less_irrefl] at h; cases h
    · rw [h1, Nam.less_irrefl] at h3; cases h3
    · omega

theorem swoE : SWO (ltOf cfE) where
  irrefl x := (ltE_not x x).2 (.inr ⟨rfl, Int.le_refl _⟩)
  trans x y z h1 h2 := by
    rw [ltE_iff] at h1 h2 ⊢
    rcases h1 with h1 | ⟨e1, h1⟩ <;> rcases h2 with h2 | ⟨e2, h2⟩
    · exact .inl (Nam.less_trans _ _ _ h1 h2)
    · exact .inl (by rw [← e2]; exact h1)
    · exact .inl (by rw [e1]; exact h2)
    · exact .inr ⟨e1.trans e2, by omega⟩
  ntrans x y z h1 h2 := by
    rw [ltE_not] at h1 h2 ⊢
    rcases h1 with h1 | ⟨e1, h1⟩ <;> rcases h2 with h2 | ⟨e2, h2⟩
    · exact .inl (Nam.less_trans _ _ _ h2 h1)
    · exact .inl (by rw [← e2]; exact h1)
    · exact .inl (by rw [e1]; exact h2)
    · exact .inr ⟨e1.trans e2, by omega⟩
end Go.Proofs.YtjbjcfnbgcloiaaGreatDoor

/- Entries sorted, asks: the page texts merged (pgm.py). -/
namespace Go.Proofs.YtjbjcfnbgcloiaaGreatDoor
open Go.Shelf Go.RowKit Go.Lib Go.Sort Srt

def RowE (W : World) (v : Value) (l : List Ent) : Prop :=
  (v = .slice none 0 0 ∧ l = []) ∨ ∃ b o cap, v = .slice (some ⟨b, o, none⟩) l.length cap ∧ b < W.heap.size ∧ ∀ j u, (l.flatMap encE)[j]? = some u → W.cell? ⟨b, o + j, none⟩ = some u
theorem RowE.below {W W' : World} {v : Value} {l : List Ent} (h : RowE W v l) (hb : Below W.heap.size W W') : RowE W' v l := by
  rcases h with h | ⟨b, o, cap, hv, hlt, hc⟩
  · exact .inl h
  · refine .inr ⟨b, o, cap, hv, Nat.lt_of_lt_of_le hlt hb.size, fun j u hj => ?_⟩
    rw [hb.cell (p := ⟨b, o + j, none⟩) hlt]
    exact hc j u hj
theorem flat_length (l : List Ent) : (l.flatMap encE).length = l.length * 6 := by
  induction l with
  | nil => rfl
  | cons x t ih => rw [List.flatMap_cons, List.length_append, ih, encE_length, List.length_cons]; omega
theorem flat_get : ∀ (l : List Ent) (i c : Nat), i < l.length → c < 6 → (l.flatMap encE)[i * 6 + c]? = (encE (l.getD i default))[c]?
  | [], i, c, h, _ => by simp at h
  | x :: t, 0, c, _, hc => by
    rw [List.flatMap_cons, Nat.zero_mul, Nat.zero_add, List.getElem?_append_left (by rw [encE_length]; exact hc)]
    rfl
  | x :: t, i + 1, c, h, hc => by
    rw [List.flatMap_cons, List.getElem?_append_right (by rw [encE_length]; omega), encE_length, show (i + 1) * 6 + c - 6 = i * 6 + c by omega, flat_get t i c (by simpa using h) hc]
    rfl
theorem flat_flatK (l : List Ent) (j : Nat) (hj : j < l.length * 6) : (l.flatMap encE)[j]? = some ((flatK encE 6 l.toArray)[j]!) := by
  rw [get_flatK _ _ _ _ (by simpa using hj)]
  have h1 : j / 6 < l.length := by omega
  have e : j = j / 6 * 6 + j % 6 := by omega
  conv => lhs; rw [e]
  rw [flat_get l (j / 6) (j % 6) h1 (Nat.mod_lt _ (by omega))]
  have e2 : l.toArray[j / 6]! = l.getD (j / 6) default := by simp [h1]
  rw [e2]
  have h6 : j % 6 < (encE (l.getD (j / 6) default)).length := by rw [encE_length]; exact Nat.mod_lt _ (by omega)
  rw [List.getElem?_eq_getElem h6, getElem!_pos (encE (l.getD (j / 6) default)) (j % 6) h6]
theorem below_swk {k : Nat} {α : Type} [Inhabited α] {enc : α → List Value} {B : Nat} {a w w' : World} {g off : Nat} {d : Array α} (h : Below B a w) (hB : B ≤ w.heap.size) (hg : B ≤ g) (hs : SWK enc k w g off d w') : Below B a w' := by
  obtain ⟨n, os, rfl⟩ := hs
  refine ⟨h.os, h.tape, h.output, ?_, fun j hj => ?_⟩
  · unfold sortWorldK
    rw [size_grow, size_putRowK]
    exact Nat.le_trans h.size (Nat.le_add_right _ _)
  · unfold sortWorldK
    have e1 : j < (putRowK enc k (Sort.ahead w n) g off d).heap.size := by rw [size_putRowK]; exact Nat.lt_of_lt_of_le hj hB
    rw [heap_grow_old _ _ e1]
    unfold putRowK putRow mapBlock
    simp only [Array.getElem?_modify]
    rw [if_neg (by omega)]
    exact h.block j hj
def SortedE (l : List Ent) : Prop := l.Pairwise (fun x y => ltOf cfE y x = false)
theorem sortedE_of {d : Array Ent} (h : SortedIn (ltOf cfE) 0 d.size d) : SortedE d.toList := by
  unfold SortedE
  rw [List.pairwise_iff_getElem]
  intro i j hi hj hij
  have := h i j (Nat.zero_le _) hij (by simpa using hj)
  rw [getElem!_pos d j (by simpa using hj), getElem!_pos d i (by simpa using hi)] at this
  simpa using this
theorem perm_of {d d' : Array Ent} (h : PermIn 0 d.size d d') : d'.toList.Perm d.toList := by
  have := h.2.2
  rw [Array.extract_size, show d.size = d'.size from h.1.symm, Array.extract_size] at this
  exact this
theorem sortedE_unique {l m : List Ent} (h : ∀ x ∈ l, ∀ y ∈ l, x.key = y.key → x.id = y.id → x = y) (hp : l.Perm m) (h1 : SortedE l) (h2 : SortedE m) : l = m := by
  refine List.Perm.eq_of_pairwise (le := fun x y => ltOf cfE y x = false) ?_ h1 h2 hp
  intro x y hx hy hxy hyx
  have hy' := hp.symm.subset hy
  rw [ltE_not] at hxy hyx
  rcases hxy with c | ⟨c1, c2⟩
  · rcases hyx with e | ⟨e1, _⟩
    · rw [Nam.less_asymm _ _ c] at e; cases e
    · rw [e1, Nam.less_irrefl] at c; cases c
  · rcases hyx with e | ⟨e1, e2⟩
    · rw [c1, Nam.less_irrefl] at e; cases e
    · exact h x hx y hy' e1 (by omega)
theorem insE_is {w0 : World} {blk off : Nat} {d0 : Array Ent} (hH : HoldsK encE 6 w0 blk off d0) (hblk : blk < w0.heap.size) (hsz : d0.size < 1152921504606846976) (cap : Nat) (a b : Nat) (d : Array Ent) (W : World)
    (h : SWK encE 6 w0 blk off d W) (hs : d.size = d0.size) (hab : a ≤ b) (hb : b ≤ d0.size) :
    Calls Tryz.prog 129 #[.slice (some ⟨blk, off, none⟩) d0.size cap, .int .i64 a, .int .i64 b, .func (.func 114) #[] #[]] W fun e w' => e = .returned (.tuple #[]) ∧
      ∃ d' : Array Ent, SWK encE 6 w0 blk off d' w' ∧ d'.size = d0.size ∧ PermIn a b d d' ∧ SortedIn (ltOf cfE) a b d' := by
  have hHd := h.holds hblk hH hs
  have key := AnyQ.insertionSortCmpFunc Tryz.insE 6 Tryz.isAgg111 Tryz.sizeOf111 encE encE_length encE_one cfE 114 #[] blk off cap a b d W (enters_of Tryz.func114 (by kernel_rfl) rfl) (cmpE_lays _ _ _ _) hHd (h.lt hblk) hab (by omega) (by omega)
  rw [hs] at key
  refine Calls.mono key ?_
  rintro e w' ⟨rfl, n, os, rfl⟩
  obtain ⟨p1, p2⟩ := insertionSort_holds swoE d a b hab (by omega)
  exact ⟨rfl, _, h.on hblk n _ os p1.1, p1.1.trans hs, p1, p2⟩
set_option maxHeartbeats 1000000 in
theorem insE_none (v : Value) (g : Nat) (w : World) : Calls Tryz.prog 129 #[v, .int .i64 0, .int .i64 0, .func (.func g) #[] #[]] w fun e w' => e = .returned (.tuple #[]) ∧ w = w' := by
  go_enter Tryz.func129, Tryz.ntmps129
  go_wp2_with fail
  refine wp_loop_rounds 1 ?_
  rw [rounds_succ]
  go_wp2
  go_end0
  exact ⟨rfl, rfl⟩
set_option maxHeartbeats 1000000 in
theorem stableE_none (v : Value) (g : Nat) (w : World) : Calls Tryz.prog 125 #[v, .int .i64 0, .func (.func g) #[] #[]] w fun e w' => e = .returned (.tuple #[]) ∧ w = w' := by
  go_enter Tryz.func125, Tryz.ntmps125
  go_wp2_with fail
  refine wp_loop_rounds 1 ?_
  rw [rounds_succ]
  go_wp2_with (go_at_call 129; refine (insE_none _ _ _).mono ?_; rintro e w' ⟨rfl, rfl⟩)
  refine wp_loop_rounds 1 ?_
  rw [rounds_succ]
  go_wp2
  go_end0
  exact ⟨rfl, rfl⟩
set_option maxHeartbeats 1000000 in
theorem sortF_of (p : Option Addr) (n cap g : Nat) (w : World) (R : World → Prop)
    (h : Calls Tryz.prog 125 #[.slice p n cap, .int .i64 n, .func (.func g) #[] #[]] w fun e w' => e = .returned (.tuple #[]) ∧ R w') :
    Calls Tryz.prog 113 #[.slice p n cap, .func (.func g) #[] #[]] w fun e w' => e = .returned (.tuple #[]) ∧ R w' := by
  have H := Lib.hid h; clear h
  go_enter Tryz.func113, Tryz.ntmps113
  go_wp2_with (go_at_call 125; refine H.out.mono ?_; rintro e w' ⟨rfl, hR⟩)
  go_end0
  exact ⟨rfl, hR⟩
theorem cloneE_is (l : List Ent) (hl : l.length ≤ 1000000) (v : Value) (w : World) (h : RowE w v l) :
    Calls Tryz.prog 112 #[v] w fun e w' =>
      ∃ v', e = .returned v' ∧ w'.ownsRow w.heap.size 111 6 v' l.length (l.flatMap encE) ∧ Below w.heap.size w w' := by
  obtain ⟨i0, hi, hz0, hz1, hz2⟩ := info_parts (show (Tryz.prog.info? 111).map (fun i => (i.zero, i.size, i.bytes)) = some (some (.agg #[.string ⟨#[]⟩, .int .i64 0, .bool false, .int .i64 0, .int .u32 0, .bool false]), 6, 56) by kernel_rfl)
  rcases h with ⟨rfl, rfl⟩ | ⟨b, o, cap, rfl, hb, hc⟩
  · have key := AnyE.slices_Clone_nil Tryz.cloneE 0 0 w
    refine Calls.mono key ?_
    rintro e w' ⟨rfl, rfl⟩
    exact ⟨_, rfl, ⟨rfl, .inl ⟨rfl, rfl⟩⟩, Below.refl _ _⟩
  · have key := AnyE.slices_Clone Tryz.cloneE i0 _ 6 56 hi hz0 hz1 hz2 rfl (by omega) Tryz.sizeOf111 b o l.length cap (l.flatMap encE) w (flat_length l) (by unfold maxLen; omega) (by omega) hc (by
      intro u hu
      obtain ⟨x, _, hx⟩ := List.mem_flatMap.1 hu
      exact encE_one x u hx)
    refine Calls.mono key ?_
    rintro e w' ⟨v', rfl, h1, _, h2⟩
    exact ⟨v', rfl, h1, h2⟩
set_option maxHeartbeats 2000000 in
theorem psort_is (l : List Ent) (hl : l.length ≤ 1000000) (v : Value) (w : World) (h : RowE w v l) :
    Calls Tryz.prog 98 #[v] w fun e w' => ∃ v' l', e = .returned v' ∧ RowE w' v' l' ∧ l'.Perm l ∧ SortedE l' ∧ (∀ b o n c, v' = .slice (some ⟨b, o, none⟩) n c → w.heap.size ≤ b) ∧ Below w.heap.size w w' := by
  have HC := Lib.hid (cloneE_is l hl v w h)
  clear h
  go_enter Tryz.func98, Tryz.ntmps98
  go_wp2_with fail
  refine HC.out.mono ?_
  rintro e w1 ⟨v1, rfl, hown, hb1⟩
  by_cases h0 : l.length = 0
  · have hl0 : l = [] := List.length_eq_zero_iff.1 h0
    subst hl0
    obtain ⟨p, c, hv1, hR, hfr⟩ : ∃ p c, v1 = .slice p 0 c ∧ RowE w1 v1 [] ∧ ∀ b o n c, v1 = .slice (some ⟨b, o, none⟩) n c → w.heap.size ≤ b := by
      rcases hown.2 with ⟨h1, _⟩ | ⟨g, cap, cur, h1, h2, h3, _⟩
      · exact ⟨none, 0, h1, .inl ⟨h1, rfl⟩, fun b o n c h => by rw [h1] at h; cases h⟩
      · exact ⟨_, _, h1, .inr ⟨g, 0, cap, h1, (Array.getElem?_eq_some_iff.1 h3).1, fun j u hj => by simp at hj⟩, fun b o n c h => by rw [h1] at h; cases h; exact h2⟩
    subst hv1
    have c := Lib.hid (sortF_of p 0 c 114 w1 (fun w' => w1 = w') (stableE_none _ _ _))
    clear hown HC h0
    go_wp2_with (go_at_call 113; refine c.out.mono ?_; rintro e w' ⟨rfl, rfl⟩)
    go_ret
    exact ⟨_, [], rfl, hR, List.Perm.refl _, List.Pairwise.nil, hfr, hb1⟩
  · obtain ⟨g, cap, cur, hv1, hg, hhp, hcap⟩ : ∃ g cap cur, v1 = .slice (some ⟨g, 0, none⟩) l.length cap ∧ w.heap.size ≤ g ∧ w1.heap[g]? = some (.cells cur 111 (0, 0)) ∧ True := by
      rcases hown.2 with ⟨_, h1⟩ | ⟨g, cap, cur, h1, h2, h3, _⟩
      · omega
      · exact ⟨g, cap, cur, h1, h2, h3, trivial⟩
    subst hv1
    have hgl : g < w1.heap.size := (Array.getElem?_eq_some_iff.1 hhp).1
    have hH : HoldsK encE 6 w1 g 0 l.toArray := by
      intro j hj
      rw [size_flatK] at hj
      have hj' : j < l.length * 6 := by simpa using hj
      rw [Nat.zero_add]
      exact ⟨by rw [hown.cellAt j hj', flat_flatK l j hj']; rfl, hown.frozenAt j⟩
    have R : RowK encE 6 w1 g 0 l.toArray := ⟨encE_length, encE_one, hH, hgl⟩
    have hsz : l.toArray.size < 1152921504606846976 := by simp; omega
    have st := stable_is stb R cfE 114 #[] (enters_of Tryz.func114 (by kernel_rfl) rfl) (cmpE_lays _ _ _ _) swoE hsz cap (enters_of Tryz.func129 (by kernel_rfl) rfl) (fun a b d W => insE_is hH hgl hsz cap a b d W) (SWK.start hH) rfl
    rw [show l.toArray.size = l.length by simp] at st
    have c := Lib.hid (sortF_of _ _ _ _ _ _ st)
    have hB : w.heap.size ≤ w1.heap.size := hb1.size
    have HH := Lib.hid hH
    clear hown HC h0 hhp st hH R hsz
    go_wp2_with (go_at_call 113; refine c.out.mono ?_; rintro e w' ⟨rfl, d', hS, hz, hP, hD⟩)
    go_ret
    have hz' : d'.size = l.toArray.size := by simpa using hz
    have hHd := hS.holds hgl HH.out hz'
    refine ⟨_, d'.toList, rfl, .inr ⟨g, 0, cap, by simp [hz], Nat.lt_of_lt_of_le hgl hS.le, fun j u hj => ?_⟩, ?_, ?_, fun b o n c h => by cases h; exact hg, below_swk hb1 hB hg hS⟩
    · have hj' : j < d'.toList.length * 6 := by
        rw [← flat_length]
        exact (List.getElem?_eq_some_iff.1 hj).1
      rw [flat_flatK _ _ hj'] at hj
      injection hj with hj
      have := (hHd j (by rw [size_flatK]; simpa using hj')).1
      rw [this, ← hj]
      rfl
    · have := perm_of (d := l.toArray) (d' := d') (by rw [show l.toArray.size = l.length by simp]; exact hP)
      simpa using this
    · exact sortedE_of (by rw [hz]; exact hD)
end Go.Proofs.YtjbjcfnbgcloiaaGreatDoor

namespace Go.Proofs.YtjbjcfnbgcloiaaGreatDoor
open Go.Shelf Go.RowKit Go.Lib

structure AtE (W : World) (b p : Nat) (e : Ent) : Prop where
  key : W.cell? ⟨b, p, none⟩ = some (.string e.key)
  id : W.cell? ⟨b, p + 1, none⟩ = some (.int .i64 e.id)
  mark : W.cell? ⟨b, p + 2, none⟩ = some (.bool e.mark)
  size : W.cell? ⟨b, p + 3, none⟩ = some (.int .i64 e.size)
  sum : W.cell? ⟨b, p + 4, none⟩ = some (.int .u32 e.sum)
  latest : W.cell? ⟨b, p + 5, none⟩ = some (.bool e.latest)
theorem at_of {W : World} {b o : Nat} {l : List Ent} (hc : ∀ j u, (l.flatMap encE)[j]? = some u → W.cell? ⟨b, o + j, none⟩ = some u) (i : Nat) (hi : i < l.length) : AtE W b (o + i * 6) l[i] := by
  have h : ∀ c, c < 6 → ∀ u, (encE l[i])[c]? = some u → W.cell? ⟨b, o + i * 6 + c, none⟩ = some u := fun c hc6 u hu => by
    rw [Nat.add_assoc]
    refine hc _ _ ?_
    rw [flat_get l i c hi hc6, List.getD_eq_getElem?_getD, List.getElem?_eq_getElem hi]
    exact hu
  exact ⟨h 0 (by omega) _ rfl, h 1 (by omega) _ rfl, h 2 (by omega) _ rfl, h 3 (by omega) _ rfl, h 4 (by omega) _ rfl, h 5 (by omega) _ rfl⟩
end Go.Proofs.YtjbjcfnbgcloiaaGreatDoor

namespace Go.Proofs.YtjbjcfnbgcloiaaGreatDoor
open Go.Shelf Go.RowKit Go.Lib

theorem list_inj_data {a b : ByteArray} (h : a.toList = b.toList) : a = b := by
  rw [ByteArray.toList_eq, ByteArray.toList_eq] at h
  exact ByteArray.ext (Array.toList_inj.1 h)
theorem len_of_row {W : World} {v : Value} {l : List Ent} (h : RowE W v l) : ∃ p c, v = .slice p l.length c ∧ (0 < l.length → ∃ b o, p = some ⟨b, o, none⟩ ∧ b < W.heap.size ∧ ∀ j u, (l.flatMap encE)[j]? = some u → W.cell? ⟨b, o + j, none⟩ = some u) := by
  rcases h with ⟨rfl, rfl⟩ | ⟨b, o, cap, rfl, hb, hc⟩
  · exact ⟨none, 0, rfl, fun h => by simp at h⟩
  · exact ⟨_, cap, rfl, fun _ => ⟨b, o, rfl, hb, hc⟩⟩
end Go.Proofs.YtjbjcfnbgcloiaaGreatDoor

namespace Go.Proofs.YtjbjcfnbgcloiaaGreatDoor
open Go.Shelf Go.RowKit Go.Lib

structure AskV where
  pre : ByteArray
  fr : ByteArray
  fid : Int
  most : Int
deriving Inhabited
def encA (q : AskV) : List Value := [.string q.pre, .string q.fr, .int .i64 q.fid, .int .i64 q.most]
structure AskAt (W : World) (a : Nat) (q : AskV) : Prop where
  lt : a < W.heap.size
  pre : W.cell? ⟨a, 0, none⟩ = some (.string q.pre)
  fr : W.cell? ⟨a, 1, none⟩ = some (.string q.fr)
  fid : W.cell? ⟨a, 2, none⟩ = some (.int .i64 q.fid)
  most : W.cell? ⟨a, 3, none⟩ = some (.int .i64 q.most)
def objB (q : AskV) (x : Ent) : Bool := x.latest && !x.mark && (q.fr.toList.isEmpty || Op.bytesLess q.fr.toList x.key.toList)
def verB (q : AskV) (x : Ent) : Bool := q.fr.toList.isEmpty || Op.bytesLess q.fr.toList x.key.toList || (x.key.toList == q.fr.toList && decide (x.id < q.fid))
set_option maxHeartbeats 2000000 in
theorem objB_is (q : AskV) (x : Ent) (a : Nat) (w : World) (h : AskAt w a q) :
    Calls Tryz.prog 89 #[.agg (encE x).toArray, .pointer (some ⟨a, 0, none⟩)] w fun e w' => e = .returned (.bool (objB q x)) ∧ Below w.heap.size w w' := by
  obtain ⟨k1, i1, m1, s1, u1, l1⟩ := x
  unfold encE objB
  have ca : ∀ o, (w.alloc o).cell? ⟨a, 1, none⟩ = some (.string q.fr) := fun o => by rw [World.cell?_alloc_lt _ _ _ h.lt]; exact h.fr
  obtain ⟨f, hf⟩ : ∃ f, q.fr = f := ⟨_, rfl⟩
  rw [hf] at ca
  simp only [hf]
  clear hf h
  obtain ⟨em, hem⟩ : ∃ b, f.toList.isEmpty = b := ⟨_, rfl⟩
  obtain ⟨le, hle⟩ : ∃ b, Op.bytesLess f.toList k1.toList = b := ⟨_, rfl⟩
  have cl : ∀ W : World, Calls Tryz.prog 90 #[.string f, .string k1] W fun e w' => e = .returned (.bool le) ∧ W = w' := fun W => by rw [← hle]; exact less_is f k1 W
  rw [hem, hle]
  have CL := Lib.hid cl; clear cl
  clear hle
  cases l1 <;> cases m1 <;> cases em
  all_goals
    go_enter Tryz.func89, Tryz.ntmps89
    go_wp2_with (go_at_call 90; refine (CL.out _).mono ?_; rintro e w' ⟨rfl, rfl⟩)
    go_ret
    exact ⟨congrArg (fun x => Ending.returned (Value.bool x)) (by simp), (Below.refl _ _).alloc (Nat.le_refl _) _⟩
set_option maxHeartbeats 2000000 in
theorem verB_is (q : AskV) (x : Ent) (a : Nat) (w : World) (h : AskAt w a q) :
    Calls Tryz.prog 91 #[.agg (encE x).toArray, .pointer (some ⟨a, 0, none⟩)] w fun e w' => e = .returned (.bool (verB q x)) ∧ Below w.heap.size w w' := by
  obtain ⟨k1, i1, m1, s1, u1, l1⟩ := x
  unfold encE verB
  have ca : ∀ o, (w.alloc o).cell? ⟨a, 1, none⟩ = some (.string q.fr) := fun o => by rw [World.cell?_alloc_lt _ _ _ h.lt]; exact h.fr
  have cb : ∀ o, (w.alloc o).cell? ⟨a, 2, none⟩ = some (.int .i64 q.fid) := fun o => by rw [World.cell?_alloc_lt _ _ _ h.lt]; exact h.fid
  obtain ⟨f, hf⟩ : ∃ f, q.fr = f := ⟨_, rfl⟩
  obtain ⟨fi, hfi⟩ : ∃ f, q.fid = f := ⟨_, rfl⟩
  rw [hf] at ca
  rw [hfi] at cb
  simp only [hf, hfi]
  clear hf hfi h
  obtain ⟨em, hem⟩ : ∃ b, f.toList.isEmpty = b := ⟨_, rfl⟩
  obtain ⟨le, hle⟩ : ∃ b, Op.bytesLess f.toList k1.toList = b := ⟨_, rfl⟩
  obtain ⟨eq, heq⟩ : ∃ b, (k1.toList == f.toList) = b := ⟨_, rfl⟩
  have cl : ∀ W : World, Calls Tryz.prog 90 #[.string f, .string k1] W fun e w' => e = .returned (.bool le) ∧ W = w' := fun W => by rw [← hle]; exact less_is f k1 W
  rw [hem, hle, heq]
  have CL := Lib.hid cl; clear cl
  clear hle
  cases em <;> cases le <;> cases eq
  all_goals
    go_enter Tryz.func91, Tryz.ntmps91
    go_wp2_with (go_at_call 90; refine (CL.out _).mono ?_; rintro e w' ⟨rfl, rfl⟩)
    go_ret
    exact ⟨congrArg (fun x => Ending.returned (Value.bool x)) (by simp), (Below.refl _ _).alloc (Nat.le_refl _) _⟩
end Go.Proofs.YtjbjcfnbgcloiaaGreatDoor

namespace Go.Proofs.YtjbjcfnbgcloiaaGreatDoor
open Go.Shelf Go.RowKit Go.Lib

structure KeptBut (N g : Nat) (a b : World) : Prop where
  os : b.os = a.os
  tape : b.tape = a.tape
  output : b.output = a.output
  size : a.heap.size ≤ b.heap.size
  block : ∀ k, k < N → k ≠ g → b.heap[k]? = a.heap[k]?
theorem KeptBut.refl (N g : Nat) (a : World) : KeptBut N g a a := ⟨rfl, rfl, rfl, Nat.le_refl _, fun _ _ _ => rfl⟩
theorem KeptBut.below {N g : Nat} {a b c : World} (h : KeptBut N g a b) (hN : N ≤ b.heap.size) (hb : Below b.heap.size b c) : KeptBut N g a c :=
  ⟨hb.os.trans h.os, hb.tape.trans h.tape, hb.output.trans h.output, Nat.le_trans h.size hb.size, fun k hk hg => (hb.block k (by omega)).trans (h.block k hk hg)⟩
theorem KeptBut.alloc {N g : Nat} {a b : World} (h : KeptBut N g a b) (hN : N ≤ b.heap.size) (o : Obj) : KeptBut N g a (b.alloc o) := h.below hN ((Below.refl _ _).alloc (Nat.le_refl _) o)
theorem KeptBut.grown {N g : Nat} {a b c : World} {row : Option Nat} (h : KeptBut N g a b) (hN : N ≤ b.heap.size) (hg : b.grownBy c row) (hr : ∀ k, row = some k → N ≤ k) : KeptBut N g a c :=
  ⟨hg.os.trans h.os, hg.tape.trans h.tape, hg.output.trans h.output, Nat.le_trans h.size hg.size, fun k hk hkg => (hg.block k (by omega) (fun e => by have := hr k e.symm; omega)).trans (h.block k hk hkg)⟩
theorem KeptBut.setCell {N g : Nat} {a b : World} (h : KeptBut N g a b) (i : Nat) (u : Value) : KeptBut N g a (b.setCell ⟨g, i, none⟩ u) :=
  ⟨h.os, h.tape, h.output, Nat.le_trans h.size (by simp [World.setCell]), fun k hk hkg => (Below.heap_setCell _ _ _ _ hkg).trans (h.block k hk hkg)⟩
theorem KeptBut.drewN {N g : Nat} {a b : World} (h : KeptBut N g a b) (n : Nat) : KeptBut N g a (b.drewN n) := ⟨h.os, h.tape, h.output, h.size, h.block⟩
theorem KeptBut.cell {N g : Nat} {a b : World} (h : KeptBut N g a b) {p : Addr} (hp : p.block < N) (hg : p.block ≠ g) : b.cell? p = a.cell? p := World.cell?_of_block (h.block _ hp hg)
theorem KeptBut.toBelow {N g B : Nat} {a b w : World} (h : KeptBut N g a b) (hw : Below B w a) (hB : B ≤ N) (hg : B ≤ g) : Below B w b :=
  ⟨h.os.trans hw.os, h.tape.trans hw.tape, h.output.trans hw.output, Nat.le_trans hw.size h.size, fun k hk => (h.block k (by omega) (by omega)).trans (hw.block k hk)⟩
theorem cells_of_heap {W : World} {g : Nat} {cs : Array Value} {t : TypeId} (h : W.heap[g]? = some (.cells cs t (0, 0))) : (∀ i u, cs[i]? = some u → W.cell? ⟨g, i, none⟩ = some u) ∧ ∀ i, W.frozen? ⟨g, i, none⟩ = false := by
  constructor
  · intro i u hu
    simp [World.cell?, h, hu]
  · intro i
    simp [World.frozen?, h]
theorem heap_set {W : World} {g : Nat} {cs : Array Value} {t : TypeId} (h : W.heap[g]? = some (.cells cs t (0, 0))) (i : Nat) (u : Value) : (W.setCell ⟨g, i, none⟩ u).heap[g]? = some (.cells (cs.setIfInBounds i u) t (0, 0)) :=
  heap_setCell_same W g i cs t u h
end Go.Proofs.YtjbjcfnbgcloiaaGreatDoor
