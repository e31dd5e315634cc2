/- Lives as texts, plainly: what the parts of a line are, and their reading. -/
import Derived.Test.YtghllfihmmlcnaaDoorNamP
import Derived.Lib.ItoaNum
import Derived.Lib.AtoiAll
import Derived.Lib.ItoaMem
import Derived.Lib.AtoiAllCases

namespace Go.Proofs.YtghllfihmmlcnaaDoor
open Nam

/-- A text cut at each of one byte. -/
def splitB (c : UInt8) : List UInt8 → List (List UInt8)
  | [] => [[]]
  | x :: t => if x = c then [] :: splitB c t else (splitB c t).modifyHead (x :: ·)

theorem splitB_cons (c x : UInt8) (t : List UInt8) : splitB c (x :: t) = if x = c then [] :: splitB c t else (splitB c t).modifyHead (x :: ·) := rfl
theorem splitB_ne (c : UInt8) (l : List UInt8) : splitB c l ≠ [] := by
  induction l with
  | nil => simp [splitB]
  | cons x t ih =>
    rw [splitB_cons]
    split
    · simp
    · cases h : splitB c t with
      | nil => exact absurd h ih
      | cons a r => simp

theorem modifyHead_nil (L : List (List UInt8)) : L.modifyHead ([] ++ ·) = L := by
  cases L <;> simp

theorem splitB_step (c x : UInt8) (cur t : List UInt8) : (splitB c (x :: t)).modifyHead (cur ++ ·) = if x = c then cur :: splitB c t else (splitB c t).modifyHead (cur ++ [x] ++ ·) := by
  rw [splitB_cons]
  split
  · simp
  · cases h : splitB c t with
    | nil => exact absurd h (splitB_ne c t)
    | cons a r => simp

/-- What was cut joins again. -/
def joinB (c : UInt8) : List (List UInt8) → List UInt8
  | [] => []
  | [a] => a
  | a :: b :: r => a ++ c :: joinB c (b :: r)

theorem joinB_split (c : UInt8) (l : List UInt8) : joinB c (splitB c l) = l := by
  induction l with
  | nil => rfl
  | cons x t ih =>
    rw [splitB_cons]
    split
    · rename_i h
      subst h
      cases hs : splitB x t with
      | nil => exact absurd hs (splitB_ne _ t)
      | cons a r => rw [hs] at ih; simp [joinB, ih]
    · cases hs : splitB c t with
      | nil => exact absurd hs (splitB_ne c t)
      | cons a r =>
        rw [hs] at ih
        cases r with
        | nil => simp [joinB] at ih ⊢; exact ih
        | cons b r => simp [joinB] at ih ⊢; exact ih

theorem splitB_none (c : UInt8) (l : List UInt8) (h : c ∉ l) : splitB c l = [l] := by
  induction l with
  | nil => rfl
  | cons x t ih =>
    simp only [List.mem_cons, not_or] at h
    rw [splitB_cons, if_neg (fun e => h.1 e.symm), ih h.2]
    rfl

theorem splitB_put (c : UInt8) (L : List UInt8) : ∀ a : List UInt8, c ∉ a → splitB c (a ++ c :: L) = a :: splitB c L
  | [], _ => by show splitB c (c :: L) = _; rw [splitB_cons, if_pos rfl]
  | x :: t, ha => by
    simp only [List.mem_cons, not_or] at ha
    show splitB c (x :: (t ++ c :: L)) = _
    rw [splitB_cons, if_neg (fun e => ha.1 e.symm), splitB_put c L t ha.2]
    rfl
theorem splitB_join (c : UInt8) : ∀ (L : List (List UInt8)), L ≠ [] → (∀ a ∈ L, c ∉ a) → splitB c (joinB c L) = L
  | [], h, _ => absurd rfl h
  | [a], _, h => splitB_none c a (h a (by simp))
  | a :: b :: r, _, h => by
    show splitB c (a ++ c :: joinB c (b :: r)) = _
    rw [splitB_put c _ a (h a (by simp)), splitB_join c (b :: r) (by simp) (fun x hx => h x (List.mem_cons_of_mem _ hx))]

def mkS (l : List UInt8) : ByteArray := ⟨l.toArray⟩
theorem mkS_list (l : List UInt8) : (mkS l).data.toList = l := rfl
theorem mkS_of (s : ByteArray) : mkS s.data.toList = s := by cases s; rfl
theorem mkS_size (l : List UInt8) : (mkS l).size = l.length := by simp [mkS, ByteArray.size]
theorem eq_mkS {t : ByteArray} {l : List UInt8} (h : t.data.toList = l) : t = mkS l := by rw [← h, mkS_of]
theorem mkS_inj {a b : List UInt8} : mkS a = mkS b ↔ a = b := ⟨fun h => congrArg (fun t : ByteArray => t.data.toList) h, fun h => by rw [h]⟩
theorem mkS_app (a b : List UInt8) : mkS a ++ mkS b = mkS (a ++ b) := by
  have h : (mkS a ++ mkS b).data.toList = a ++ b := by simp [mkS]
  rw [← mkS_of (mkS a ++ mkS b), h]
theorem extract_mkS (s : ByteArray) (a b : Nat) : s.extract a b = mkS ((s.data.toList.drop a).take (b - a)) := by
  apply ByteArray.ext
  apply Array.toList_inj.1
  rw [Lib.extract_data]
  rfl

/-- Bytes that are not the one at which is cut go into the first part. -/
theorem splitB_skip (c : UInt8) (t : List UInt8) : ∀ (x cur : List UInt8), c ∉ x → (splitB c (x ++ t)).modifyHead (cur ++ ·) = (splitB c t).modifyHead (cur ++ x ++ ·)
  | [], cur, _ => by simp
  | y :: x, cur, h => by
    simp only [List.mem_cons, not_or] at h
    rw [List.cons_append, splitB_step, if_neg (fun e => h.1 e.symm), splitB_skip c t x (cur ++ [y]) h.2]
    simp

/-- Bytes as they are written, and read. -/
def textB (s : List UInt8) : List UInt8 := if s = [] then [46] else pathB s
def readB (s : List UInt8) : List UInt8 × Bool := if s = [46] then ([], true) else match unp s with
  | some t => (t, t != [])
  | none => ([], false)
end Go.Proofs.YtghllfihmmlcnaaDoor

/- Numbers as they are written, plainly: the one spelling of each; their reading. -/
namespace Go.Proofs.YtghllfihmmlcnaaDoor
open Nam Lib

def isDig (c : UInt8) : Prop := 48 ≤ c.toNat ∧ c.toNat ≤ 57
def valD (u : Nat) (l : List UInt8) : Nat := l.foldl (fun u c => u * 10 + (c.toNat - 48)) u

theorem valD_snoc (u : Nat) (l : List UInt8) (c : UInt8) : valD u (l ++ [c]) = valD u l * 10 + (c.toNat - 48) := by simp [valD]
theorem dig_of (d : Nat) (h : d < 10) : (UInt8.ofNat (48 + d)).toNat = 48 + d := by simp; omega

/-- A numeral without a sign: digits, no 0 ahead. -/
structure Canon (l : List UInt8) : Prop where
  ne : l ≠ []
  dig : ∀ c ∈ l, isDig c
  head : l.head? = some 48 → l.length = 1

theorem decDigits_big {u : Nat} (h : ¬ u < 10) : decDigits u = decDigits (u / 10) ++ [UInt8.ofNat (48 + u % 10)] := by rw [decDigits, dif_neg h]

theorem decDigits_canon : ∀ (n u : Nat), u ≤ n → Canon (decDigits u) ∧ valD 0 (decDigits u) = u ∧ (u ≠ 0 → (decDigits u).head? ≠ some 48) := by
  intro n
  induction n with
  | zero =>
    intro u hu
    obtain rfl : u = 0 := by omega
    rw [decDigits_one (by omega)]
    exact ⟨⟨by simp, fun c hc => by simp at hc; subst hc; exact ⟨by decide, by decide⟩, fun _ => rfl⟩, by decide, fun h => absurd rfl h⟩
  | succ n ih =>
    intro u hu
    by_cases h : u < 10
    · rw [decDigits_one h]
      have hd := dig_of u h
      refine ⟨⟨by simp, fun c hc => ?_, fun _ => rfl⟩, ?_, fun h0 hh => ?_⟩
      · simp only [List.mem_singleton] at hc
        subst hc
        exact ⟨by rw [hd]; omega, by rw [hd]; omega⟩
      · simp only [valD, List.foldl_cons, List.foldl_nil, hd]; omega
      · simp only [List.head?_cons, Option.some.injEq] at hh
        have := congrArg UInt8.toNat hh
        rw [hd] at this
        have h48 : (48 : UInt8).toNat = 48 := rfl
        omega
    · have hq : u / 10 ≤ n := by omega
      obtain ⟨h1, h2, h3⟩ := ih (u / 10) hq
      rw [decDigits_big h]
      have hd := dig_of (u % 10) (Nat.mod_lt _ (by omega))
      have hne := h3 (by omega)
      have hh : (decDigits (u / 10) ++ [UInt8.ofNat (48 + u % 10)]).head? = (decDigits (u / 10)).head? := by
        cases hx : decDigits (u / 10) with
        | nil => exact absurd hx h1.ne
        | cons a t => rfl
      refine ⟨⟨by simp, fun c hc => ?_, fun e => ?_⟩, ?_, fun _ => by rw [hh]; exact hne⟩
      · rcases List.mem_append.1 hc with hc | hc
        · exact h1.dig c hc
        · simp only [List.mem_singleton] at hc
          subst hc
          exact ⟨by rw [hd]; omega, by rw [hd]; omega⟩
      · rw [hh] at e; exact absurd e hne
      · rw [valD_snoc, h2, hd]; omega

theorem valD_pos {l : List UInt8} (h : Canon l) (h0 : l.head? ≠ some 48) : 0 < valD 0 l := by
  have mono : ∀ (t : List UInt8) (u : Nat), 0 < u → 0 < valD u t := by
    intro t
    induction t with
    | nil => intro u hu; exact hu
    | cons c t ih => intro u hu; exact ih (u * 10 + (c.toNat - 48)) (by omega)
  cases l with
  | nil => exact absurd rfl h.ne
  | cons c t =>
    have hc := h.dig c (by simp)
    show 0 < valD (0 * 10 + (c.toNat - 48)) t
    refine mono t _ ?_
    have : c.toNat ≠ 48 := fun e => h0 (by simp; exact UInt8.toNat_inj.1 e)
    have := hc.1
    omega

/-- .. so each number has one. -/
theorem decDigits_val (l : List UInt8) (h : Canon l) : decDigits (valD 0 l) = l := by
  have key : ∀ (n : Nat) (l : List UInt8), l.length = n → Canon l → decDigits (valD 0 l) = l := by
    intro n
    induction n with
    | zero => intro l hl h; exact absurd (List.length_eq_zero_iff.1 hl) h.ne
    | succ n ih =>
      intro l hl h
      obtain ⟨t, c, rfl⟩ : ∃ t c, l = t ++ [c] := ⟨l.dropLast, l.getLast h.ne, (List.dropLast_concat_getLast h.ne).symm⟩
      have hc := h.dig c (by simp)
      rw [valD_snoc]
      by_cases ht : t = []
      · subst ht
        have e : valD 0 [] * 10 + (c.toNat - 48) = c.toNat - 48 := by simp [valD]
        rw [e, decDigits_one (by have := hc.2; omega)]
        congr 1
        apply UInt8.toNat_inj.1
        have := hc.1
        have := hc.2
        rw [dig_of _ (by omega)]
        omega
      · have hhd : (t ++ [c]).head? = t.head? := by
          cases t with
          | nil => exact absurd rfl ht
          | cons a r => rfl
        have h48 : t.head? ≠ some 48 := fun e => by
          have := h.head (by rw [hhd]; exact e)
          rw [List.length_append, List.length_singleton] at this
          exact ht (List.length_eq_zero_iff.1 (by omega))
        have hct : Canon t := ⟨ht, fun x hx => h.dig x (by simp [hx]), fun e => absurd e h48⟩
        have hpos := valD_pos hct h48
        have hlt : c.toNat - 48 < 10 := by have := hc.2; omega
        rw [decDigits_big (by omega), show (valD 0 t * 10 + (c.toNat - 48)) / 10 = valD 0 t by omega, show (valD 0 t * 10 + (c.toNat - 48)) % 10 = c.toNat - 48 by omega, ih t (by simp at hl; exact hl) hct]
        congr 2
        apply UInt8.toNat_inj.1
        rw [dig_of _ hlt]
        have := hc.1
        omega
  exact key _ l rfl h

theorem parse_digits : ∀ (l : List UInt8) (u : Nat), (∀ c ∈ l, isDig c) → valD u l < 18446744073709551616 → parseUint10 u l = .ok (valD u l)
  | [], u, _, _ => rfl
  | c :: r, u, hd, hv => by
    have hc := hd c (by simp)
    have mono : ∀ (t : List UInt8) (v : Nat), v ≤ valD v t := by
      intro t
      induction t with
      | nil => intro v; exact Nat.le_refl _
      | cons x t ih => intro v; exact Nat.le_trans (by omega) (ih (v * 10 + (x.toNat - 48)))
    have h1 : valD u (c :: r) = valD (u * 10 + (c.toNat - 48)) r := rfl
    have h2 := mono r (u * 10 + (c.toNat - 48))
    simp only [parseUint10]
    rw [if_pos (show 48 ≤ c.toNat ∧ c.toNat ≤ 57 from hc), if_neg (by omega), if_neg (by omega), h1]
    exact parse_digits r _ (fun x hx => hd x (List.mem_cons_of_mem _ hx)) (by rw [← h1]; exact hv)

def canonB (l : List UInt8) : Bool := !l.isEmpty && l.all (fun c => decide (48 ≤ c.toNat) && decide (c.toNat ≤ 57)) && (decide (l.head? ≠ some 48) || decide (l.length = 1))
theorem canonB_iff (l : List UInt8) : canonB l = true ↔ Canon l := by
  unfold canonB
  simp only [Bool.and_eq_true, Bool.or_eq_true, decide_eq_true_eq, List.all_eq_true, Bool.not_eq_true', List.isEmpty_eq_false_iff]
  constructor
  · rintro ⟨⟨h1, h2⟩, h3⟩
    refine ⟨h1, h2, fun e => ?_⟩
    rcases h3 with h3 | h3
    · exact absurd e h3
    · exact h3
  · rintro ⟨h1, h2, h3⟩
    refine ⟨⟨h1, h2⟩, ?_⟩
    by_cases e : l.head? = some 48
    · exact .inr (h3 e)
    · exact .inl e

/-- The int that is written so; none: none is. -/
def numOf (s : List UInt8) : Option Int :=
  if s.head? = some 45 then
    if canonB s.tail && decide (s.tail.head? ≠ some 48) && decide (valD 0 s.tail ≤ 9223372036854775808) then some (-((valD 0 s.tail : Nat) : Int)) else none
  else if canonB s && decide (valD 0 s ≤ 9223372036854775807) then some ((valD 0 s : Nat) : Int) else none

theorem canon_head {l : List UInt8} (h : Canon l) : l.head? ≠ some 45 ∧ l.head? ≠ some 43 := by
  cases l with
  | nil => exact ⟨by simp, by simp⟩
  | cons c t =>
    have hc := (h.dig c (by simp)).1
    constructor
    · intro e
      simp only [List.head?_cons, Option.some.injEq] at e
      subst e
      exact absurd hc (by decide)
    · intro e
      simp only [List.head?_cons, Option.some.injEq] at e
      subst e
      exact absurd hc (by decide)

/-- What is written is read. -/
theorem numOf_itoa (v : Int) (h0 : -9223372036854775808 ≤ v) (h1 : v ≤ 9223372036854775807) : numOf (itoa v) = some v := by
  unfold numOf
  by_cases hv : v < 0
  · obtain ⟨u, rfl⟩ : ∃ u : Nat, v = -(u : Int) := ⟨v.natAbs, by omega⟩
    rw [itoa_neg u (by omega)]
    obtain ⟨c1, c2, c3⟩ := decDigits_canon u u (Nat.le_refl _)
    rw [if_pos (show (45 :: decDigits u).head? = some 45 from rfl), List.tail_cons, c2, (canonB_iff _).2 c1]
    have h3 := c3 (by omega)
    simp only [Bool.true_and, Bool.and_eq_true, decide_eq_true_eq]
    rw [if_pos ⟨h3, by omega⟩]
  · obtain ⟨u, rfl⟩ : ∃ u : Nat, v = (u : Int) := ⟨v.toNat, by omega⟩
    rw [itoa_nonneg]
    obtain ⟨c1, c2, c3⟩ := decDigits_canon u u (Nat.le_refl _)
    rw [if_neg (canon_head c1).1, c2, (canonB_iff _).2 c1]
    simp only [Bool.true_and, decide_eq_true_eq]
    rw [if_pos (by omega)]

/-- What is read is written so, and the library reads it. -/
theorem numOf_some {s : List UInt8} {v : Int} (h : numOf s = some v) : itoa v = s ∧ atoiAll s = .ok v ∧ -9223372036854775808 ≤ v ∧ v ≤ 9223372036854775807 := by
  unfold numOf at h
  split at h
  · rename_i hh
    split at h
    · rename_i hc
      simp only [Bool.and_eq_true, decide_eq_true_eq] at hc
      obtain ⟨⟨c1, c2⟩, c3⟩ := hc
      rw [canonB_iff] at c1
      injection h with h
      cases s with
      | nil => simp at hh
      | cons x t =>
        simp only [List.head?_cons, Option.some.injEq] at hh
        subst hh
        simp only [List.tail_cons] at c1 c2 c3 h
        have hp := valD_pos c1 c2
        subst h
        refine ⟨?_, ?_, by omega, by omega⟩
        · rw [itoa_neg _ hp, decDigits_val t c1]
        · rw [atoiAll_minus]
          unfold parseMag
          rw [if_neg c1.ne, parse_digits t 0 c1.dig (by omega)]
          unfold signed
          simp
          omega
    · cases h
  · rename_i hh
    split at h
    · rename_i hc
      simp only [Bool.and_eq_true, decide_eq_true_eq] at hc
      obtain ⟨c1, c3⟩ := hc
      rw [canonB_iff] at c1
      injection h with h
      subst h
      refine ⟨?_, ?_, by omega, by omega⟩
      · rw [itoa_nonneg, decDigits_val s c1]
      · cases s with
        | nil => exact absurd rfl c1.ne
        | cons x t =>
          have hx := (c1.dig x (by simp)).1
          rw [atoiAll_plain x t (by omega) (by omega)]
          unfold parseMag
          rw [if_neg c1.ne, parse_digits (x :: t) 0 c1.dig (by omega)]
          unfold signless
          simp
          omega
    · cases h

/-- What the program's readNumber tells: the library reads an int, and it is written so. -/
theorem readI_iff (s : List UInt8) : (∃ v, atoiAll s = .ok v ∧ itoa v = s) ↔ (numOf s).isSome = true := by
  constructor
  · rintro ⟨v, h1, h2⟩
    have hb := atoiAll_bounds h1
    rw [← h2, numOf_itoa v hb.1 hb.2]; rfl
  · intro h
    obtain ⟨v, hv⟩ := Option.isSome_iff_exists.1 h
    obtain ⟨h1, h2, _⟩ := numOf_some hv
    exact ⟨v, h2, h1⟩
end Go.Proofs.YtghllfihmmlcnaaDoor
