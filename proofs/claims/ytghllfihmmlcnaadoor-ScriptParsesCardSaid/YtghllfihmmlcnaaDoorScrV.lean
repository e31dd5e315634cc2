/- What the document's readNumber computes: the int that is written so. -/
import Derived.Test.YtghllfihmmlcnaaDoorScrW
import Derived.Test.YtghllfihmmlcnaaDoorScrMA
import Derived.Test.YtghllfihmmlcnaaDoorPScriptParsesx5
namespace Go.Proofs.YtghllfihmmlcnaaDoor
open Nam Go.RowKit PScriptParses YtghllfihmmlcnaaDoorW.PrintWords Lib

def digB (l : List UInt8) : Bool := l.all fun c => decide (48 ≤ c.toNat) && decide (c.toNat ≤ 57)
def finN (neg : Bool) (u : Nat) : Int × Bool := if neg then (if u ≤ 9223372036854775808 then (-(u : Int), true) else (0, false)) else (if u ≤ 9223372036854775807 then ((u : Int), true) else (0, false))

theorem drop_byte (s : ByteArray) (i : Nat) (hlt : i < s.size) : s.data.toList.drop i = s[i] :: s.data.toList.drop (i + 1) := by
  rw [List.drop_eq_getElem_cons (by simpa using hlt)]; rfl

theorem valD_lt : ∀ (l : List UInt8) (u i : Nat), (∀ c ∈ l, isDig c) → u < 10 ^ i → valD u l < 10 ^ (i + l.length)
  | [], u, i, _, h => h
  | c :: r, u, i, hd, h => by
    have hc := hd c (by simp)
    have hc2 := hc.2
    have h1 : u * 10 + (c.toNat - 48) < 10 ^ (i + 1) := by rw [Nat.pow_succ]; omega
    have := valD_lt r (u * 10 + (c.toNat - 48)) (i + 1) (fun x hx => hd x (List.mem_cons_of_mem _ hx)) h1
    rw [show i + (c :: r).length = i + 1 + r.length by simp; omega]
    exact this

theorem rn_l0 (s : ByteArray) (neg : Bool) (hs : s.size ≤ 19) (d : Nat) : ∀ (k i u : Nat), i ≤ s.size → s.size - i = d → d + 1 < k → u < 10 ^ i →
    strongboxref23_readNumber.l0 k s neg u i = some (if digB (s.data.toList.drop i) then finN neg (valD u (s.data.toList.drop i)) else (0, false)) := by
  have p19 : ∀ i, i ≤ 19 → 10 ^ i ≤ 10000000000000000000 := fun i hi => Nat.le_trans (Nat.pow_le_pow_right (by omega) hi) (by decide)
  induction d with
  | zero =>
    intro k i u hi hd hk hu
    obtain ⟨k, rfl⟩ : ∃ m, k = m + 1 := ⟨k - 1, by omega⟩
    have hie : i = s.size := by omega
    subst hie
    have hu2 := Nat.lt_of_lt_of_le hu (p19 _ hs)
    rw [List.drop_eq_nil_of_le (by simp : s.data.toList.length ≤ s.size)]
    obtain ⟨k, rfl⟩ : ∃ m, k = m + 1 := ⟨k - 1, by omega⟩
    have hw1 : wrap64 (u : Int) = u ∨ 9223372036854775807 < u := by
      by_cases h : u ≤ 9223372036854775807
      · left; unfold wrap64; omega
      · right; omega
    have hw2 : IntKind.u64.wrap (-(u : Int)) = if u = 0 then 0 else 18446744073709551616 - (u : Int) := by
      by_cases h : u = 0
      · subst h; rfl
      · rw [if_neg h]
        show (-(u : Int)) % 18446744073709551616 = _
        omega
    simp only [strongboxref23_readNumber.l0, strongboxref23_readNumber.j4]
    rw [if_neg (by omega)]
    show _ = some (finN neg u)
    unfold finN
    by_cases h1 : u ≤ 9223372036854775807
    · have hw : wrap64 (u : Int) = u := by unfold wrap64; omega
      rw [if_neg (by omega), if_neg (by omega), hw]
      cases neg
      · simp [h1]
      · rw [hw2]
        by_cases h0 : u = 0
        · subst h0
          simp [wrap64]
        · have : wrap64 (18446744073709551616 - (u : Int)) = -(u : Int) := by unfold wrap64; omega
          simp only [h0, if_false, this]
          rw [if_neg (by simp), if_pos trivial, if_pos trivial, if_pos (by omega)]
    · by_cases h2 : u = 9223372036854775808
      · subst h2
        rw [if_neg (by omega), if_pos (by rfl)]
        have ew : wrap64 (IntKind.u64.wrap (-9223372036854775808)) = -9223372036854775808 := by
          show wrap64 ((-9223372036854775808 : Int) % 18446744073709551616) = _
          unfold wrap64
          omega
        cases neg
        · simp
        · simp [ew]
      · rw [if_pos (by omega), if_pos trivial]
        cases neg
        · simp [h1]
        · simp; omega
  | succ d ih =>
    intro k i u hi hd hk hu
    obtain ⟨k, rfl⟩ : ∃ m, k = m + 1 := ⟨k - 1, by omega⟩
    have hlt : i < s.size := by omega
    have hu2 := Nat.lt_of_lt_of_le hu (p19 i (by omega))
    have hu3 : u < 10 ^ 18 := Nat.lt_of_lt_of_le hu (Nat.pow_le_pow_right (by omega) (by omega))
    have hw : wrap64 ((i : Int) + 1) = ((i + 1 : Nat) : Int) := by unfold wrap64; omega
    have hbt : bt s (i : Int) = (s[i].toNat : Int) := (bt_at s i (by simpa using hlt)).symm
    simp only [strongboxref23_readNumber.l0]
    rw [if_pos (by omega), if_pos (by omega), hbt, drop_byte s i hlt]
    by_cases h1 : s[i].toNat < 48
    · rw [if_pos (by omega)]
      unfold digB
      rw [List.all_cons, decide_eq_false (by omega : ¬ 48 ≤ s[i].toNat)]
      rfl
    · by_cases h2 : 57 < s[i].toNat
      · rw [if_neg (by omega), if_pos (by omega)]
        unfold digB
        rw [List.all_cons, decide_eq_false (by omega : ¬ s[i].toNat ≤ 57), Bool.and_false]
        rfl
      · have e : IntKind.u64.wrap (IntKind.u64.wrap ((u : Int) * 10) + (((s[i].toNat : Int)) - 48) % 256) = ((u * 10 + (s[i].toNat - 48) : Nat) : Int) := by
          have a1 : IntKind.u64.wrap ((u : Int) * 10) = (u : Int) * 10 := by
            show ((u : Int) * 10) % 18446744073709551616 = _
            omega
          rw [a1]
          show ((u : Int) * 10 + (((s[i].toNat : Int)) - 48) % 256) % 18446744073709551616 = _
          omega
        rw [if_neg (by omega), if_neg (by omega), e, hw, ih k (i + 1) _ (by omega) (by omega) (by omega) (by rw [Nat.pow_succ]; omega)]
        congr 1
        unfold digB
        rw [List.all_cons, decide_eq_true (by omega : 48 ≤ s[i].toNat), decide_eq_true (by omega : s[i].toNat ≤ 57)]
        rfl

theorem valD_ge : ∀ (l : List UInt8) (u : Nat), u * 10 ^ l.length ≤ valD u l
  | [], u => by simp [valD]
  | c :: r, u => by
    have h := valD_ge r (u * 10 + (c.toNat - 48))
    refine Nat.le_trans ?_ h
    rw [List.length_cons, Nat.pow_succ, Nat.mul_comm (10 ^ r.length) 10, ← Nat.mul_assoc]
    exact Nat.mul_le_mul_right _ (by omega)

/-- A numeral of more than 19 digits is no int's. -/
theorem valD_long {l : List UInt8} (h : Canon l) (h0 : l.head? ≠ some 48) (hl : 19 < l.length) : 9223372036854775808 < valD 0 l := by
  cases l with
  | nil => simp at hl
  | cons c t =>
    have hc := h.dig c (by simp)
    have hn : c.toNat ≠ 48 := fun e => h0 (by simp; exact UInt8.toNat_inj.1 e)
    have h1 : valD 0 (c :: t) = valD (0 * 10 + (c.toNat - 48)) t := rfl
    have h2 := valD_ge t (0 * 10 + (c.toNat - 48))
    have h3 : 10 ^ 19 ≤ 10 ^ t.length := Nat.pow_le_pow_right (by omega) (by simp at hl; omega)
    have h4 : 1 * 10 ^ t.length ≤ (0 * 10 + (c.toNat - 48)) * 10 ^ t.length := Nat.mul_le_mul_right _ (by have := hc.1; omega)
    rw [h1]
    omega

theorem rn_j1 (s : ByteArray) (neg : Bool) (k : Nat) (hk : 30 < k) :
    strongboxref23_readNumber.j1 k s neg = some (if canonB s.data.toList && (!neg || decide (s.data.toList.head? ≠ some 48)) then finN neg (valD 0 s.data.toList) else (0, false)) := by
  obtain ⟨k, rfl⟩ : ∃ m, k = m + 3 := ⟨k - 3, by omega⟩
  have hlen : s.data.toList.length = s.size := by simp
  simp only [strongboxref23_readNumber.j1, strongboxref23_readNumber.j2]
  by_cases h0 : s.data.toList = []
  · rw [if_pos (by rw [ByteArray.toList_eq]; exact h0), if_pos trivial, h0]
    rfl
  · rw [if_neg (by rw [ByteArray.toList_eq]; exact h0)]
    have hpos : 0 < s.size := by
      rw [← hlen]; exact List.length_pos_iff.2 h0
    have hbt : bt s 0 = (s[0].toNat : Int) := (bt_at s 0 (by simpa using hpos)).symm
    have hd0 : s.data.toList = s[0] :: s.data.toList.drop 1 := by
      have := drop_byte s 0 hpos
      simpa using this
    have hh : s.data.toList.head? = some s[0] := by rw [hd0]; rfl
    have e48 : (s[0].toNat : Int) = 48 ↔ s.data.toList.head? = some 48 := by
      rw [hh]
      constructor
      · intro e; rw [show s[0] = 48 from UInt8.toNat_inj.1 (by show s[0].toNat = 48; omega)]
      · intro e; injection e with e; rw [e]; rfl
    by_cases h19 : s.size > 19
    · rw [if_pos (by omega), if_pos trivial]
      by_cases hc : (canonB s.data.toList && (!neg || decide (s.data.toList.head? ≠ some 48))) = true
      · rw [if_pos hc]
        simp only [Bool.and_eq_true] at hc
        have hcan := (canonB_iff _).1 hc.1
        have hn : s.data.toList.head? ≠ some 48 := fun e => by have := hcan.head e; omega
        have := valD_long hcan hn (by omega)
        have hf : finN neg (valD 0 s.data.toList) = (0, false) := by
          unfold finN
          cases neg
          · rw [if_neg (by simp), if_neg (by omega)]
          · rw [if_pos rfl, if_neg (by omega)]
        rw [hf]
      · rw [if_neg hc]
    · rw [if_neg (by omega), if_pos (by omega), hbt]
      have L := rn_l0 s neg (by omega) s.size (k + 1) 0 0 (by omega) (by omega) (by omega) (by simp)
      rw [List.drop_zero] at L
      have eC : ∀ b : Bool, canonB s.data.toList = (true && digB s.data.toList && b) ↔ canonB s.data.toList = (digB s.data.toList && b) := fun b => by simp
      have hne : s.data.toList.isEmpty = false := by rw [hd0]; rfl
      have hcan : canonB s.data.toList = (digB s.data.toList && (decide (s.data.toList.head? ≠ some 48) || decide (s.data.toList.length = 1))) := by
        unfold canonB digB
        rw [hne]
        rfl
      by_cases h48 : s.data.toList.head? = some 48
      · rw [if_pos (e48.2 h48), hcan, decide_eq_false (by simp [h48] : ¬ s.data.toList.head? ≠ some 48)]
        by_cases h1 : s.size > 1
        · rw [if_pos (by omega), if_pos trivial, decide_eq_false (by omega : ¬ s.data.toList.length = 1)]
          simp
        · rw [if_neg (by omega), decide_eq_true (by omega : s.data.toList.length = 1)]
          cases neg
          · rw [if_neg (by simp)]
            refine Eq.trans L ?_
            simp
          · rw [if_pos rfl]
            simp
      · rw [if_neg (fun e => h48 (e48.1 e)), if_neg (by simp), hcan, decide_eq_true h48]
        refine Eq.trans L ?_
        simp

theorem readNumber_is (s : ByteArray) (k : Nat) (hk : 40 < k) :
    strongboxref23_readNumber.f k s = some (match numOf s.data.toList with | some n => (n, true) | none => (0, false)) := by
  obtain ⟨k, rfl⟩ : ∃ m, k = m + 1 := ⟨k - 1, by omega⟩
  unfold strongboxref23_readNumber.f
  have pos : ∀ t : List UInt8, finN false (valD 0 t) = if valD 0 t ≤ 9223372036854775807 then (((valD 0 t : Nat) : Int), true) else (0, false) := fun t => rfl
  have mns : ∀ t : List UInt8, finN true (valD 0 t) = if valD 0 t ≤ 9223372036854775808 then (-((valD 0 t : Nat) : Int), true) else (0, false) := fun t => rfl
  by_cases h0 : s.size = 0
  · rw [if_neg (by omega)]
    simp only [strongboxref23_readNumber.j0]
    rw [if_neg (by simp), rn_j1 s false k (by omega)]
    have : s.data.toList = [] := List.length_eq_zero_iff.1 (by simpa using h0)
    rw [this]
    rfl
  · have hpos : 0 < s.size := by omega
    have hbt : bt s 0 = (s[0].toNat : Int) := (bt_at s 0 (by simpa using hpos)).symm
    have hd0 : s.data.toList = s[0] :: s.data.toList.drop 1 := by
      have := drop_byte s 0 hpos
      simpa using this
    rw [if_pos (by omega), if_pos (by omega), hbt]
    simp only [strongboxref23_readNumber.j0]
    by_cases h45 : s[0] = 45
    · rw [h45, show (((45 : UInt8).toNat : Int) == 45) = true by decide, if_pos rfl, if_pos (by omega), rn_j1 _ _ k (by omega), show (s.extract 1 s.size).data.toList = s.data.toList.drop 1 by rw [extract_mkS, mkS_list, List.take_of_length_le (by simp)]]
      rw [hd0, h45]
      unfold numOf
      rw [if_pos (show (45 :: s.data.toList.drop 1).head? = some 45 from rfl), List.tail_cons, List.drop_succ_cons, List.drop_zero, mns]
      generalize s.data.toList.drop 1 = t
      rw [Bool.not_true, Bool.false_or]
      generalize (canonB t && decide (t.head? ≠ some 48)) = b
      generalize valD 0 t = v
      cases b
      · rfl
      · by_cases hv : v ≤ 9223372036854775808
        · simp [hv]
        · simp [hv]
    · have hb : ((s[0].toNat : Int) == 45) = false := by
        rw [beq_eq_false_iff_ne]
        intro e
        exact h45 (UInt8.toNat_inj.1 (by show s[0].toNat = 45; omega))
      rw [hb, if_neg (by simp), rn_j1 _ _ k (by omega)]
      have hn : numOf s.data.toList = if canonB s.data.toList && decide (valD 0 s.data.toList ≤ 9223372036854775807) then some ((valD 0 s.data.toList : Nat) : Int) else none := by
        unfold numOf
        rw [if_neg (by rw [hd0]; simpa using h45)]
      rw [hn, pos]
      cases hc : canonB s.data.toList with
      | false => simp [hc]
      | true =>
        by_cases hv : valD 0 s.data.toList ≤ 9223372036854775807
        · simp [hc, hv]
        · simp [hc, hv]
end Go.Proofs.YtghllfihmmlcnaaDoor
