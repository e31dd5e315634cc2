/- Names over lists of bytes: what may be a bucket's name, a key's; paths, and back; the next text. Plain laws: no program is in sight. -/
import Derived.Laws.RangeAny
import Derived.Lib.ValidLaws
namespace Go.Proofs.YtjbjcfnbgcloiaaGreatDoor.Nam
open Go

/-- May a sign stand anywhere in a bucket's name? -/
def plainB (c : Int) : Bool := (decide (97 ≤ c) && decide (c ≤ 122)) || (decide (48 ≤ c) && decide (c ≤ 57))
/-- Does it stand between others alone? -/
def jointB (c : Int) : Bool := c == 45 || c == 46
/-- A bucket's name from here on, a joint (or nothing) being ahead or not: the same behind it; none: it is none. -/
def bw : Bool → List UInt8 → Option Bool
  | was, [] => some was
  | was, c :: t => if plainB c.toNat = true then bw false t else if jointB c.toNat = true ∧ was = false then bw true t else none
def bucketB (l : List UInt8) : Bool := decide (3 ≤ l.length) && decide (l.length ≤ 63) && (bw true l == some false)
theorem bw_append : ∀ (l m : List UInt8) (was : Bool), bw was (l ++ m) = (bw was l).bind fun x => bw x m
  | [], m, was => rfl
  | c :: t, m, was => by
    simp only [List.cons_append, bw]
    split
    · exact bw_append t m false
    · split
      · exact bw_append t m true
      · rfl
theorem bucketB_join (a b : List UInt8) (ha : bucketB a = true) (hb : bucketB b = true) : bucketB (a ++ [46] ++ b) = decide (a.length + b.length + 1 ≤ 63) := by
  simp only [bucketB, Bool.and_eq_true, decide_eq_true_eq, beq_iff_eq] at ha hb
  obtain ⟨⟨a1, a2⟩, a3⟩ := ha
  obtain ⟨⟨b1, b2⟩, b3⟩ := hb
  have e : bw true (a ++ [46] ++ b) = some false := by
    rw [List.append_assoc, bw_append, a3]
    show bw false ([46] ++ b) = _
    rw [bw_append, show bw false [46] = some true from by decide]
    exact b3
  unfold bucketB
  rw [e]
  simp only [List.length_append, List.length_cons, List.length_nil, beq_self_eq_true, Bool.and_true]
  rw [Bool.eq_iff_iff]
  simp only [Bool.and_eq_true, decide_eq_true_eq]
  omega

/-! ### keys -/
def keyByte (c : UInt8) : Bool := decide (32 ≤ c.toNat) && decide (c.toNat ≠ 127)
def keyB (l : List UInt8) : Bool := decide (l ≠ []) && decide (l.length ≤ 200) && Lib.validD l && l.all keyByte

theorem high_step (l : List UInt8) (hne : l ≠ []) (h0 : 128 ≤ (l.getD 0 0).toNat) (hok : ¬ ((Lib.decodeL l).1 = 65533 ∧ (Lib.decodeL l).2 = 1)) :
    ∀ c ∈ l.take (Lib.decodeL l).2, 128 ≤ c.toNat := by
  rw [Lib.decodeL_N] at hok ⊢
  match l, hne with
  | [a], _ =>
    simp at h0
    unfold Lib.decodeN at hok ⊢
    rw [if_neg (by simp; omega)] at hok ⊢
    simp at hok
  | [a, b], _ =>
    simp at h0
    unfold Lib.decodeN at hok ⊢
    simp only [List.length_cons, List.length_nil, List.getD_cons_zero, List.getD_cons_succ] at hok ⊢
    rw [if_neg (by omega)] at hok ⊢
    split at hok <;> rename_i hc
    · rw [if_pos hc]
      split at hok <;> rename_i hc2
      · rw [if_pos hc2]
        intro c hcm
        simp at hcm
        rcases hcm with rfl | rfl <;> omega
      · exact absurd ⟨rfl, rfl⟩ hok
    · split at hok <;> rename_i hc2
      · omega
      · split at hok <;> rename_i hc3
        · omega
        · exact absurd ⟨rfl, rfl⟩ hok
  | [a, b, d], _ =>
    simp at h0
    unfold Lib.decodeN at hok ⊢
    simp only [List.length_cons, List.length_nil, List.getD_cons_zero, List.getD_cons_succ] at hok ⊢
    rw [if_neg (by omega)] at hok ⊢
    split at hok <;> rename_i hc
    · rw [if_pos hc]
      split at hok <;> rename_i hc2
      · rw [if_pos hc2]
        intro c hcm
        simp at hcm
        rcases hcm with rfl | rfl <;> omega
      · exact absurd ⟨rfl, rfl⟩ hok
    · rw [if_neg hc]
      split at hok <;> rename_i hc2
      · rw [if_pos hc2]
        split at hok <;> rename_i hc3
        · rw [if_pos hc3]
          intro c hcm
          simp at hcm
          rcases hcm with rfl | rfl | rfl <;> omega
        · exact absurd ⟨rfl, rfl⟩ hok
      · split at hok <;> rename_i hc3
        · omega
        · exact absurd ⟨rfl, rfl⟩ hok
  | a :: b :: d :: e :: r, _ =>
    simp at h0
    unfold Lib.decodeN at hok ⊢
    simp only [List.length_cons, List.getD_cons_zero, List.getD_cons_succ] at hok ⊢
    rw [if_neg (by omega)] at hok ⊢
    split at hok <;> rename_i hc
    · rw [if_pos hc]
      split at hok <;> rename_i hc2
      · rw [if_pos hc2]
        intro c hcm
        simp at hcm
        rcases hcm with rfl | rfl <;> omega
      · exact absurd ⟨rfl, rfl⟩ hok
    · rw [if_neg hc]
      split at hok <;> rename_i hc2
      · rw [if_pos hc2]
        split at hok <;> rename_i hc3
        · rw [if_pos hc3]
          intro c hcm
          simp at hcm
          rcases hcm with rfl | rfl | rfl <;> omega
        · exact absurd ⟨rfl, rfl⟩ hok
      · rw [if_neg hc2]
        split at hok <;> rename_i hc3
        · rw [if_pos hc3]
          split at hok <;> rename_i hc4
          · rw [if_pos hc4]
            intro c hcm
            simp at hcm
            rcases hcm with rfl | rfl | rfl | rfl <;> omega
          · exact absurd ⟨rfl, rfl⟩ hok
        · exact absurd ⟨rfl, rfl⟩ hok

/-- A valid text, from a byte of 128 on: the rest is valid; its bytes are a key's if the rest's are. -/
theorem high_key (l : List UInt8) (hne : l ≠ []) (h0 : 128 ≤ (l.getD 0 0).toNat) (hv : Lib.validD l = true) :
    Lib.validD (l.drop (Lib.decodeL l).2) = true ∧ l.all keyByte = (l.drop (Lib.decodeL l).2).all keyByte := by
  rw [Lib.validD_step l hne] at hv
  split at hv
  · cases hv
  · rename_i hok
    refine ⟨hv, ?_⟩
    have hh := high_step l hne h0 hok
    have e : (l.take (Lib.decodeL l).2).all keyByte = true := by
      rw [List.all_eq_true]
      intro c hc
      have := hh c hc
      unfold keyByte
      simp; omega
    conv => lhs; rw [← List.take_append_drop (Lib.decodeL l).2 l]
    rw [List.all_append, e, Bool.true_and]

theorem valid_append : ∀ (n : Nat) (a b : List UInt8), a.length ≤ n → Lib.validD a = true → Lib.validD (a ++ b) = Lib.validD b
  | 0, a, b, hn, _ => by
    obtain rfl : a = [] := List.eq_nil_of_length_eq_zero (by omega)
    rfl
  | n + 1, [], b, _, _ => rfl
  | n + 1, c :: t, b, hn, hv => by
    simp at hn
    by_cases hc : c.toNat < 128
    · rw [Lib.validD_cons _ _ hc] at hv
      rw [List.cons_append, Lib.validD_cons _ _ hc]
      exact valid_append n t b hn hv
    · have h1 : 128 ≤ (((c :: t).getD 0 0).toNat) := by simp; omega
      rw [Lib.validD_lead (c :: t) (by simp) h1] at hv
      have h2 : 128 ≤ (((c :: t ++ b).getD 0 0).toNat) := by simp; omega
      rw [Lib.validD_lead (c :: t ++ b) (by simp) h2]
      have g0 : (c :: t ++ b).getD 0 0 = (c :: t).getD 0 0 := by simp
      rw [g0]
      generalize Lib.firstT ((c :: t).getD 0 0).toNat % 8 = sz at hv ⊢
      generalize Lib.accLo (Lib.firstT ((c :: t).getD 0 0).toNat / 16) = lo at hv ⊢
      generalize Lib.accHi (Lib.firstT ((c :: t).getD 0 0).toNat / 16) = hi at hv ⊢
      cases hck : Lib.checkN (c :: t).length ((c :: t).getD 1 0).toNat ((c :: t).getD 2 0).toNat ((c :: t).getD 3 0).toNat sz lo hi with
      | none => rw [hck] at hv; cases hv
      | some k =>
        rw [hck] at hv
        simp only [] at hv
        have key : Lib.checkN (c :: t ++ b).length ((c :: t ++ b).getD 1 0).toNat ((c :: t ++ b).getD 2 0).toNat ((c :: t ++ b).getD 3 0).toNat sz lo hi = some k ∧ 1 ≤ k ∧ k ≤ (c :: t).length := by
          unfold Lib.checkN at hck ⊢
          simp only [List.length_append, List.length_cons] at hck ⊢
          have gg : ∀ j, j < t.length + 1 → (c :: t ++ b).getD j 0 = (c :: t).getD j 0 := fun j hj => by
            simp only [List.getD_eq_getElem?_getD]
            rw [List.getElem?_append_left (by simp; omega)]
          split at hck <;> rename_i s2
          · rw [if_pos s2]
            split at hck <;> rename_i q
            · cases hck
            · rw [gg 1 (by omega), if_neg (by omega)]
              injection hck with e; subst e
              exact ⟨rfl, by omega, by omega⟩
          · rw [if_neg s2]
            split at hck <;> rename_i s3
            · rw [if_pos s3]
              split at hck <;> rename_i q
              · cases hck
              · rw [gg 1 (by omega), gg 2 (by omega), if_neg (by omega)]
                injection hck with e; subst e
                exact ⟨rfl, by omega, by omega⟩
            · rw [if_neg s3]
              split at hck <;> rename_i s4
              · rw [if_pos s4]
                split at hck <;> rename_i q
                · cases hck
                · rw [gg 1 (by omega), gg 2 (by omega), gg 3 (by omega), if_neg (by omega)]
                  injection hck with e; subst e
                  exact ⟨rfl, by omega, by omega⟩
              · cases hck
        obtain ⟨hk, hk1, hkl⟩ := key
        rw [hk]
        simp only []
        rw [List.drop_append_of_le_length hkl]
        exact valid_append n _ b (by rw [List.length_drop]; simp only [List.length_cons]; omega) hv

theorem keyB_join (a b : List UInt8) (ha : keyB a = true) (hb : keyB b = true) : keyB (a ++ b) = decide (a.length + b.length ≤ 200) := by
  simp only [keyB, Bool.and_eq_true, decide_eq_true_eq] at ha hb
  obtain ⟨⟨⟨a1, a2⟩, a3⟩, a4⟩ := ha
  obtain ⟨⟨⟨b1, b2⟩, b3⟩, b4⟩ := hb
  unfold keyB
  rw [valid_append a.length a b (Nat.le_refl _) a3, b3, List.all_append, a4, b4, List.length_append]
  simp [a1]

/-! ### paths -/
def hexd (n : Nat) : UInt8 := if n < 10 then UInt8.ofNat (48 + n) else UInt8.ofNat (87 + n)
def pathB (l : List UInt8) : List UInt8 := l.flatMap fun x => [hexd (x.toNat / 16), hexd (x.toNat % 16)]
theorem pathB_append (a b : List UInt8) : pathB (a ++ b) = pathB a ++ pathB b := by simp [pathB]
theorem pathB_length (l : List UInt8) : (pathB l).length = 2 * l.length := by
  induction l with
  | nil => rfl
  | cons x t ih =>
    have e : pathB (x :: t) = [hexd (x.toNat / 16), hexd (x.toNat % 16)] ++ pathB t := by simp [pathB]
    rw [e, List.length_append, ih, List.length_cons]
    simp only [List.length_cons, List.length_nil]
    omega

/-! ### prefixes, the next text -/
def prefixB (l p : List UInt8) : Bool := decide (p.length ≤ l.length) && (l.take p.length == p)
/-- The least text above all that begin with one; none: there is none. -/
def nextR : List UInt8 → Option (List UInt8)
  | [] => none
  | c :: t => match nextR t with
    | some u => some (c :: u)
    | none => if c = 255 then none else some [c + 1]
theorem nextR_high : ∀ m : List UInt8, (∀ c ∈ m, c = 255) → nextR m = none
  | [], _ => rfl
  | c :: t, h => by
    simp only [nextR, nextR_high t (fun x hx => h x (List.mem_cons_of_mem _ hx))]
    rw [if_pos (h c (List.mem_cons_self ..))]
theorem nextR_cut : ∀ (q : List UInt8) (c : UInt8) (m : List UInt8), (∀ c ∈ m, c = 255) → c ≠ 255 → nextR (q ++ c :: m) = some (q ++ [c + 1])
  | [], c, m, h, hc => by
    simp only [List.nil_append, nextR, nextR_high m h]
    rw [if_neg hc]
  | x :: q, c, m, h, hc => by
    simp only [List.cons_append, nextR, nextR_cut q c m h hc]

theorem prefixB_cons (d c : UInt8) (u t : List UInt8) : prefixB (d :: u) (c :: t) = (d == c && prefixB u t) := by
  unfold prefixB
  simp only [List.length_cons, List.take_succ_cons, Nat.add_le_add_iff_right]
  rw [Bool.eq_iff_iff]
  simp
  constructor
  · rintro ⟨h1, h2, h3⟩; exact ⟨h2, h1, h3⟩
  · rintro ⟨h1, h2, h3⟩; exact ⟨h2, h1, h3⟩
theorem less_cons (d c : UInt8) (u t : List UInt8) : Op.bytesLess (d :: u) (c :: t) = (decide (d < c) || (d == c && Op.bytesLess u t)) := rfl
theorem less_nil (l : List UInt8) : Op.bytesLess l [] = false := by cases l <;> rfl

theorem next_law : ∀ (p a : List UInt8), prefixB a p = (!Op.bytesLess a p && (match nextR p with | none => true | some n => Op.bytesLess a n))
  | [], a => by
    rw [less_nil]
    simp [prefixB, nextR]
  | c :: t, [] => by simp [prefixB, Op.bytesLess]
  | c :: t, d :: u => by
    have ih := next_law t u
    rw [prefixB_cons, less_cons]
    rcases (show d < c ∨ d = c ∨ c < d from by
      rcases Nat.lt_trichotomy d.toNat c.toNat with h | h | h
      · exact .inl (UInt8.lt_iff_toNat_lt.2 h)
      · exact .inr (.inl (UInt8.toNat_inj.1 h))
      · exact .inr (.inr (UInt8.lt_iff_toNat_lt.2 h))) with h | h | h
    · have hne : (d == c) = false := by
        rw [beq_eq_false_iff_ne]; rintro rfl; exact absurd (UInt8.lt_iff_toNat_lt.1 h) (by omega)
      simp [hne, h]
    · subst h
      have hirr : ¬ d < d := fun h => absurd (UInt8.lt_iff_toNat_lt.1 h) (by omega)
      simp only [beq_self_eq_true, Bool.true_and, hirr, decide_false, Bool.false_or]
      rw [ih]
      congr 1
      simp only [nextR]
      cases hn : nextR t with
      | some n => simp [less_cons, hirr]
      | none =>
        by_cases h5 : d = 255
        · simp [h5]
        · have hlt : d < d + 1 := by
            rw [UInt8.lt_iff_toNat_lt, UInt8.toNat_add]
            have : d.toNat ≠ 255 := fun e => h5 (UInt8.toNat_inj.1 e)
            have := d.toNat_lt
            simp; omega
          simp [h5, less_cons, hlt]
    · have hne : (d == c) = false := by
        rw [beq_eq_false_iff_ne]; rintro rfl; exact absurd (UInt8.lt_iff_toNat_lt.1 h) (by omega)
      have hnl : ¬ d < c := fun h' => absurd (UInt8.lt_iff_toNat_lt.1 h') (by have := UInt8.lt_iff_toNat_lt.1 h; omega)
      simp only [hne, Bool.false_and, hnl, decide_false, Bool.false_or, Bool.not_false, Bool.true_and]
      simp only [nextR]
      cases hn : nextR t with
      | some n => simp [less_cons, hne, hnl]
      | none =>
        have h5 : c ≠ 255 := by
          rintro rfl
          have := UInt8.lt_iff_toNat_lt.1 h
          have := d.toNat_lt
          simp at *; omega
        have hc5 : c.toNat ≠ 255 := fun e => h5 (UInt8.toNat_inj.1 e)
        have hnl2 : ¬ d < c + 1 := by
          rw [UInt8.lt_iff_toNat_lt, UInt8.toNat_add]
          have := UInt8.lt_iff_toNat_lt.1 h
          have := c.toNat_lt
          simp; omega
        simp [h5, less_cons, hnl2, less_nil]

/-! ### the order -/
theorem less_irrefl : ∀ l : List UInt8, Op.bytesLess l l = false
  | [] => rfl
  | c :: t => by
    rw [less_cons, less_irrefl t]
    simp
theorem less_trans : ∀ a b c : List UInt8, Op.bytesLess a b = true → Op.bytesLess b c = true → Op.bytesLess a c = true
  | _, b, [], _, h => by rw [less_nil] at h; cases h
  | _, [], _ :: _, h, _ => by rw [less_nil] at h; cases h
  | [], _ :: _, _ :: _, _, _ => rfl
  | x :: a, y :: b, z :: c, h1, h2 => by
    rw [less_cons] at h1 h2 ⊢
    simp only [Bool.or_eq_true, decide_eq_true_eq, Bool.and_eq_true, beq_iff_eq] at h1 h2 ⊢
    rcases h1 with h1 | ⟨rfl, h1⟩
    · rcases h2 with h2 | ⟨rfl, h2⟩
      · exact .inl (UInt8.lt_trans h1 h2)
      · exact .inl h1
    · rcases h2 with h2 | ⟨rfl, h2⟩
      · exact .inl h2
      · exact .inr ⟨rfl, less_trans a b c h1 h2⟩
theorem less_asymm (a b : List UInt8) (h1 : Op.bytesLess a b = true) : Op.bytesLess b a = false := by
  cases h : Op.bytesLess b a
  · rfl
  · have := less_trans a b a h1 h
    rw [less_irrefl] at this
    cases this
theorem less_total : ∀ a b : List UInt8, Op.bytesLess a b = false → Op.bytesLess b a = false → a = b
  | [], [], _, _ => rfl
  | [], _ :: _, h, _ => by cases h
  | _ :: _, [], _, h => by cases h
  | x :: a, y :: b, h1, h2 => by
    rw [less_cons] at h1 h2
    simp only [Bool.or_eq_false_iff, decide_eq_false_iff_not, Bool.and_eq_false_iff, beq_eq_false_iff_ne] at h1 h2
    have e : x = y := by
      rcases Nat.lt_trichotomy x.toNat y.toNat with h | h | h
      · exact absurd (UInt8.lt_iff_toNat_lt.2 h) h1.1
      · exact UInt8.toNat_inj.1 h
      · exact absurd (UInt8.lt_iff_toNat_lt.2 h) h2.1
    subst e
    have q1 : Op.bytesLess a b = false := by rcases h1.2 with h | h; exact absurd rfl h; exact h
    have q2 : Op.bytesLess b a = false := by rcases h2.2 with h | h; exact absurd rfl h; exact h
    rw [less_total a b q1 q2]

/-! ### paths and back -/
def digI (c : UInt8) : Int := if 48 ≤ c.toNat ∧ c.toNat ≤ 57 then (c.toNat : Int) - 48 else if 97 ≤ c.toNat ∧ c.toNat ≤ 102 then (c.toNat : Int) - 87 else -1
/-- The text of a path; none: it is no path. -/
def unp : List UInt8 → Option (List UInt8)
  | [] => some []
  | [_] => none
  | a :: b :: t => if digI a < 0 ∨ digI b < 0 then none else (unp t).map fun l => UInt8.ofNat (16 * (digI a).toNat + (digI b).toNat) :: l
theorem hexd_toNat (n : Nat) (h : n < 16) : (hexd n).toNat = if n < 10 then 48 + n else 87 + n := by
  unfold hexd
  split <;> simp <;> omega
theorem digI_hexd (n : Nat) (h : n < 16) : digI (hexd n) = n := by
  unfold digI
  rw [hexd_toNat n h]
  split <;> split <;> (try split) <;> omega
theorem unp_path : ∀ l : List UInt8, unp (pathB l) = some l
  | [] => rfl
  | x :: t => by
    have e : pathB (x :: t) = hexd (x.toNat / 16) :: hexd (x.toNat % 16) :: pathB t := by simp [pathB]
    have hx := x.toNat_lt
    rw [e]
    unfold unp
    rw [digI_hexd _ (by omega), digI_hexd _ (by omega), if_neg (by omega), unp_path t]
    simp only [Option.map_some, Option.some.injEq, List.cons.injEq, and_true]
    apply UInt8.toNat_inj.1
    simp
    omega
theorem path_cons (x : UInt8) (t : List UInt8) : pathB (x :: t) = hexd (x.toNat / 16) :: hexd (x.toNat % 16) :: pathB t := by simp [pathB]
theorem path_inj (a b : List UInt8) (h : pathB a = pathB b) : a = b := by
  have := congrArg unp h
  rw [unp_path, unp_path] at this
  exact Option.some.inj this
theorem hexd_lt (a b : Nat) (ha : a < 16) (hb : b < 16) : (hexd a < hexd b) ↔ a < b := by
  rw [UInt8.lt_iff_toNat_lt, hexd_toNat a ha, hexd_toNat b hb]
  split <;> split <;> omega
theorem hexd_inj (a b : Nat) (ha : a < 16) (hb : b < 16) : (hexd a = hexd b) ↔ a = b := by
  constructor
  · intro h
    have := congrArg digI h
    rw [digI_hexd a ha, digI_hexd b hb] at this
    omega
  · rintro rfl; rfl
theorem path_less : ∀ a b : List UInt8, Op.bytesLess (pathB a) (pathB b) = Op.bytesLess a b
  | a, [] => by rw [show pathB [] = [] from rfl, less_nil, less_nil]
  | [], y :: b => by rw [path_cons]; rfl
  | x :: a, y :: b => by
    have ih := path_less a b
    have hx := x.toNat_lt
    have hy := y.toNat_lt
    rw [path_cons, path_cons, less_cons, less_cons, less_cons, ih, Bool.eq_iff_iff]
    simp only [Bool.or_eq_true, decide_eq_true_eq, Bool.and_eq_true, beq_iff_eq]
    rw [hexd_lt _ _ (by omega) (by omega), hexd_lt _ _ (by omega) (by omega), hexd_inj _ _ (by omega) (by omega), hexd_inj _ _ (by omega) (by omega), UInt8.lt_iff_toNat_lt, ← UInt8.toNat_inj]
    constructor
    · rintro (h | ⟨h1, h | ⟨h2, h3⟩⟩)
      · exact .inl (by omega)
      · exact .inl (by omega)
      · exact .inr ⟨by omega, h3⟩
    · rintro (h | ⟨h, h3⟩)
      · by_cases e : x.toNat / 16 < y.toNat / 16
        · exact .inl e
        · exact .inr ⟨by omega, .inl (by omega)⟩
      · exact .inr ⟨by omega, .inr ⟨by omega, h3⟩⟩
theorem path_prefix : ∀ p a : List UInt8, prefixB (pathB a) (pathB p) = prefixB a p
  | [], a => by simp [prefixB, show pathB [] = [] from rfl]
  | y :: p, [] => by rw [path_cons]; simp [prefixB, show pathB [] = [] from rfl]
  | y :: p, x :: a => by
    have ih := path_prefix p a
    have hx := x.toNat_lt
    have hy := y.toNat_lt
    rw [path_cons, path_cons, prefixB_cons, prefixB_cons, prefixB_cons, ih, Bool.eq_iff_iff]
    simp only [Bool.and_eq_true, beq_iff_eq]
    rw [hexd_inj _ _ (by omega) (by omega), hexd_inj _ _ (by omega) (by omega), ← UInt8.toNat_inj]
    constructor
    · rintro ⟨h1, h2, h3⟩; exact ⟨by omega, h3⟩
    · rintro ⟨h1, h3⟩; exact ⟨by omega, by omega, h3⟩
end Go.Proofs.YtjbjcfnbgcloiaaGreatDoor.Nam
