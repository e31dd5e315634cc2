/- Lives as texts, plainly: what was printed is read as it was. -/
import Derived.Test.YtghllfihmmlcnaaDoorScrMD
import Derived.Test.YtghllfihmmlcnaaDoorScrME
import Derived.Test.YtghllfihmmlcnaaDoorLaw
import Derived.Deep.Slices
import Derived.Deep.Strs
import Derived.Test.YtghllfihmmlcnaaDoorScrMB
import Derived.Stop.LaidErr
import Derived.Lib.LaidTab
import Derived.LaidLaws

namespace Go.Proofs.YtghllfihmmlcnaaDoor
open Go.RowKit Nam YtghllfihmmlcnaaDoorW.PrintWords

/-- Bytes above a blank. -/
def Big (l : List UInt8) : Prop := ∀ c ∈ l, 32 < c.toNat
theorem Big.not {l : List UInt8} (h : Big l) (c : UInt8) (hc : c.toNat ≤ 32) : c ∉ l := fun hm => by have := h c hm; omega
theorem Big.app {a b : List UInt8} (ha : Big a) (hb : Big b) : Big (a ++ b) := fun c hc => (List.mem_append.1 hc).elim (ha c) (hb c)
theorem big_itoa (n : Int) : Big (Lib.itoa n) := by
  have hd : ∀ u : Nat, Big (Lib.decDigits u) := fun u c hc => by have := ((decDigits_canon u u (Nat.le_refl _)).1.dig c hc).1; omega
  by_cases hn : n < 0
  · obtain ⟨u, rfl⟩ : ∃ u : Nat, n = -(u : Int) := ⟨n.natAbs, by omega⟩
    rw [Lib.itoa_neg u (by omega)]
    intro c hc
    rcases List.mem_cons.1 hc with rfl | hc
    · decide
    · exact hd u c hc
  · obtain ⟨u, rfl⟩ : ∃ u : Nat, n = (u : Int) := ⟨n.toNat, by omega⟩
    rw [Lib.itoa_nonneg]
    exact hd u
theorem big_hexd (n : Nat) (h : n < 16) : 32 < (hexd n).toNat := by rw [hexd_toNat n h]; split <;> omega
theorem big_path : ∀ l : List UInt8, Big (pathB l)
  | [] => fun c hc => by cases hc
  | x :: t => by
    have hx := x.toNat_lt
    rw [path_cons]
    intro c hc
    rcases List.mem_cons.1 hc with rfl | hc
    · exact big_hexd _ (by omega)
    · rcases List.mem_cons.1 hc with rfl | hc
      · exact big_hexd _ (by omega)
      · exact big_path t c hc
theorem big_text (l : List UInt8) : Big (textB l) := by
  unfold textB
  split
  · intro c hc; simp only [List.mem_singleton] at hc; subst hc; decide
  · exact big_path l
theorem big_word (x : Ch) (f : Nat) : Big (wordC x f) := by
  unfold wordC
  split <;> first | exact big_text _ | exact big_itoa _
theorem big_verb (d : Int) : Big (formC d).1 := form_cases d (fun p => ∀ c ∈ p.1, 32 < c.toNat) (by decide) (by simp)

/-- Words behind a blank each, cut. -/
theorem split_words (a : List UInt8) (ha : Big a) : ∀ ws : List (List UInt8), (∀ w ∈ ws, Big w) → splitB 32 (a ++ ws.flatMap (fun w => 32 :: w)) = a :: ws := by
  intro ws
  induction ws generalizing a with
  | nil => intro _; simpa using splitB_none 32 a (ha.not 32 (by decide))
  | cons w t ih =>
    intro h
    rw [List.flatMap_cons, List.cons_append, splitB_put 32 _ a (ha.not 32 (by decide)), ih w (h w (by simp)) (fun v hv => h v (by simp [hv]))]
theorem lineC_words (x : Ch) (fs : List Nat) : lineC x fs = (fs.map (wordC x)).flatMap (fun w => 32 :: w) := by unfold lineC; rw [List.flatMap_map]
theorem numsB_words (ns : List Int) : numsB ns = (ns.map Lib.itoa).flatMap (fun w => 32 :: w) := by unfold numsB; rw [List.flatMap_map]

theorem fillC_words (x : Ch) (hx : x.Ok 65536) : ∀ (fs : List Nat) (y : Ch), fillC y fs (fs.map (wordC x)) = some (fs.foldl (putC x) y)
  | [], y => rfl
  | f :: fs, y => by
    rw [List.map_cons, fillC, setC_word x y hx f, Option.bind_some, fillC_words x hx fs, List.foldl_cons]
theorem form_inj (d d' : Int) (h : (formC d).1 = (formC d').1) (h0 : (formC d).1 ≠ []) : d = d' := by
  have key : ∀ n n' : Fin 20, (formC (n.val : Int)).1 = (formC (n'.val : Int)).1 → (formC (n.val : Int)).1 ≠ [] → n = n' := by decide
  have out : ∀ d : Int, ¬ (1 ≤ d ∧ d ≤ 19) → (formC d).1 = [] := by
    intro d h1
    unfold formC
    iterate 19 rw [if_neg (by omega)]
  by_cases h1 : 1 ≤ d ∧ d ≤ 19
  · by_cases h2 : 1 ≤ d' ∧ d' ≤ 19
    · obtain ⟨n, rfl⟩ : ∃ n : Nat, d = n := ⟨d.toNat, by omega⟩
      obtain ⟨n', rfl⟩ : ∃ n : Nat, d' = n := ⟨d'.toNat, by omega⟩
      have := key ⟨n, by omega⟩ ⟨n', by omega⟩ h h0
      simpa using congrArg (fun f : Fin 20 => (f.val : Int)) this
    · rw [out d' h2] at h; exact absurd h h0
  · exact absurd (out d h1) h0
theorem form_range (d : Int) (h : (formC d).1 ≠ []) : 1 ≤ d ∧ d ≤ 19 := by
  apply Classical.byContradiction
  intro h1
  apply h
  unfold formC
  iterate 19 rw [if_neg (by omega)]
theorem fromC_at (L : List (List UInt8)) (d : Int) (r : Option Ch) (h1 : tryC L d = some r) : ∀ (k : Nat) (d0 : Int), d0 ≤ d → d < d0 + k → (∀ e, d0 ≤ e → e < d → tryC L e = none) → fromC L k d0 = r
  | 0, d0, h2, h3, _ => by omega
  | k + 1, d0, h2, h3, h4 => by
    rw [fromC]
    by_cases he : d0 = d
    · subst he; rw [h1]
    · rw [h4 d0 (by omega) (by omega)]
      exact fromC_at L d r h1 k (d0 + 1) (by omega) (by omega) (fun e h5 h6 => h4 e (by omega) h6)
theorem choiceC_text (x : Ch) (hx : x.Ok 65536) (t : List UInt8) (h : textC x = some t) : choiceC t = some x := by
  unfold textC at h
  split at h
  · cases h
  rename_i hv
  split at h
  rotate_left
  · cases h
  rename_i ho
  injection h with h
  subst h
  unfold choiceC
  rw [lineC_words, split_words _ (big_verb _) _ (fun w hw => by obtain ⟨f, _, rfl⟩ := List.mem_map.1 hw; exact big_word x f)]
  have hr := form_range x.d hv
  refine fromC_at _ x.d (some x) ?_ 19 1 hr.1 (by omega) (fun e h1 h2 => ?_)
  · unfold tryC
    rw [if_pos ⟨rfl, by simp⟩, List.tail_cons, fillC_words x hx]
    have h3 : (formC x.d).2.foldl (putC x) (bareC x.d) = x := ho
    rw [h3]
  · unfold tryC
    rw [if_neg]
    rintro ⟨h3, _⟩
    have h4 : (formC e).1 = (formC x.d).1 := h3
    have h5 := form_inj e x.d h4 (by rw [h4]; exact hv)
    omega

theorem mapN_words : ∀ ns : List Int, (∀ n ∈ ns, -9223372036854775808 ≤ n ∧ n ≤ 9223372036854775807) → mapN (ns.map Lib.itoa) = some ns
  | [], _ => rfl
  | n :: t, h => by
    rw [List.map_cons, mapN, numOf_itoa n (h n (by simp)).1 (h n (by simp)).2, Option.bind_some, mapN_words t (fun m hm => h m (by simp [hm]))]
    rfl
def lineH (h : List Int) : List UInt8 := [97, 114, 114, 97, 121] ++ numsB h
theorem headC_line (h : List Int) : headC h = lineH h ++ [10] := rfl
theorem shapeC_line (k m b o : Int) (hh : ∀ n ∈ [k, m, b, o], -9223372036854775808 ≤ n ∧ n ≤ 9223372036854775807) : shapeC (lineH [k, m, b, o]) = some [k, m, b, o] := by
  have hs : splitB 32 (lineH [k, m, b, o]) = [97, 114, 114, 97, 121] :: [k, m, b, o].map Lib.itoa := by
    unfold lineH
    rw [numsB_words]
    exact split_words _ (by unfold Big; decide) _ (fun w hw => by obtain ⟨f, _, rfl⟩ := List.mem_map.1 hw; exact big_itoa f)
  unfold shapeC
  rw [hs, if_pos ⟨by simp, rfl⟩, List.tail_cons, mapN_words _ hh]

/-- No line's end within. -/
theorem words_10 (a : List UInt8) (ha : Big a) (ws : List (List UInt8)) (h : ∀ w ∈ ws, Big w) : (10 : UInt8) ∉ a ++ ws.flatMap (fun w => 32 :: w) := by
  intro hm
  rcases List.mem_append.1 hm with hm | hm
  · exact ha.not 10 (by decide) hm
  · obtain ⟨w, hw, hm⟩ := List.mem_flatMap.1 hm
    rcases List.mem_cons.1 hm with hm | hm
    · exact absurd hm (by decide)
    · exact (h w hw).not 10 (by decide) hm
theorem lineH_10 (h : List Int) : (10 : UInt8) ∉ lineH h := by
  unfold lineH
  rw [numsB_words]
  exact words_10 _ (by unfold Big; decide) _ (fun w hw => by obtain ⟨f, _, rfl⟩ := List.mem_map.1 hw; exact big_itoa f)
theorem textC_10 (x : Ch) (t : List UInt8) (h : textC x = some t) : (10 : UInt8) ∉ t := by
  unfold textC at h
  split at h
  · cases h
  split at h
  rotate_left
  · cases h
  injection h with h
  subst h
  rw [lineC_words]
  exact words_10 _ (big_verb _) _ (fun w hw => by obtain ⟨f, _, rfl⟩ := List.mem_map.1 hw; exact big_word x f)

/-- Lines with an end each, cut. -/
theorem split_lines : ∀ (ls : List (List UInt8)) (z : List UInt8), (∀ l ∈ ls, (10 : UInt8) ∉ l) → splitB 10 (ls.flatMap (fun l => l ++ [10]) ++ z) = ls ++ splitB 10 z
  | [], z, _ => rfl
  | l :: t, z, h => by
    rw [List.flatMap_cons, List.append_assoc, List.append_assoc, List.singleton_append, splitB_put 10 _ l (h l (by simp)), split_lines t z (fun v hv => h v (by simp [hv]))]
    rfl

/-- The lines of choices, read. -/
theorem readL_body (h : List Int) : ∀ (l : List Ch) (i : Nat) (acc : List Ch) (r : List (List UInt8)), i ≠ 0 → (∀ x ∈ l, choiceC ((textC x).getD []) = some x) → readL i h acc (l.map (fun x => (textC x).getD []) ++ r) = readL (i + l.length) h (acc ++ l) r
  | [], i, acc, r, _, _ => by simp
  | x :: t, i, acc, r, hi, hx => by
    rw [List.map_cons, List.cons_append, readL, if_neg hi, hx x (by simp)]
    simp only []
    rw [readL_body h t (i + 1) (acc ++ [x]) r (by omega) (fun y hy => hx y (by simp [hy])), List.append_assoc, List.length_cons]
    congr 1
    omega

theorem bodyC_lines (l : List Ch) : bodyC l = (l.map (fun x => (textC x).getD [])).flatMap (fun l => l ++ [10]) := by unfold bodyC; rw [List.flatMap_map]
theorem print_all {h : List Int} {l : List Ch} (h0 : (printC h l).2 = 0) : (∀ x ∈ l, ∃ t, textC x = some t) ∧ (printC h l).1 = headC h ++ bodyC l ∧ (headC h ++ bodyC l).length ≤ 65536 ∧ l.length < 2000 := by
  unfold printC at h0 ⊢
  split at h0
  · exact absurd h0 (by decide)
  rename_i hn
  split at h0
  · exact absurd h0 (by decide)
  rename_i hl
  rw [if_neg hn, if_neg hl]
  refine ⟨fun x hx => ?_, rfl, by omega, by omega⟩
  cases ht : textC x with
  | some t => exact ⟨t, rfl⟩
  | none => exact absurd (List.any_eq_true.2 ⟨x, hx, by rw [ht]; rfl⟩) hn
theorem body_lines (h : List Int) (l : List Ch) (hs : ∀ x ∈ l, ∃ t, textC x = some t) : splitB 10 (headC h ++ bodyC l) = (lineH h :: l.map (fun x => (textC x).getD [])) ++ [[]] := by
  have := split_lines (lineH h :: l.map (fun x => (textC x).getD [])) [] (fun v hv => by
    rcases List.mem_cons.1 hv with rfl | hv
    · exact lineH_10 _
    · obtain ⟨x, hxl, rfl⟩ := List.mem_map.1 hv
      obtain ⟨t, ht⟩ := hs x hxl
      rw [ht]; exact textC_10 x t ht)
  rw [List.append_nil, List.flatMap_cons, ← bodyC_lines] at this
  exact this

/-- What was printed is read as it was. -/
theorem parse_print (k m b o : Int) (l : List Ch) (hh : ∀ n ∈ [k, m, b, o], -9223372036854775808 ≤ n ∧ n ≤ 9223372036854775807) (hx : ∀ x ∈ l, x.Ok 65536) (h0 : (printC [k, m, b, o] l).2 = 0) :
    parseC (printC [k, m, b, o] l).1 = ⟨[k, m, b, o], l, 0, 0⟩ ∧ (printC [k, m, b, o] l).1.length ≤ 65536 := by
  obtain ⟨hs, he, hnl, hlen⟩ := print_all h0
  rw [he]
  refine ⟨?_, hnl⟩
  unfold parseC
  rw [body_lines _ l hs, if_neg (by
    simp only [List.length_append, List.length_cons, List.length_map, List.length_nil, List.getLastD_concat, if_true] at *
    omega)]
  rw [List.dropLast_concat, List.getLastD_concat]
  unfold parseL
  rw [readL, if_pos rfl, shapeC_line k m b o hh]
  simp only []
  have hr := readL_body [k, m, b, o] l 1 [] [] (by decide) (fun x hxl => by obtain ⟨t, ht⟩ := hs x hxl; rw [ht]; exact choiceC_text x (hx x hxl) t ht)
  rw [List.append_nil] at hr
  rw [hr, readL]
  simp

/-- Its texts are short, but for the data. -/
structure Ch.Short (x : Ch) : Prop where
  bk : x.bk.length ≤ 300
  ky : x.ky.length ≤ 300
  dt : x.dt.length ≤ 3000
  pf : x.pf.length ≤ 300
  fr : x.fr.length ≤ 300
theorem word_len (x : Ch) (hx : x.Ok 65536) (hs : x.Short) (f : Nat) : (wordC x f).length ≤ 601 + (if f = 2 then 5400 else 0) := by
  have hb := hs.bk
  have hk := hs.ky
  have hd := hs.dt
  have hp := hs.pf
  have hr := hs.fr
  have ht := textB_le x.bk
  have ht2 := textB_le x.ky
  have ht3 := textB_le x.dt
  have ht4 := textB_le x.pf
  have ht5 := textB_le x.fr
  unfold wordC
  split
  · split <;> omega
  · split <;> omega
  · simp; omega
  · have := Lib.itoa_length_le x.n hx.n.1 hx.n.2; split <;> omega
  · have := Lib.itoa_length_le x.a hx.a.1 hx.a.2; split <;> omega
  · split <;> omega
  · split <;> omega
  · have := Lib.itoa_length_le x.fi hx.fi.1 hx.fi.2; split <;> omega
  · have := Lib.itoa_length_le x.mo hx.mo.1 hx.mo.2; split <;> omega
theorem line_len (x : Ch) (hx : x.Ok 65536) (hs : x.Short) (fs : List Nat) : (lineC x fs).length ≤ fs.length * 602 + fs.count 2 * 5400 := by
  induction fs with
  | nil => exact Nat.zero_le _
  | cons f t ih =>
    have h1 := word_len x hx hs f
    unfold lineC at ih ⊢
    rw [List.flatMap_cons, List.length_append, List.length_cons, List.length_cons, List.count_cons, Nat.add_mul, Nat.add_mul]
    generalize (t.flatMap fun f => 32 :: wordC x f).length = z at ih ⊢
    by_cases hf : f = 2
    · rw [if_pos hf] at h1
      rw [if_pos (by simp [hf])]
      omega
    · rw [if_neg hf] at h1
      rw [if_neg (by simp [hf])]
      omega
theorem form_two (d : Int) : (formC d).2.count 2 ≤ 1 := form_cases d (fun p => p.2.count 2 ≤ 1) (by decide) (by decide)
theorem text_len (x : Ch) (hx : x.Ok 65536) (hs : x.Short) (t : List UInt8) (h : textC x = some t) : t.length ≤ 10000 := by
  unfold textC at h
  split at h
  · cases h
  split at h
  rotate_left
  · cases h
  injection h with h
  subst h
  have h1 := form_len x.d
  have h2 := line_len x hx hs (formC x.d).2
  have h3 := form_two x.d
  rw [List.length_append]
  omega
theorem lineH_len (k m b o : Int) (hh : ∀ n ∈ [k, m, b, o], -9223372036854775808 ≤ n ∧ n ≤ 9223372036854775807) : (lineH [k, m, b, o]).length ≤ 100 := by
  have hnb := numsB_le [k, m, b, o] hh
  simp only [List.length_cons, List.length_nil] at hnb
  unfold lineH
  simp only [List.length_append, List.length_cons, List.length_nil]
  omega
/-- .. its lines are no longer than 20000. -/
theorem print_lines_len (k m b o : Int) (l : List Ch) (hh : ∀ n ∈ [k, m, b, o], -9223372036854775808 ≤ n ∧ n ≤ 9223372036854775807) (hx : ∀ x ∈ l, x.Ok 65536) (hs : ∀ x ∈ l, x.Short) (h0 : (printC [k, m, b, o] l).2 = 0) :
    ∀ v ∈ splitB 10 (printC [k, m, b, o] l).1, v.length ≤ 20000 := by
  obtain ⟨ht, he, _, _⟩ := print_all h0
  rw [he, body_lines _ l ht]
  intro v hv
  simp only [List.cons_append, List.mem_cons, List.mem_append, List.mem_map, List.not_mem_nil, or_false] at hv
  rcases hv with rfl | ⟨x, hxl, rfl⟩ | rfl
  · have := lineH_len k m b o hh; omega
  · obtain ⟨t, e⟩ := ht x hxl
    rw [e]
    have := text_len x (hx x hxl) (hs x hxl) t e
    simp only [Option.getD_some]
    omega
  · simp
end Go.Proofs.YtghllfihmmlcnaaDoor

/- The first sentence of layer 24's statements: a script is read. -/
namespace Go.Proofs.YtghllfihmmlcnaaDoor
open Go.RowKit Nam YtghllfihmmlcnaaDoorW.PrintWords

theorem itoa_1 : Lib.itoa 1 = [49] := by rw [show (1 : Int) = ((1 : Nat) : Int) from rfl, Lib.itoa_nonneg, Lib.decDigits_one (by decide)]; rfl
theorem itoa_3 : Lib.itoa 3 = [51] := by rw [show (3 : Int) = ((3 : Nat) : Int) from rfl, Lib.itoa_nonneg, Lib.decDigits_one (by decide)]; rfl
theorem itoa_7 : Lib.itoa 7 = [55] := by rw [show (7 : Int) = ((7 : Nat) : Int) from rfl, Lib.itoa_nonneg, Lib.decDigits_one (by decide)]; rfl
theorem itoa_16 : Lib.itoa 16 = [49, 54] := by rw [show (16 : Int) = ((16 : Nat) : Int) from rfl, Lib.itoa_nonneg, decDigits_big (by decide), Lib.decDigits_one (by decide)]; rfl
theorem itoa_99 : Lib.itoa 99 = [57, 57] := by rw [show (99 : Int) = ((99 : Nat) : Int) from rfl, Lib.itoa_nonneg, decDigits_big (by decide), Lib.decDigits_one (by decide)]; rfl
theorem itoa_999 : Lib.itoa 999 = [57, 57, 57] := by rw [show (999 : Int) = ((999 : Nat) : Int) from rfl, Lib.itoa_nonneg, decDigits_big (by decide), decDigits_big (by decide), Lib.decDigits_one (by decide)]; rfl

def makeAbc : Ch := { bareC 1 with bk := [97, 98, 99] }
def crash3 : Ch := { bareC 18 with a := 3 }
def awakeT : List UInt8 := [97, 114, 114, 97, 121, 32, 49, 32, 49, 32, 49, 54, 32, 57, 57, 57, 10, 109, 97, 107, 101, 32, 54, 49, 54, 50, 54, 51, 10, 99, 114, 97, 115, 104, 32, 51, 10]
theorem text_abc : textC makeAbc = some [109, 97, 107, 101, 32, 54, 49, 54, 50, 54, 51] := by decide
theorem text_crash : textC crash3 = some [99, 114, 97, 115, 104, 32, 51] := by
  unfold textC
  rw [if_neg (by decide), if_pos (by decide)]
  have : lineC crash3 (formC crash3.d).2 = 32 :: Lib.itoa 3 := by
    show lineC crash3 [4] = _
    unfold lineC
    simp [wordC, crash3]
  rw [this, itoa_3]
  rfl
theorem print_awake : printC [1, 1, 16, 999] [makeAbc, crash3] = (awakeT, 0) := by
  have h1 : headC [1, 1, 16, 999] = [97, 114, 114, 97, 121, 32, 49, 32, 49, 32, 49, 54, 32, 57, 57, 57, 10] := by
    unfold headC numsB
    simp [itoa_1, itoa_16, itoa_999]
  have h2 : bodyC [makeAbc, crash3] = [109, 97, 107, 101, 32, 54, 49, 54, 50, 54, 51, 10, 99, 114, 97, 115, 104, 32, 51, 10] := by
    unfold bodyC
    simp [text_abc, text_crash]
  unfold printC
  rw [h1, h2]
  simp [text_abc, text_crash, awakeT]
theorem parse_awake : parseC awakeT = ⟨[1, 1, 16, 999], [makeAbc, crash3], 0, 0⟩ := by
  have h := parse_print 1 1 16 999 [makeAbc, crash3] (by decide) (fun x hx => by
    simp only [List.mem_cons, List.not_mem_nil, or_false] at hx
    rcases hx with rfl | rfl
    · exact ⟨by decide, by decide, by decide, by decide, by decide, by decide, by decide, by decide, by decide, by decide⟩
    · exact ⟨by decide, by decide, by decide, by decide, by decide, by decide, by decide, by decide, by decide, by decide⟩) (by rw [print_awake])
  rw [print_awake] at h
  exact h.1

set_option maxHeartbeats 1000000 in
set_option maxRecDepth 100000 in
theorem awake_is (w : World) (hE : Env w) : Calls Tryd.prog 8 #[] w fun e w' => e = .returned (.bool true) ∧ Below w.heap.size w w' := by
  have HE := Lib.hid hE; clear hE
  have HP : Hid (∀ W, Below w.heap.size w W → Calls Tryd.prog 11 #[.string (mkS awakeT)] W fun e w' => (∃ g c, e = .returned (.tuple #[.agg #[.int .i64 1, .int .i64 1, .int .i64 16], .int .i64 999, .slice (some ⟨g, 0, none⟩) 2 c, .int .i64 0, .int .i64 0]) ∧ g < w'.heap.size ∧ w'.cell? ⟨g, 1, none⟩ = some (.string ⟨#[97, 98, 99]⟩) ∧ w'.cell? ⟨g, 15, none⟩ = some (.int .i64 3)) ∧ Below W.heap.size W w') := fun W hW => by
    refine (parse_is awakeT W (by decide) (by decide) (HE.out.below hW)).mono ?_
    rintro e w' ⟨⟨k, m, b, o, v, rfl, hh, hN, _⟩, hb⟩
    rw [parse_awake] at hh hN ⊢
    obtain ⟨g, c, rfl, _, hg, _⟩ := Kd.N_form hN (by decide)
    have hC := (Kd.N_reads' hN).2.2
    simp only [List.cons.injEq, and_true] at hh
    obtain ⟨rfl, rfl, rfl, rfl⟩ := hh
    obtain ⟨ad, A3, c3, hA, _, h1⟩ := at_Ch hC 0 (by decide)
    injection hA with hA
    subst hA
    obtain ⟨ad, A4, c4, hA, _, h2⟩ := at_Ch hC 1 (by decide)
    injection hA with hA
    subst hA
    exact ⟨⟨g, c, rfl, hg, h1 1 _ rfl, h2 5 _ rfl⟩, hb⟩
  go_enter Tryd.func8, Tryd.ntmps8
  go_wp2_with fail
  refine (HP.out _ (Below.refl _ _)).mono ?_
  rintro e w2 ⟨⟨g, c, rfl, hg, h1, h2⟩, hB2⟩
  have c1 : ∀ ob, (w2.alloc ob).cell? ⟨g, 1, none⟩ = some (.string ⟨#[97, 98, 99]⟩) := fun ob => by rw [World.cell?_alloc_lt _ _ _ hg]; exact h1
  have c2 : ∀ ob, (w2.alloc ob).cell? ⟨g, 15, none⟩ = some (.int .i64 3) := fun ob => by rw [World.cell?_alloc_lt _ _ _ hg]; exact h2
  have HB2 := Lib.hid hB2; clear hB2
  go_wp2_with fail
  go_ret
  exact ⟨rfl, HB2.out.alloc HB2.out.size _⟩
end Go.Proofs.YtghllfihmmlcnaaDoor

/- The statements' arguments, opened: a row of choices, a choice, an array. -/
namespace Go.Proofs.YtghllfihmmlcnaaDoor
open Go.ChangeShapes Go.WideShapes Go.ChangeAt Go.RowKit Go.Shelf Go.Deep YtghllfihmmlcnaaDoorW.PrintWords

def ofNums (zs : List Int) : List UInt8 := zs.map fun z => UInt8.ofNat z.toNat
theorem byN_ofNums (zs : List Int) (h : ∀ z ∈ zs, 0 ≤ z ∧ z ≤ 255) : byN (ofNums zs) = zs := by
  unfold byN bytesOf ofNums
  rw [mkS_list, List.map_map]
  conv => rhs; rw [← List.map_id zs]
  apply List.map_congr_left
  intro z hz
  have := h z hz
  simp
  omega

instance : Inhabited Ch := ⟨⟨0, [], [], [], 0, 0, [], [], 0, 0⟩⟩
/-- A choice's numbers are ints. -/
structure Ch.Num (x : Ch) : Prop where
  d : -9223372036854775808 ≤ x.d ∧ x.d ≤ 9223372036854775807
  n : -9223372036854775808 ≤ x.n ∧ x.n ≤ 9223372036854775807
  a : -9223372036854775808 ≤ x.a ∧ x.a ≤ 9223372036854775807
  fi : -9223372036854775808 ≤ x.fi ∧ x.fi ≤ 9223372036854775807
  mo : -9223372036854775808 ≤ x.mo ∧ x.mo ≤ 9223372036854775807

section
variable {H : Type} {enc : TypeId × Value → H}
set_option maxRecDepth 100000 in
theorem open_ch {w : World} {base : Nat} {spare : Nat → Bool} {held : Bool} {fuel : Nat} {cs : List Value} {x : DataW H × List MemPlace}
    (h : DataW.trod enc Tryd.prog w base spare held fuel 39 cs = some x) : ∃ c : Ch, kCh.K w c cs ∧ c.Num := by
  have c39 : Tryd.prog.cellsOf 39 = 10 := by kernel_rfl
  have c37 : Tryd.prog.cellsOf 37 = 4 := by kernel_rfl
  have c9 : Tryd.prog.cellsOf 9 = 1 := by kernel_rfl
  have c5 : Tryd.prog.cellsOf 35 = 1 := by kernel_rfl
  have cu : Tryd.prog.cellsOf 5 = 1 := by kernel_rfl
  have c3 : Tryd.prog.cellsOf 3 = 1 := by kernel_rfl
  obtain ⟨xs, n, _, _, hl, hxl, hf⟩ := DataW.trod_struct Tryd.underlying39 h
  rw [c39] at hl
  match cs, hl with
  | [v0, v1, v2, v3, v4, v5, v6, v7, v8, v9], _ =>
    have hxl : xs.length = 7 := hxl
    have k0 := hf 0 _ rfl
    have k1 := hf 1 _ rfl
    have k2 := hf 2 _ rfl
    have k3 := hf 3 _ rfl
    have k4 := hf 4 _ rfl
    have k5 := hf 5 _ rfl
    have k6 := hf 6 _ rfl
    rw [List.getElem?_eq_getElem (by omega)] at k0 k1 k2 k3 k4 k5 k6
    simp [c9, c5, c37, c3] at k0 k1 k2 k3 k4 k5 k6
    obtain ⟨i0, e0, _, w0⟩ := DataW.trod_int Tryd.underlying3 k0
    obtain ⟨s1, e1, _, _⟩ := DataW.trod_string Tryd.underlying9 k1
    obtain ⟨s2, e2, _, _⟩ := DataW.trod_string Tryd.underlying9 k2
    obtain ⟨i4, e4, _, w4⟩ := DataW.trod_int Tryd.underlying3 k4
    obtain ⟨i5, e5, _, w5⟩ := DataW.trod_int Tryd.underlying3 k5
    obtain ⟨ys, n', _, _, _, hyl, hg⟩ := DataW.trod_struct Tryd.underlying37 k6
    have hyl : ys.length = 4 := hyl
    have m0 := hg 0 _ rfl
    have m1 := hg 1 _ rfl
    have m2 := hg 2 _ rfl
    have m3 := hg 3 _ rfl
    rw [List.getElem?_eq_getElem (by omega)] at m0 m1 m2 m3
    simp [c9, c3] at m0 m1 m2 m3
    obtain ⟨s6, e6, _, _⟩ := DataW.trod_string Tryd.underlying9 m0
    obtain ⟨s7, e7, _, _⟩ := DataW.trod_string Tryd.underlying9 m1
    obtain ⟨i8, e8, _, w8⟩ := DataW.trod_int Tryd.underlying3 m2
    obtain ⟨i9, e9, _, w9⟩ := DataW.trod_int Tryd.underlying3 m3
    simp only [List.cons.injEq, and_true] at e0 e1 e2 e4 e5 e6 e7 e8 e9
    subst e0; subst e1; subst e2; subst e4; subst e5; subst e6; subst e7; subst e8; subst e9
    have hdt : ∃ (A : Option Addr) (zs : List Int) (c : Nat), v3 = .slice A zs.length c ∧ zs.length ≤ c ∧ (∀ z ∈ zs, 0 ≤ z ∧ z ≤ 255) ∧ (Kd.int .u8).C w A zs.length zs := by
      rcases open_ints Tryd.underlying35 Tryd.underlying5 cu k3 with ⟨hcs, _⟩ | ⟨a, len, cap, zs, hcs, _, hl, hm, hz, _, hcell, hwz⟩
      · simp only [List.cons.injEq, and_true] at hcs
        exact ⟨none, [], 0, hcs, Nat.le_refl _, (fun z hz => by cases hz), Kd.C_nil _ _⟩
      · simp only [List.cons.injEq, and_true] at hcs
        have hlz : len ≤ zs.length := by rw [hz]; split <;> omega
        have hlt : (zs.take len).length = len := by rw [List.length_take]; omega
        refine ⟨some a, zs.take len, cap, by rw [hlt]; exact hcs, by rw [hlt]; exact hl, fun z hz => wf_u8 (hwz z (List.mem_of_mem_take hz)), ?_⟩
        rw [hlt]
        unfold maxLen at hm
        refine Kd.C_of_reads (enc := Value.int .u8) (d := (0 : Int)) (h1 := fun _ => rfl) ⟨hlt, by omega, fun _ => ⟨a, rfl, fun j hj => ?_⟩⟩
        rw [hcell j (by omega), List.getD_eq_getElem?_getD, List.getD_eq_getElem?_getD, List.getElem?_take_of_lt hj]
    obtain ⟨A, zs, c, rfl, hc, hz, hC⟩ := hdt
    have hbz := byN_ofNums zs hz
    have key := kCh_mk w (⟨i0, s1.data.toList, s2.data.toList, ofNums zs, i4, i5, s6.data.toList, s7.data.toList, i8, i9⟩ : Ch) (A := A) (c := c) (by rw [hbz]; exact hc) (by rw [hbz]; exact hC)
    unfold chCells at key
    simp only [hbz, mkS_of] at key
    exact ⟨_, key, ⟨wf_i64 w0, wf_i64 w4, wf_i64 w5, wf_i64 w8, wf_i64 w9⟩⟩

set_option maxRecDepth 100000 in
/-- The row itself. -/
theorem open_chs {w : World} {base : Nat} {r : Reach} {held : Bool} {v : Value} {d : DataW H} {ps : List MemPlace} (hval : Value.okWide Tryd.prog w r base 22 v)
    (hd : DataW.Trod enc Tryd.prog w 0 (fun _ => true) held 22 v d ps) : ∃ (l : List Ch) (A : Option Addr) (c : Nat), v = .slice A l.length c ∧ l.length ≤ c ∧ Kd.C kCh w A l.length l ∧ ∀ x ∈ l, x.Num := by
  have ht : Tryd.prog.underlying 22 = some (.slice 39) := Tryd.underlying22
  have c39 : Tryd.prog.cellsOf 39 = 10 := by kernel_rfl
  obtain ⟨a0, len0, cap0, rfl⟩ := okWide_slice ht hval
  obtain ⟨fuel, hf⟩ := hd
  rcases open_slice ht hf with ⟨h, _⟩ | ⟨a, len, cap, m, n, D, Pl, h, _, hl, hm, hmm, _, hx⟩
  · simp [Value.cells] at h
    obtain ⟨rfl, rfl, rfl⟩ := h
    exact ⟨[], none, 0, rfl, Nat.le_refl _, Kd.C_nil _ _, fun x hx => by cases hx⟩
  · simp [Value.cells] at h
    obtain ⟨rfl, rfl, rfl⟩ := h
    rw [if_pos rfl] at hmm
    obtain rfl : cap0 = m := hmm.symm
    have key : ∀ i, i < len0 → ∃ c : Ch, c.Num ∧ ∃ cs, cs.length = 10 ∧ kCh.K w c cs ∧ ∀ k u, cs[k]? = some u → w.cell? (a.add (i * 10 + k)) = some u := fun i hi => by
      obtain ⟨cs', h1, h2⟩ := hx i (by omega)
      rw [c39] at h1
      obtain ⟨c, hK, hN⟩ := open_ch h2
      obtain ⟨_, hl', hcell⟩ := World.cells?_some h1
      refine ⟨c, hN, cs', hl', hK, fun k u hu => ?_⟩
      have hk : k < 10 := by rw [← hl']; exact (List.getElem?_eq_some_iff.1 hu).1
      have := hcell k hk
      rw [hu, Go.Deep.add_add] at this
      exact this
    obtain ⟨E, hE⟩ := choose_lt (α := Ch) (p := fun i c => c.Num ∧ ∃ cs, cs.length = 10 ∧ kCh.K w c cs ∧ ∀ k u, cs[k]? = some u → w.cell? (a.add (i * 10 + k)) = some u) key
    refine ⟨(List.range len0).map E, some a, cap0, by simp, by simpa using hl, ?_, fun x hx => ?_⟩
    · unfold maxLen at hm
      refine ⟨by simp, by simp; omega, fun _ => ⟨a, rfl, fun j p hp => ?_⟩⟩
      rw [List.getElem?_map] at hp
      have hj : j < len0 := by
        by_cases h : j < len0
        · exact h
        · rw [List.getElem?_eq_none (by simp; omega)] at hp; cases hp
      rw [List.getElem?_range hj] at hp
      simp only [Option.map_some, Option.some.injEq] at hp
      subst hp
      exact (hE j hj).2
    · obtain ⟨j, hj, rfl⟩ := List.mem_map.1 hx
      exact (hE j (List.mem_range.1 hj)).1

set_option maxRecDepth 100000 in
theorem open_shape {w : World} {base : Nat} {r : Reach} {held : Bool} {v : Value} {d : DataW H} {ps : List MemPlace} (hval : Value.okWide Tryd.prog w r base 26 v)
    (hd : DataW.Trod enc Tryd.prog w 0 (fun _ => true) held 26 v d ps) : ∃ k m b : Int, v = .agg #[.int .i64 k, .int .i64 m, .int .i64 b] ∧ ∀ n ∈ [k, m, b], -9223372036854775808 ≤ n ∧ n ≤ 9223372036854775807 := by
  have c3 : Tryd.prog.cellsOf 3 = 1 := by kernel_rfl
  have c26 : Tryd.prog.cellsOf 26 = 3 := by kernel_rfl
  obtain ⟨cs, rfl, hsz⟩ := okWide_struct Tryd.underlying26 hval
  obtain ⟨fuel, hf⟩ := hd
  obtain ⟨xs, n, _, _, hl, hxl, hg⟩ := DataW.trod_struct Tryd.underlying26 hf
  rw [c26] at hsz
  obtain ⟨v0, v1, v2, rfl⟩ : ∃ v0 v1 v2, cs = #[v0, v1, v2] := by
    obtain ⟨l⟩ := cs
    match l, hsz with
    | [a, b, c], _ => exact ⟨a, b, c, rfl⟩
  have hxl : xs.length = 3 := hxl
  have m0 := hg 0 _ rfl
  have m1 := hg 1 _ rfl
  have m2 := hg 2 _ rfl
  rw [List.getElem?_eq_getElem (by omega)] at m0 m1 m2
  simp [Value.cells, c3] at m0 m1 m2
  obtain ⟨i0, e0, _, w0⟩ := DataW.trod_int Tryd.underlying3 m0
  obtain ⟨i1, e1, _, w1⟩ := DataW.trod_int Tryd.underlying3 m1
  obtain ⟨i2, e2, _, w2⟩ := DataW.trod_int Tryd.underlying3 m2
  simp only [List.cons.injEq, and_true] at e0 e1 e2
  subst e0; subst e1; subst e2
  refine ⟨i0, i1, i2, rfl, fun n hn => ?_⟩
  simp only [List.mem_cons, List.not_mem_nil, or_false] at hn
  rcases hn with rfl | rfl | rfl
  · exact wf_i64 w0
  · exact wf_i64 w1
  · exact wf_i64 w2

set_option maxRecDepth 100000 in
/-- One choice. -/
theorem open_choice {w : World} {base : Nat} {r : Reach} {held : Bool} {v : Value} {d : DataW H} {ps : List MemPlace} (hval : Value.okWide Tryd.prog w r base 39 v)
    (hd : DataW.Trod enc Tryd.prog w 0 (fun _ => true) held 39 v d ps) : ∃ (x : Ch) (A : Option Addr) (c : Nat), v = .agg (chCells x (.slice A (byN x.dt).length c)).toArray ∧ (byN x.dt).length ≤ c ∧ (Kd.int .u8).C w A (byN x.dt).length (byN x.dt) ∧ x.Num := by
  obtain ⟨cs, rfl, hsz⟩ := okWide_struct Tryd.underlying39 hval
  obtain ⟨fuel, hf⟩ := hd
  obtain ⟨x, hK, hN⟩ := open_ch hf
  obtain ⟨A, c, he, hl, hC⟩ := kCh_open hK
  refine ⟨x, A, c, ?_, hl, hC, hN⟩
  rw [← he]
  simp [Value.cells]
end
end Go.Proofs.YtghllfihmmlcnaaDoor

/- What the rows lay is what the walks read; a world that meets it. -/
namespace Go.Proofs.YtghllfihmmlcnaaDoor
open Go.ChangeShapes Go.WideShapes Go.ChangeAt Go.RowKit

def laid5 : List (String × DataW Unit) := [("math/bits.deBruijn32tab", Rows.laid_math_bits_deBruijn32tab), ("math/bits.deBruijn64tab", Rows.laid_math_bits_deBruijn64tab), ("internal/strconv.uint64pow10", Rows.laid_internal_strconv_uint64pow10), ("strconv.ErrRange", Rows.laid_strconv_ErrRange), ("strconv.ErrSyntax", Rows.laid_strconv_ErrSyntax)]
theorem gTab : Tryd.prog.globalNamed "internal/strconv.uint64pow10" = some 2 := by kernel_rfl
theorem gSyn : Tryd.prog.globalNamed "strconv.ErrSyntax" = some 0 := by kernel_rfl
theorem gRng : Tryd.prog.globalNamed "strconv.ErrRange" = some 1 := by kernel_rfl
theorem gSynType : (Tryd.prog.globals[0]?).map (·.type) = some 79 := by kernel_rfl
theorem gRngType : (Tryd.prog.globals[1]?).map (·.type) = some 79 := by kernel_rfl
theorem gTabType : (Tryd.prog.globals[2]?).map (·.type) = some 120 := by kernel_rfl
theorem cellsES : Tryd.prog.cellsOf 128 = 1 := by kernel_rfl
theorem cellsStr : Tryd.prog.cellsOf 9 = 1 := by kernel_rfl
theorem starES : "*" ++ "errors.errorString" = "*errors.errorString" := by decide
theorem rowES (u : TypeId) (h : Tryd.prog.typeName? 3 u = some "*errors.errorString") : u = 126 :=
  typeName_ptr_named (nm := "errors.errorString") (by rw [starES]; kernel_rfl) (by kernel_rfl) (by decide) u (by rw [starES]; exact h)
theorem tabIs5 : (Rows.laid_internal_strconv_uint64pow10 : DataW Unit) = Lib.tabData .u64 Lib.pow10Tab := by kernel_rfl
theorem env_of5 {W : World} (h : laidMet Tryd.prog laid5 W) : Env W := by
  unfold laid5 at h
  have h3 := h.tail.tail
  rw [tabIs5] at h3
  have hs := laid_sentinel h.tail.tail.tail.tail gSyn gSynType Tryd.underlying79 rowES Tryd.underlying126 Tryd.underlying128 rfl rfl Tryd.underlying9 cellsES cellsStr
  have hr := laid_sentinel h.tail.tail.tail gRng gRngType Tryd.underlying79 rowES Tryd.underlying126 Tryd.underlying128 rfl rfl Tryd.underlying9 cellsES cellsStr
  obtain ⟨a0, s0, hv0, -, -, -⟩ := hs
  obtain ⟨a1, s1, hv1, -, -, -⟩ := hr
  exact ⟨Lib.tabIs_of_head gTab gTabType Tryd.underlying120 Tryd.underlying89 (by kernel_rfl) (by kernel_rfl) h3, ⟨_, _, hv0⟩, ⟨_, _, hv1⟩⟩

theorem own : ownKnob Tryd.prog.godebug = none := by kernel_rfl
theorem laidOut : laidOutB Tryd.prog = true := by kernel_rfl
/-- The cells of a table as it is laid. -/
def tabCells : DataW Unit → Array Value
  | .agg l => (l.map fun x => match x with
    | .lit (.int k n) => Value.int k n
    | _ => .nilIface).toArray
  | _ => #[]
abbrev synS : ByteArray := { data := #[105, 110, 118, 97, 108, 105, 100, 32, 115, 121, 110, 116, 97, 120] }
abbrev rngS : ByteArray := { data := #[118, 97, 108, 117, 101, 32, 111, 117, 116, 32, 111, 102, 32, 114, 97, 110, 103, 101] }
noncomputable def low : Nat := (World.holding Tryd.prog default ⟨#[], #[], []⟩).heap.size
/-- A world for the witness: the variables holding what their initialisers lay. -/
noncomputable def laidWorld (os : Os) : World :=
  let w0 := World.holding Tryd.prog os ⟨#[.cells #[.string synS] 128, .cells #[.string rngS] 128], #[], []⟩
  let put (h : Array Obj) (g : Nat) (cs : Array Value) : Array Obj := h.modify g fun
    | .cells _ t frozen => .cells cs t frozen
    | o => o
  let h1 := put w0.heap 4 (tabCells Rows.laid_math_bits_deBruijn32tab)
  let h2 := put h1 5 (tabCells Rows.laid_math_bits_deBruijn64tab)
  let h3 := put h2 2 (tabCells Rows.laid_internal_strconv_uint64pow10)
  let h4 := put h3 0 #[.iface 126 (.pointer (some ⟨low, 0, none⟩))]
  let h5 := put h4 1 #[.iface 126 (.pointer (some ⟨low + 1, 0, none⟩))]
  { w0 with heap := h5 }
end Go.Proofs.YtghllfihmmlcnaaDoor

/-! ### for the laws -/
namespace Go.Proofs.YtghllfihmmlcnaaDoor
open Go.ChangeShapes Go.WideShapes Go.ChangeAt Go.RowKit Nam YtghllfihmmlcnaaDoorW.PrintWords
theorem eqA26 (d : Nat) (w : World) (x0 y0 : Int) (x1 y1 : Int) (x2 y2 : Int) :
    (Op.equalIn (d + 2) 26 (.agg #[.int .i64 x0, .int .i64 x1, .int .i64 x2]) (.agg #[.int .i64 y0, .int .i64 y1, .int .i64 y2])).run Tryd.prog w = .ok (x0 == y0 && (x1 == y1 && (x2 == y2))) w := by
  refine eqA_of Tryd.underlying26 (by kernel_rfl) ?_
  refine eqf_cons (by rfl) (by go_simp; rfl) (by go_simp; rfl) (by go_simp) ?_
  refine eqf_cons (by rfl) (by go_simp; rfl) (by go_simp; rfl) (by go_simp) ?_
  exact eqf_last (by rfl) (by go_simp; rfl) (by go_simp; rfl) (by go_simp)
theorem ch_ok {x : Ch} (h : x.Num) (hs : x.Short) : x.Ok 3000 := ⟨h.d, h.n, h.a, h.fi, h.mo, by have := hs.bk; omega, by have := hs.ky; omega, hs.dt, by have := hs.pf; omega, by have := hs.fr; omega⟩
theorem ch_short {l : List Ch} {m : Nat} (h : roomB l m = true) : ∀ x ∈ l, x.Short := fun x hx => by
  obtain ⟨h1, h2, h3, h4, h5⟩ := (roomB_ok h).2 x hx
  exact ⟨h1, h2, h3, h4, h5⟩
/-- What lies in a row of choices, and stays. -/
def HasC (w : World) (A : Option Addr) (l : List Ch) : Prop := ∀ w', Below w.heap.size w w' → Kd.C kCh w' A l.length l
theorem HasC.of {w : World} {A : Option Addr} {l : List Ch} (h : Kd.C kCh w A l.length l) : HasC w A l := fun _ hb => Kd.C_below h hb
theorem HasC.below {w w' : World} {A : Option Addr} {l : List Ch} (h : HasC w A l) (hb : Below w.heap.size w w') : HasC w' A l := fun _ hb2 => h _ (hb.trans (hb2.mono hb.size))
theorem HasC.now {w : World} {A : Option Addr} {l : List Ch} (h : HasC w A l) : Kd.C kCh w A l.length l := h _ (Below.refl _ _)
/-- Data that stays. -/
def HasD (w : World) (v : Value) (l : List UInt8) : Prop := ∀ w', Below w.heap.size w w' → Dt w' (fun _ => True) v l
theorem HasD.of {w : World} {ok : Nat → Prop} {v : Value} {l : List UInt8} (h : Dt w ok v l) : HasD w v l := fun _ hb => Kd.V_mono (Kd.V_below h hb) (fun _ _ => trivial)
theorem HasD.below {w w' : World} {v : Value} {l : List UInt8} (h : HasD w v l) (hb : Below w.heap.size w w') : HasD w' v l := fun _ hb2 => h _ (hb.trans (hb2.mono hb.size))
theorem HasD.now {w : World} {v : Value} {l : List UInt8} (h : HasD w v l) : Dt w (fun _ => True) v l := h _ (Below.refl _ _)
end Go.Proofs.YtghllfihmmlcnaaDoor
