/- Lives as texts, plainly: what was printed is read as it was. -/
import Derived.Test.YtghllfihmmlcnaaDoorScrM
import Derived.Test.YtghllfihmmlcnaaDoorScrO
namespace Go.Proofs.YtghllfihmmlcnaaDoor
open Go.RowKit Nam YtghllfihmmlcnaaDoorW.PrintWords

/-- Bytes above a blank. -/
def Big (l : List UInt8) : Prop := ∀ c ∈ l, 32 < c.toNat
theorem Big.not {l : List UInt8} (h : Big l) (c : UInt8) (hc : c.toNat ≤ 32) : c ∉ l := fun hm => by have := h c hm; omega
theorem Big.app {a b : List UInt8} (ha : Big a) (hb : Big b) : Big (a ++ b) := fun c hc => (List.mem_append.1 hc).elim (ha c) (hb c)
theorem big_itoa (n : Int) : Big (Lib.itoa n) := by
  have hd : ∀ u : Nat, Big (Lib.decDigits u) := fun u c hc => by have := ((decDigits_canon u u (Nat.le_refl _)).1.dig c hc).1; omega
  by_cases hn : n < 0
  · obtain ⟨u, rfl⟩ : ∃ u : Nat, n = -(u : Int) := ⟨n.natAbs, by omega⟩
    rw [Lib.itoa_neg u (by omega)]
    intro c hc
    rcases List.mem_cons.1 hc with rfl | hc
    · decide
    · exact hd u c hc
  · obtain ⟨u, rfl⟩ : ∃ u : Nat, n = (u : Int) := ⟨n.toNat, by omega⟩
    rw [Lib.itoa_nonneg]
    exact hd u
theorem big_hexd (n : Nat) (h : n < 16) : 32 < (hexd n).toNat := by rw [hexd_toNat n h]; split <;> omega
theorem big_path : ∀ l : List UInt8, Big (pathB l)
  | [] => fun c hc => by cases hc
  | x :: t => by
    have hx := x.toNat_lt
    rw [path_cons]
    intro c hc
    rcases List.mem_cons.1 hc with rfl | hc
    · exact big_hexd _ (by omega)
    · rcases List.mem_cons.1 hc with rfl | hc
      · exact big_hexd _ (by omega)
      · exact big_path t c hc
theorem big_text (l : List UInt8) : Big (textB l) := by
  unfold textB
  split
  · intro c hc; simp only [List.mem_singleton] at hc; subst hc; decide
  · exact big_path l
theorem big_word (x : Ch) (f : Nat) : Big (wordC x f) := by
  unfold wordC
  split <;> first | exact big_text _ | exact big_itoa _
theorem big_verb (d : Int) : Big (formC d).1 := form_cases d (fun p => ∀ c ∈ p.1, 32 < c.toNat) (by decide) (by simp)

/-- Words behind a blank each, cut. -/
theorem split_words (a : List UInt8) (ha : Big a) : ∀ ws : List (List UInt8), (∀ w ∈ ws, Big w) → splitB 32 (a ++ ws.flatMap (fun w => 32 :: w)) = a :: ws := by
  intro ws
  induction ws generalizing a with
  | nil => intro _; simpa using splitB_none 32 a (ha.not 32 (by decide))
  | cons w t ih =>
    intro h
    rw [List.flatMap_cons, List.cons_append, splitB_put 32 _ a (ha.not 32 (by decide)), ih w (h w (by simp)) (fun v hv => h v (by simp [hv]))]
theorem lineC_words (x : Ch) (fs : List Nat) : lineC x fs = (fs.map (wordC x)).flatMap (fun w => 32 :: w) := by unfold lineC; rw [List.flatMap_map]
theorem numsB_words (ns : List Int) : numsB ns = (ns.map Lib.itoa).flatMap (fun w => 32 :: w) := by unfold numsB; rw [List.flatMap_map]

theorem fillC_words (x : Ch) (hx : x.Ok 65536) : ∀ (fs : List Nat) (y : Ch), fillC y fs (fs.map (wordC x)) = some (fs.foldl (putC x) y)
  | [], y => rfl
  | f :: fs, y => by
    rw [List.map_cons, fillC, setC_word x y hx f, Option.bind_some, fillC_words x hx fs, List.foldl_cons]
theorem form_inj (d d' : Int) (h : (formC d).1 = (formC d').1) (h0 : (formC d).1 ≠ []) : d = d' := by
  have key : ∀ n n' : Fin 20, (formC (n.val : Int)).1 = (formC (n'.val : Int)).1 → (formC (n.val : Int)).1 ≠ [] → n = n' := by decide
  have out : ∀ d : Int, ¬ (1 ≤ d ∧ d ≤ 19) → (formC d).1 = [] := by
    intro d h1
    unfold formC
    iterate 19 rw [if_neg (by omega)]
  by_cases h1 : 1 ≤ d ∧ d ≤ 19
  · by_cases h2 : 1 ≤ d' ∧ d' ≤ 19
    · obtain ⟨n, rfl⟩ : ∃ n : Nat, d = n := ⟨d.toNat, by omega⟩
      obtain ⟨n', rfl⟩ : ∃ n : Nat, d' = n := ⟨d'.toNat, by omega⟩
      have := key ⟨n, by omega⟩ ⟨n', by omega⟩ h h0
      simpa using congrArg (fun f : Fin 20 => (f.val : Int)) this
    · rw [out d' h2] at h; exact absurd h h0
  · exact absurd (out d h1) h0
theorem form_range (d : Int) (h : (formC d).1 ≠ []) : 1 ≤ d ∧ d ≤ 19 := by
  apply Classical.byContradiction
  intro h1
  apply h
  unfold formC
  iterate 19 rw [if_neg (by omega)]
theorem fromC_at (L : List (List UInt8)) (d : Int) (r : Option Ch) (h1 : tryC L d = some r) : ∀ (k : Nat) (d0 : Int), d0 ≤ d → d < d0 + k → (∀ e, d0 ≤ e → e < d → tryC L e = none) → fromC L k d0 = r
  | 0, d0, h2, h3, _ => by omega
  | k + 1, d0, h2, h3, h4 => by
    rw [fromC]
    by_cases he : d0 = d
    · subst he; rw [h1]
    · rw [h4 d0 (by omega) (by omega)]
      exact fromC_at L d r h1 k (d0 + 1) (by omega) (by omega) (fun e h5 h6 => h4 e (by omega) h6)
theorem choiceC_text (x : Ch) (hx : x.Ok 65536) (t : List UInt8) (h : textC x = some t) : choiceC t = some x := by
  unfold textC at h
  split at h
  · cases h
  rename_i hv
  split at h
  rotate_left
  · cases h
  rename_i ho
  injection h with h
  subst h
  unfold choiceC
  rw [lineC_words, split_words _ (big_verb _) _ (fun w hw => by obtain ⟨f, _, rfl⟩ := List.mem_map.1 hw; exact big_word x f)]
  have hr := form_range x.d hv
  refine fromC_at _ x.d (some x) ?_ 19 1 hr.1 (by omega) (fun e h1 h2 => ?_)
  · unfold tryC
    rw [if_pos ⟨rfl, by simp⟩, List.tail_cons, fillC_words x hx]
    have h3 : (formC x.d).2.foldl (putC x) (bareC x.d) = x := ho
    rw [h3]
  · unfold tryC
    rw [if_neg]
    rintro ⟨h3, _⟩
    have h4 : (formC e).1 = (formC x.d).1 := h3
    have h5 := form_inj e x.d h4 (by rw [h4]; exact hv)
    omega

theorem mapN_words : ∀ ns : List Int, (∀ n ∈ ns, -9223372036854775808 ≤ n ∧ n ≤ 9223372036854775807) → mapN (ns.map Lib.itoa) = some ns
  | [], _ => rfl
  | n :: t, h => by
    rw [List.map_cons, mapN, numOf_itoa n (h n (by simp)).1 (h n (by simp)).2, Option.bind_some, mapN_words t (fun m hm => h m (by simp [hm]))]
    rfl
def lineH (h : List Int) : List UInt8 := [97, 114, 114, 97, 121] ++ numsB h
theorem headC_line (h : List Int) : headC h = lineH h ++ [10] := rfl
theorem shapeC_line (k m b o : Int) (hh : ∀ n ∈ [k, m, b, o], -9223372036854775808 ≤ n ∧ n ≤ 9223372036854775807) : shapeC (lineH [k, m, b, o]) = some [k, m, b, o] := by
  have hs : splitB 32 (lineH [k, m, b, o]) = [97, 114, 114, 97, 121] :: [k, m, b, o].map Lib.itoa := by
    unfold lineH
    rw [numsB_words]
    exact split_words _ (by unfold Big; decide) _ (fun w hw => by obtain ⟨f, _, rfl⟩ := List.mem_map.1 hw; exact big_itoa f)
  unfold shapeC
  rw [hs, if_pos ⟨by simp, rfl⟩, List.tail_cons, mapN_words _ hh]

/-- No line's end within. -/
theorem words_10 (a : List UInt8) (ha : Big a) (ws : List (List UInt8)) (h : ∀ w ∈ ws, Big w) : (10 : UInt8) ∉ a ++ ws.flatMap (fun w => 32 :: w) := by
  intro hm
  rcases List.mem_append.1 hm with hm | hm
  · exact ha.not 10 (by decide) hm
  · obtain ⟨w, hw, hm⟩ := List.mem_flatMap.1 hm
    rcases List.mem_cons.1 hm with hm | hm
    · exact absurd hm (by decide)
    · exact (h w hw).not 10 (by decide) hm
theorem lineH_10 (h : List Int) : (10 : UInt8) ∉ lineH h := by
  unfold lineH
  rw [numsB_words]
  exact words_10 _ (by unfold Big; decide) _ (fun w hw => by obtain ⟨f, _, rfl⟩ := List.mem_map.1 hw; exact big_itoa f)
theorem textC_10 (x : Ch) (t : List UInt8) (h : textC x = some t) : (10 : UInt8) ∉ t := by
  unfold textC at h
  split at h
  · cases h
  split at h
  rotate_left
  · cases h
  injection h with h
  subst h
  rw [lineC_words]
  exact words_10 _ (big_verb _) _ (fun w hw => by obtain ⟨f, _, rfl⟩ := List.mem_map.1 hw; exact big_word x f)

/-- Lines with an end each, cut. -/
theorem split_lines : ∀ (ls : List (List UInt8)) (z : List UInt8), (∀ l ∈ ls, (10 : UInt8) ∉ l) → splitB 10 (ls.flatMap (fun l => l ++ [10]) ++ z) = ls ++ splitB 10 z
  | [], z, _ => rfl
  | l :: t, z, h => by
    rw [List.flatMap_cons, List.append_assoc, List.append_assoc, List.singleton_append, splitB_put 10 _ l (h l (by simp)), split_lines t z (fun v hv => h v (by simp [hv]))]
    rfl

/-- The lines of choices, read. -/
theorem readL_body (h : List Int) : ∀ (l : List Ch) (i : Nat) (acc : List Ch) (r : List (List UInt8)), i ≠ 0 → (∀ x ∈ l, choiceC ((textC x).getD []) = some x) → readL i h acc (l.map (fun x => (textC x).getD []) ++ r) = readL (i + l.length) h (acc ++ l) r
  | [], i, acc, r, _, _ => by simp
  | x :: t, i, acc, r, hi, hx => by
    rw [List.map_cons, List.cons_append, readL, if_neg hi, hx x (by simp)]
    simp only []
    rw [readL_body h t (i + 1) (acc ++ [x]) r (by omega) (fun y hy => hx y (by simp [hy])), List.append_assoc, List.length_cons]
    congr 1
    omega

theorem bodyC_lines (l : List Ch) : bodyC l = (l.map (fun x => (textC x).getD [])).flatMap (fun l => l ++ [10]) := by unfold bodyC; rw [List.flatMap_map]
theorem print_all {h : List Int} {l : List Ch} (h0 : (printC h l).2 = 0) : (∀ x ∈ l, ∃ t, textC x = some t) ∧ (printC h l).1 = headC h ++ bodyC l ∧ (headC h ++ bodyC l).length ≤ 65536 ∧ l.length < 2000 := by
  unfold printC at h0 ⊢
  split at h0
  · exact absurd h0 (by decide)
  rename_i hn
  split at h0
  · exact absurd h0 (by decide)
  rename_i hl
  rw [if_neg hn, if_neg hl]
  refine ⟨fun x hx => ?_, rfl, by omega, by omega⟩
  cases ht : textC x with
  | some t => exact ⟨t, rfl⟩
  | none => exact absurd (List.any_eq_true.2 ⟨x, hx, by rw [ht]; rfl⟩) hn
theorem body_lines (h : List Int) (l : List Ch) (hs : ∀ x ∈ l, ∃ t, textC x = some t) : splitB 10 (headC h ++ bodyC l) = (lineH h :: l.map (fun x => (textC x).getD [])) ++ [[]] := by
  have := split_lines (lineH h :: l.map (fun x => (textC x).getD [])) [] (fun v hv => by
    rcases List.mem_cons.1 hv with rfl | hv
    · exact lineH_10 _
    · obtain ⟨x, hxl, rfl⟩ := List.mem_map.1 hv
      obtain ⟨t, ht⟩ := hs x hxl
      rw [ht]; exact textC_10 x t ht)
  rw [List.append_nil, List.flatMap_cons, ← bodyC_lines] at this
  exact this

/-- What was printed is read as it was. -/
theorem parse_print (k m b o : Int) (l : List Ch) (hh : ∀ n ∈ [k, m, b, o], -9223372036854775808 ≤ n ∧ n ≤ 9223372036854775807) (hx : ∀ x ∈ l, x.Ok 65536) (h0 : (printC [k, m, b, o] l).2 = 0) :
    parseC (printC [k, m, b, o] l).1 = ⟨[k, m, b, o], l, 0, 0⟩ ∧ (printC [k, m, b, o] l).1.length ≤ 65536 := by
  obtain ⟨hs, he, hnl, hlen⟩ := print_all h0
  rw [he]
  refine ⟨?_, hnl⟩
  unfold parseC
  rw [body_lines _ l hs, if_neg (by
    simp only [List.length_append, List.length_cons, List.length_map, List.length_nil, List.getLastD_concat, if_true] at *
    omega)]
  rw [List.dropLast_concat, List.getLastD_concat]
  unfold parseL
  rw [readL, if_pos rfl, shapeC_line k m b o hh]
  simp only []
  have hr := readL_body [k, m, b, o] l 1 [] [] (by decide) (fun x hxl => by obtain ⟨t, ht⟩ := hs x hxl; rw [ht]; exact choiceC_text x (hx x hxl) t ht)
  rw [List.append_nil] at hr
  rw [hr, readL]
  simp

/-- Its texts are short, but for the data. -/
structure Ch.Short (x : Ch) : Prop where
  bk : x.bk.length ≤ 300
  ky : x.ky.length ≤ 300
  dt : x.dt.length ≤ 3000
  pf : x.pf.length ≤ 300
  fr : x.fr.length ≤ 300
theorem word_len (x : Ch) (hx : x.Ok 65536) (hs : x.Short) (f : Nat) : (wordC x f).length ≤ 601 + (if f = 2 then 5400 else 0) := by
  have hb := hs.bk
  have hk := hs.ky
  have hd := hs.dt
  have hp := hs.pf
  have hr := hs.fr
  have ht := textB_le x.bk
  have ht2 := textB_le x.ky
  have ht3 := textB_le x.dt
  have ht4 := textB_le x.pf
  have ht5 := textB_le x.fr
  unfold wordC
  split
  · split <;> omega
  · split <;> omega
  · simp; omega
  · have := Lib.itoa_length_le x.n hx.n.1 hx.n.2; split <;> omega
  · have := Lib.itoa_length_le x.a hx.a.1 hx.a.2; split <;> omega
  · split <;> omega
  · split <;> omega
  · have := Lib.itoa_length_le x.fi hx.fi.1 hx.fi.2; split <;> omega
  · have := Lib.itoa_length_le x.mo hx.mo.1 hx.mo.2; split <;> omega
theorem line_len (x : Ch) (hx : x.Ok 65536) (hs : x.Short) (fs : List Nat) : (lineC x fs).length ≤ fs.length * 602 + fs.count 2 * 5400 := by
  induction fs with
  | nil => exact Nat.zero_le _
  | cons f t ih =>
    have h1 := word_len x hx hs f
    unfold lineC at ih ⊢
    rw [List.flatMap_cons, List.length_append, List.length_cons, List.length_cons, List.count_cons, Nat.add_mul, Nat.add_mul]
    generalize (t.flatMap fun f => 32 :: wordC x f).length = z at ih ⊢
    by_cases hf : f = 2
    · rw [if_pos hf] at h1
      rw [if_pos (by simp [hf])]
      omega
    · rw [if_neg hf] at h1
      rw [if_neg (by simp [hf])]
      omega
theorem form_two (d : Int) : (formC d).2.count 2 ≤ 1 := form_cases d (fun p => p.2.count 2 ≤ 1) (by decide) (by decide)
theorem text_len (x : Ch) (hx : x.Ok 65536) (hs : x.Short) (t : List UInt8) (h : textC x = some t) : t.length ≤ 10000 := by
  unfold textC at h
  split at h
  · cases h
  split at h
  rotate_left
  · cases h
  injection h with h
  subst h
  have h1 := form_len x.d
  have h2 := line_len x hx hs (formC x.d).2
  have h3 := form_two x.d
  rw [List.length_append]
  omega
theorem lineH_len (k m b o : Int) (hh : ∀ n ∈ [k, m, b, o], -9223372036854775808 ≤ n ∧ n ≤ 9223372036854775807) : (lineH [k, m, b, o]).length ≤ 100 := by
  have hnb := numsB_le [k, m, b, o] hh
  simp only [List.length_cons, List.length_nil] at hnb
  unfold lineH
  simp only [List.length_append, List.length_cons, List.length_nil]
  omega
/-- .. its lines are no longer than 20000. -/
theorem print_lines_len (k m b o : Int) (l : List Ch) (hh : ∀ n ∈ [k, m, b, o], -9223372036854775808 ≤ n ∧ n ≤ 9223372036854775807) (hx : ∀ x ∈ l, x.Ok 65536) (hs : ∀ x ∈ l, x.Short) (h0 : (printC [k, m, b, o] l).2 = 0) :
    ∀ v ∈ splitB 10 (printC [k, m, b, o] l).1, v.length ≤ 20000 := by
  obtain ⟨ht, he, _, _⟩ := print_all h0
  rw [he, body_lines _ l ht]
  intro v hv
  simp only [List.cons_append, List.mem_cons, List.mem_append, List.mem_map, List.not_mem_nil, or_false] at hv
  rcases hv with rfl | ⟨x, hxl, rfl⟩ | rfl
  · have := lineH_len k m b o hh; omega
  · obtain ⟨t, e⟩ := ht x hxl
    rw [e]
    have := text_len x (hx x hxl) (hs x hxl) t e
    simp only [Option.getD_some]
    omega
  · simp
end Go.Proofs.YtghllfihmmlcnaaDoor
