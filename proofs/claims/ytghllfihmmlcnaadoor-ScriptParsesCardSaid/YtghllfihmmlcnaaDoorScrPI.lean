/- Lives as texts, plainly: what was read is printed as it stood. -/
import Derived.Test.YtghllfihmmlcnaaDoorScrMF
namespace Go.Proofs.YtghllfihmmlcnaaDoor
open Go.RowKit Nam YtghllfihmmlcnaaDoorW.PrintWords

theorem digI_back (c : UInt8) (h : ¬ digI c < 0) : hexd (digI c).toNat = c ∧ (digI c).toNat < 16 := by
  have key : ∀ n : Fin 256, ¬ digI (UInt8.ofNat n.val) < 0 → hexd (digI (UInt8.ofNat n.val)).toNat = UInt8.ofNat n.val ∧ (digI (UInt8.ofNat n.val)).toNat < 16 := by decide +kernel
  have hc : UInt8.ofNat c.toNat = c := by simp
  have := key ⟨c.toNat, c.toNat_lt⟩
  simp only [hc] at this
  exact this h
theorem path_unp : ∀ (w t : List UInt8), unp w = some t → pathB t = w
  | [], t, h => by simp only [unp, Option.some.injEq] at h; subst h; rfl
  | [_], t, h => by simp [unp] at h
  | a :: b :: r, t, h => by
    rw [unp] at h
    split at h
    · cases h
    rename_i hd
    cases hr : unp r with
    | none => rw [hr] at h; cases h
    | some t' =>
      rw [hr] at h
      simp only [Option.map_some, Option.some.injEq] at h
      subst h
      obtain ⟨a1, a2⟩ := digI_back a (fun h => hd (.inl h))
      obtain ⟨b1, b2⟩ := digI_back b (fun h => hd (.inr h))
      have hx : (UInt8.ofNat (16 * (digI a).toNat + (digI b).toNat)).toNat = 16 * (digI a).toNat + (digI b).toNat := by simp; omega
      rw [path_cons, hx, path_unp r t' hr, show (16 * (digI a).toNat + (digI b).toNat) / 16 = (digI a).toNat by omega, show (16 * (digI a).toNat + (digI b).toNat) % 16 = (digI b).toNat by omega, a1, b1]
theorem textB_readB (w : List UInt8) (h : (readB w).2 = true) : textB (readB w).1 = w := by
  unfold readB at h ⊢
  by_cases hw : w = [46]
  · rw [if_pos hw, hw]; rfl
  · rw [if_neg hw] at h ⊢
    cases hu : unp w with
    | none => rw [hu] at h; cases h
    | some t =>
      rw [hu] at h
      simp only [bne_iff_ne, ne_eq] at h
      simp only []
      unfold textB
      rw [if_neg h]
      exact path_unp w t hu

theorem putC_other (a y z : Ch) (f g : Nat) (hf : f ≤ 8) (hg : g ≤ 8) (h : f ≠ g) : putC (putC a y g) z f = putC y z f :=
  match f, hf with
  | 0, _ => match g, hg with
    | 0, _ => absurd rfl h
    | 1, _ => rfl
    | 2, _ => rfl
    | 3, _ => rfl
    | 4, _ => rfl
    | 5, _ => rfl
    | 6, _ => rfl
    | 7, _ => rfl
    | 8, _ => rfl
  | 1, _ => match g, hg with
    | 0, _ => rfl
    | 1, _ => absurd rfl h
    | 2, _ => rfl
    | 3, _ => rfl
    | 4, _ => rfl
    | 5, _ => rfl
    | 6, _ => rfl
    | 7, _ => rfl
    | 8, _ => rfl
  | 2, _ => match g, hg with
    | 0, _ => rfl
    | 1, _ => rfl
    | 2, _ => absurd rfl h
    | 3, _ => rfl
    | 4, _ => rfl
    | 5, _ => rfl
    | 6, _ => rfl
    | 7, _ => rfl
    | 8, _ => rfl
  | 3, _ => match g, hg with
    | 0, _ => rfl
    | 1, _ => rfl
    | 2, _ => rfl
    | 3, _ => absurd rfl h
    | 4, _ => rfl
    | 5, _ => rfl
    | 6, _ => rfl
    | 7, _ => rfl
    | 8, _ => rfl
  | 4, _ => match g, hg with
    | 0, _ => rfl
    | 1, _ => rfl
    | 2, _ => rfl
    | 3, _ => rfl
    | 4, _ => absurd rfl h
    | 5, _ => rfl
    | 6, _ => rfl
    | 7, _ => rfl
    | 8, _ => rfl
  | 5, _ => match g, hg with
    | 0, _ => rfl
    | 1, _ => rfl
    | 2, _ => rfl
    | 3, _ => rfl
    | 4, _ => rfl
    | 5, _ => absurd rfl h
    | 6, _ => rfl
    | 7, _ => rfl
    | 8, _ => rfl
  | 6, _ => match g, hg with
    | 0, _ => rfl
    | 1, _ => rfl
    | 2, _ => rfl
    | 3, _ => rfl
    | 4, _ => rfl
    | 5, _ => rfl
    | 6, _ => absurd rfl h
    | 7, _ => rfl
    | 8, _ => rfl
  | 7, _ => match g, hg with
    | 0, _ => rfl
    | 1, _ => rfl
    | 2, _ => rfl
    | 3, _ => rfl
    | 4, _ => rfl
    | 5, _ => rfl
    | 6, _ => rfl
    | 7, _ => absurd rfl h
    | 8, _ => rfl
  | 8, _ => match g, hg with
    | 0, _ => rfl
    | 1, _ => rfl
    | 2, _ => rfl
    | 3, _ => rfl
    | 4, _ => rfl
    | 5, _ => rfl
    | 6, _ => rfl
    | 7, _ => rfl
    | 8, _ => absurd rfl h
theorem putC_word (x z : Ch) (f : Nat) (hf : f ≤ 8) : wordC (putC x z f) f = wordC x f :=
  match f, hf with
  | 0, _ => rfl
  | 1, _ => rfl
  | 2, _ => rfl
  | 3, _ => rfl
  | 4, _ => rfl
  | 5, _ => rfl
  | 6, _ => rfl
  | 7, _ => rfl
  | 8, _ => rfl
theorem putC_d (x z : Ch) (f : Nat) (hf : f ≤ 8) : (putC x z f).d = z.d :=
  match f, hf with
  | 0, _ => rfl
  | 1, _ => rfl
  | 2, _ => rfl
  | 3, _ => rfl
  | 4, _ => rfl
  | 5, _ => rfl
  | 6, _ => rfl
  | 7, _ => rfl
  | 8, _ => rfl
theorem setC_back (y z : Ch) (w : List UInt8) (f : Nat) (hf : f ≤ 8) (h : setC y f w = some z) : wordC z f = w ∧ z = putC z y f := by
  match f, hf with
  | 0, _ =>
    unfold setC at h
    simp only [] at h
    split at h
    · rename_i hr
      injection h with h
      subst h
      exact ⟨textB_readB w hr, rfl⟩
    · cases h
  | 1, _ =>
    unfold setC at h
    simp only [] at h
    split at h
    · rename_i hr
      injection h with h
      subst h
      exact ⟨textB_readB w hr, rfl⟩
    · cases h
  | 2, _ =>
    unfold setC at h
    simp only [] at h
    split at h
    · rename_i hr
      injection h with h
      subst h
      exact ⟨textB_readB w hr, rfl⟩
    · cases h
  | 3, _ =>
    unfold setC at h
    simp only [Option.map_eq_some_iff] at h
    obtain ⟨v, hv, rfl⟩ := h
    exact ⟨(numOf_some hv).1, rfl⟩
  | 4, _ =>
    unfold setC at h
    simp only [Option.map_eq_some_iff] at h
    obtain ⟨v, hv, rfl⟩ := h
    exact ⟨(numOf_some hv).1, rfl⟩
  | 5, _ =>
    unfold setC at h
    simp only [] at h
    split at h
    · rename_i hr
      injection h with h
      subst h
      exact ⟨textB_readB w hr, rfl⟩
    · cases h
  | 6, _ =>
    unfold setC at h
    simp only [] at h
    split at h
    · rename_i hr
      injection h with h
      subst h
      exact ⟨textB_readB w hr, rfl⟩
    · cases h
  | 7, _ =>
    unfold setC at h
    simp only [Option.map_eq_some_iff] at h
    obtain ⟨v, hv, rfl⟩ := h
    exact ⟨(numOf_some hv).1, rfl⟩
  | 8, _ =>
    unfold setC at h
    simp only [Option.map_eq_some_iff] at h
    obtain ⟨v, hv, rfl⟩ := h
    exact ⟨(numOf_some hv).1, rfl⟩

theorem fill_back (x : Ch) : ∀ (fs : List Nat) (ws : List (List UInt8)) (y : Ch), (∀ f ∈ fs, f ≤ 8) → fs.Nodup → fs.length = ws.length → fillC y fs ws = some x →
    fs.map (wordC x) = ws ∧ fs.foldl (putC x) y = x ∧ (∀ f, f ≤ 8 → f ∉ fs → ∀ z, putC x z f = putC y z f) ∧ x.d = y.d
  | [], [], y, _, _, _, h => by
    simp only [fillC, Option.some.injEq] at h
    subst h
    exact ⟨rfl, rfl, fun _ _ _ _ => rfl, rfl⟩
  | [], _ :: _, _, _, _, hl, _ => by simp at hl
  | _ :: _, [], _, _, _, hl, _ => by simp at hl
  | f :: fs, w :: ws, y, hF, hn, hl, h => by
    rw [fillC] at h
    obtain ⟨y1, h1, h2⟩ := Option.bind_eq_some_iff.1 h
    have hf8 : f ≤ 8 := hF f (by simp)
    rw [List.nodup_cons] at hn
    obtain ⟨e1, e2, e3, e4⟩ := fill_back x fs ws y1 (fun g hg => hF g (by simp [hg])) hn.2 (by simpa using hl) h2
    obtain ⟨s1, s2⟩ := setC_back y y1 w f hf8 h1
    have hp : ∀ z, putC x z f = putC y1 z f := e3 f hf8 hn.1
    refine ⟨?_, ?_, ?_, ?_⟩
    · rw [List.map_cons, e1, ← putC_word x x f hf8, hp x, putC_word y1 x f hf8, s1]
    · rw [List.foldl_cons, hp y, ← s2, e2]
    · intro g hg hng z
      simp only [List.mem_cons, not_or] at hng
      rw [e3 g hg hng.2 z]
      conv => lhs; rw [s2]
      exact putC_other y1 y z g f hg hf8 hng.1
    · rw [e4, s2, putC_d _ _ f hf8]
theorem join_cons (c : UInt8) : ∀ (v : List UInt8) (ws : List (List UInt8)), joinB c (v :: ws) = v ++ ws.flatMap (fun w => c :: w)
  | v, [] => by simp [joinB]
  | v, w :: t => by
    rw [joinB, join_cons c w t, List.flatMap_cons, List.cons_append]
theorem form_nodup (d : Int) : (formC d).2.Nodup := form_cases d (fun p => p.2.Nodup) (by decide) (by decide)
theorem form_ne (d : Int) (h : 1 ≤ d ∧ d ≤ 19) : (formC d).1 ≠ [] := by
  obtain ⟨n, rfl⟩ : ∃ n : Nat, d = n := ⟨d.toNat, by omega⟩
  have key : ∀ n : Fin 20, 1 ≤ n.val → (formC (n.val : Int)).1 ≠ [] := by decide
  exact key ⟨n, by omega⟩ (by show 1 ≤ n; omega)
theorem fromC_some (L : List (List UInt8)) (x : Ch) : ∀ (k : Nat) (d0 : Int), fromC L k d0 = some x → ∃ d, d0 ≤ d ∧ d < d0 + k ∧ tryC L d = some (some x)
  | 0, _, h => by cases h
  | k + 1, d0, h => by
    rw [fromC] at h
    cases ht : tryC L d0 with
    | some r =>
      rw [ht] at h
      simp only [] at h
      exact ⟨d0, Int.le_refl _, by omega, by rw [ht, h]⟩
    | none =>
      rw [ht] at h
      simp only [] at h
      obtain ⟨d, h1, h2, h3⟩ := fromC_some L x k (d0 + 1) h
      exact ⟨d, by omega, by omega, h3⟩
/-- A choice that was read has the text that it was read from. -/
theorem choice_back (t : List UInt8) (x : Ch) (h : choiceC t = some x) : textC x = some t := by
  unfold choiceC at h
  obtain ⟨d, h1, h2, h3⟩ := fromC_some _ x 19 1 h
  unfold tryC at h3
  split at h3
  rotate_left
  · cases h3
  rename_i hc
  obtain ⟨c1, c2⟩ := hc
  simp only [Option.some.injEq] at h3
  cases hs : splitB 32 t with
  | nil => exact absurd hs (splitB_ne 32 t)
  | cons v ws =>
    rw [hs] at c1 c2 h3
    simp only [List.headD_cons, List.length_cons, List.tail_cons, Nat.add_right_cancel_iff] at c1 c2 h3
    obtain ⟨e1, e2, _, e4⟩ := fill_back x _ ws (bareC d) (form_le d) (form_nodup d) c2.symm h3
    have hd : x.d = d := e4
    have ht := joinB_split 32 t
    rw [hs, join_cons] at ht
    unfold textC
    rw [hd, if_neg (form_ne d ⟨h1, by omega⟩)]
    have ho : onlyC x (formC d).2 = x := by unfold onlyC; rw [hd]; exact e2
    rw [if_pos ho, lineC_words, e1, c1, ht]
theorem mapN_back : ∀ (ws : List (List UInt8)) (ns : List Int), mapN ws = some ns → ns.map Lib.itoa = ws
  | [], ns, h => by simp only [mapN, Option.some.injEq] at h; subst h; rfl
  | a :: r, ns, h => by
    rw [mapN] at h
    obtain ⟨n, h1, h2⟩ := Option.bind_eq_some_iff.1 h
    simp only [Option.map_eq_some_iff] at h2
    obtain ⟨m, h3, rfl⟩ := h2
    rw [List.map_cons, (numOf_some h1).1, mapN_back r m h3]
theorem shape_back (t : List UInt8) (ns : List Int) (h : shapeC t = some ns) : lineH ns = t := by
  unfold shapeC at h
  split at h
  rotate_left
  · cases h
  rename_i hc
  cases hs : splitB 32 t with
  | nil => exact absurd hs (splitB_ne 32 t)
  | cons v ws =>
    rw [hs] at hc h
    simp only [List.headD_cons, List.tail_cons] at hc h
    have ht := joinB_split 32 t
    rw [hs, join_cons] at ht
    unfold lineH
    rw [numsB_words, mapN_back ws ns h, ← hc.2, ht]
theorem readL_back (h h' : List Int) (l : List Ch) : ∀ (L : List (List UInt8)) (i : Nat) (acc : List Ch), i ≠ 0 → readL i h acc L = .inr (h', l) → h' = h ∧ ∃ m, l = acc ++ m ∧ L = m.map (fun x => (textC x).getD []) ∧ ∀ x ∈ m, ∃ t, textC x = some t
  | [], i, acc, _, hr => by
    simp only [readL, Sum.inr.injEq, Prod.mk.injEq] at hr
    exact ⟨hr.1.symm, [], by rw [List.append_nil]; exact hr.2.symm, rfl, fun x hx => by cases hx⟩
  | a :: r, i, acc, hi, hr => by
    rw [readL, if_neg hi] at hr
    cases hc : choiceC a with
    | none => rw [hc] at hr; cases hr
    | some c =>
      rw [hc] at hr
      simp only [] at hr
      obtain ⟨e1, m, e2, e3, e4⟩ := readL_back h h' l r (i + 1) (acc ++ [c]) (by omega) hr
      have ht := choice_back a c hc
      refine ⟨e1, c :: m, by rw [e2]; simp, by rw [List.map_cons, ht, ← e3]; rfl, fun x hx => ?_⟩
      rcases List.mem_cons.1 hx with rfl | hx
      · exact ⟨a, ht⟩
      · exact e4 x hx
theorem join_lines : ∀ ls : List (List UInt8), joinB 10 (ls ++ [[]]) = ls.flatMap (fun l => l ++ [10])
  | [] => rfl
  | [a] => by simp [joinB]
  | a :: b :: r => by
    have := join_lines (b :: r)
    rw [List.cons_append, List.cons_append, joinB, ← List.cons_append, this, List.flatMap_cons (x := a)]
    simp
/-- What was read is printed as it stood. -/
theorem parse_back (s : List UInt8) (h0 : (parseC s).e = 0) : printC (parseC s).h (parseC s).l = (s, 0) := by
  unfold parseC at h0 ⊢
  by_cases hlen : 65536 < s.length ∨ 2000 < (splitB 10 s).length - 1 + (if (splitB 10 s).getLastD [] = [] then 0 else 1)
  · rw [if_pos hlen] at h0
    exact absurd (show (3 : Int) = 0 from h0) (by decide)
  rw [if_neg hlen] at h0 ⊢
  cases hL : (splitB 10 s).dropLast with
  | nil =>
    rw [hL] at h0

    unfold parseL at h0
    simp [readL, PR.no] at h0
  | cons a r =>
    rw [hL] at h0

    unfold parseL at h0 ⊢
    cases hr : readL 0 [0, 0, 0, 0] [] (a :: r) with
    | inl i => rw [hr] at h0; exact absurd h0 (by simp [PR.no])
    | inr q =>
      obtain ⟨h, l⟩ := q
      rw [hr] at h0
      simp only [] at h0
      split at h0
      · exact absurd h0 (by simp [PR.no])
      rename_i hz
      simp only []
      rw [if_neg hz]
      simp only []
      have hlast : (splitB 10 s).getLastD [] = [] := Classical.byContradiction fun e => hz (.inr e)
      rw [readL, if_pos rfl] at hr
      cases hs : shapeC a with
      | none => rw [hs] at hr; cases hr
      | some h1 =>
        rw [hs] at hr
        simp only [] at hr
        obtain ⟨rfl, m, rfl, e3, e4⟩ := readL_back h1 _ _ r (0 + 1) [] (by omega) hr
        have hsp : splitB 10 s = (lineH h :: l.map (fun x => (textC x).getD [])) ++ [[]] := by
          have hne := splitB_ne 10 s
          rw [← List.dropLast_concat_getLast hne, hL, e3, shape_back a _ hs]
          have : (splitB 10 s).getLast hne = [] := by
            rw [List.getLastD_eq_getLast?, List.getLast?_eq_some_getLast hne] at hlast
            exact hlast
          rw [this]
        have hj := joinB_split 10 s
        rw [hsp, join_lines, List.flatMap_cons, ← bodyC_lines, ← headC_line] at hj
        have hcount : l.length < 2000 := by
          have e := congrArg List.length hsp
          simp only [List.length_append, List.length_cons, List.length_map, List.length_nil] at e
          rw [hlast, if_pos rfl, e] at hlen
          omega
        have hsl : ¬ (65536 < s.length) := fun e => hlen (.inl e)
        unfold printC
        rw [if_neg (by
          intro hany
          obtain ⟨x, hx, hnone⟩ := List.any_eq_true.1 hany
          obtain ⟨t, ht⟩ := e4 x hx
          rw [ht] at hnone
          cases hnone), hj, if_neg (by omega)]
end Go.Proofs.YtghllfihmmlcnaaDoor
