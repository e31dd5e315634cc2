/- append of a row of entries to one that the call owns, nil or empty or not. -/
import Derived.Test.YtgaejaadjmcckaaPCut
namespace Go.Proofs.Ytgaejaadjmcckaa
open Go.Shelf Go.RowKit Go.Lib Nam

/-- A callee that draws, met in a region that draws, behind an earlier draw. -/
theorem quiet_add {P : Program} {f : FuncId} {args : Array Value} {w : World} {a n : Nat} {v : Value} (h : ∀ W, Calls P f args W fun e w' => e = .returned v ∧ ∃ m, w' = W.drewN m) :
    Calls P f args (w.drewN (a + n)) fun e w'' => e = .returned v ∧ ∃ m, w'' = w.drewN (a + m) :=
  (h _).mono fun _ _ ⟨he, m, hm⟩ => ⟨he, n + m, by rw [hm, World.drewN_drewN, Nat.add_assoc]⟩
/-- .. behind none. -/
theorem quiet_any {P : Program} {f : FuncId} {args : Array Value} {w : World} {n : Nat} {v : Value} (h : ∀ W, Calls P f args W fun e w' => e = .returned v ∧ ∃ m, w' = W.drewN m) :
    Calls P f args (w.drewN n) fun e w'' => e = .returned v ∧ ∃ m, w'' = w.drewN m :=
  (h _).mono fun _ _ ⟨he, m, hm⟩ => ⟨he, n + m, by rw [hm, World.drewN_drewN]⟩

theorem encE_all (l : List Ent) : ∀ u ∈ l.flatMap encE, u.oneCell' = true := fun u hu => by
  obtain ⟨x, _, hx⟩ := List.mem_flatMap.1 hu
  exact encE_one x u hx

theorem append_rowE {w : World} {base : Nat} {v : Value} {xs : List Ent} (hown : w.ownsRow base 32 6 v xs.length (xs.flatMap encE)) {x : Value} {l : List Ent} (hx : RowE w x l)
    (hn : xs.length + l.length ≤ 1000000000) (hbase : base ≤ w.heap.size) (ty : TypeId) :
    ∃ v' w', (Builtin.append_ #[22, 22] ty #[v, x]).run Try.prog w = .ok v' w' ∧ w'.ownsRow base 32 6 v' (xs ++ l).length ((xs ++ l).flatMap encE) ∧ w.grownBy w' v.ownBlock ∧
      (v'.ownBlock = v.ownBlock ∨ v'.ownBlock = some w.heap.size) := by
  obtain ⟨i0, hi, hz0, hz1, hz2⟩ := info_parts infoE
  rcases hx with ⟨rfl, rfl⟩ | ⟨b, o, cap, rfl, hb, hc⟩
  · refine ⟨v, w, run_append_owned_none (P := Try.prog) (w := w) base _ ty _ i0 6 Try.underlying22 hi v _ _ hown, by simpa using hown, ⟨rfl, rfl, rfl, Nat.le_refl _, fun _ _ _ => rfl⟩, .inl rfl⟩
  · obtain ⟨v', w', h1, h2, h3, _, h5⟩ := run_append_own_at (P := Try.prog) (w := w) base _ ty _ i0 _ 6 56 Try.underlying22 hi hz0 hz1 hz2 rfl (by omega) v _ _ hown ⟨b, o, none⟩ l.length cap (l.flatMap encE) (flat_length l)
      (fun j u hj => by rw [Go.WideShapes.add_plain]; exact hc j u hj) (encE_all l) (by unfold maxLen; omega) (by omega) hbase
    refine ⟨v', w', h1, ?_, h3, h5⟩
    rw [List.length_append, List.flatMap_append]
    exact h2

theorem wp_append_rowE {w : World} {o : Oper} {a : Act} {K : Act → World → Prop} {Q : Exit → Act → World → Prop} (s u : Operand)
    (ho : o.op = .call { callee := .builtin .append, args := #[s, u], argTypes := #[22, 22] })
    {base : Nat} {v : Value} {xs : List Ent} (hs : a.eval s = v) (hown : w.ownsRow base 32 6 v xs.length (xs.flatMap encE)) {x : Value} {l : List Ent} (hu : a.eval u = x) (hx : RowE w x l)
    (hn : xs.length + l.length ≤ 1000000000) (hbase : base ≤ w.heap.size)
    (h : ∀ v' w', w'.ownsRow base 32 6 v' (xs ++ l).length ((xs ++ l).flatMap encE) → w.grownBy w' v.ownBlock → (v'.ownBlock = v.ownBlock ∨ v'.ownBlock = some w.heap.size) → K (a.put o.dst v') w') : o.wp Try.prog a w K Q := by
  obtain ⟨v', w', hr, h2, h3, h4⟩ := append_rowE hown hx hn hbase o.type
  unfold Oper.wp execOp
  simp only [ho, resolve, invoke, builtin, Sem.run_bind, Sem.run_pure, Result.andThen_ok, List.map_toArray, List.map_cons, List.map_nil, hs, hu, hr]
  exact h v' w' h2 h3 h4

theorem wpList_append_rowE {w : World} {ops : Array Oper} {rest : List Oper} {o : Oper} {a : Act} {Q : Exit → Act → World → Prop} (hgd : o.guard = none) (s u : Operand)
    (ho : o.op = .call { callee := .builtin .append, args := #[s, u], argTypes := #[22, 22] })
    {base : Nat} {v : Value} {xs : List Ent} (hs : a.eval s = v) (hown : w.ownsRow base 32 6 v xs.length (xs.flatMap encE)) {x : Value} {l : List Ent} (hu : a.eval u = x) (hx : RowE w x l)
    (hn : xs.length + l.length ≤ 1000000000) (hbase : base ≤ w.heap.size)
    (h : ∀ v' w', w'.ownsRow base 32 6 v' (xs ++ l).length ((xs ++ l).flatMap encE) → w.grownBy w' v.ownBlock → (v'.ownBlock = v.ownBlock ∨ v'.ownBlock = some w.heap.size) → wpList Try.prog ops Q rest (a.put o.dst v') w') : wpList Try.prog ops Q (o :: rest) a w :=
  wpList_plain hgd fun _ hK => wp_append_rowE s u ho hs hown hu hx hn hbase fun v' w' h2 h3 h4 => hK _ _ (h v' w' h2 h3 h4)

/-- .. at a step of a region that draws its order. -/
theorem step_append_rowE {w : World} {ops : Array Oper} {o : Oper} {a : Act} {K : Act → World → Prop} {Q : Exit → Act → World → Prop} {E : Prop} (hgd : o.guard = none) (s u : Operand)
    (ho : o.op = .call { callee := .builtin .append, args := #[s, u], argTypes := #[22, 22] })
    {base : Nat} {v : Value} {xs : List Ent} (hs : a.eval s = v) (hown : w.ownsRow base 32 6 v xs.length (xs.flatMap encE)) {x : Value} {l : List Ent} (hu : a.eval u = x) (hx : RowE w x l)
    (hn : xs.length + l.length ≤ 1000000000) (hbase : base ≤ w.heap.size)
    (h : ∀ v' w', w'.ownsRow base 32 6 v' (xs ++ l).length ((xs ++ l).flatMap encE) → w.grownBy w' v.ownBlock → (v'.ownBlock = v.ownBlock ∨ v'.ownBlock = some w.heap.size) → K (a.put o.dst v') w') :
    if Region.wanted o (yielded ops a.tmps) = true then Oper.wp Try.prog o a w K Q else E := by
  have hw : Region.wanted o (yielded ops a.tmps) = true := by simp [Region.wanted, hgd]
  rw [if_pos hw]
  exact wp_append_rowE s u ho hs hown hu hx hn hbase h

theorem own_ge {w : World} {base n : Nat} {e : TypeId} {size : Nat} {v : Value} {xs : List Value} (h : w.ownsRow base e size v n xs) : ∀ k, v.ownBlock = some k → base ≤ k := by
  intro k hk
  rcases h.2 with ⟨h1, _⟩ | ⟨g, cap, cur, h1, h2, _⟩
  · subst h1; cases hk
  · subst h1; cases hk; exact h2

/-- A part of a row, from k on. -/
theorem rowE_from {W : World} {p : Option Addr} {n c k : Nat} {l : List Ent} (h : RowE W (.slice p n c) l) (hk : k ≤ l.length) (hl : l.length ≤ c) : RowE W (.slice (if c = k then p else p.map (·.add (k * 6))) (n - k) (c - k)) (l.drop k) := by
  rcases h with ⟨h, rfl⟩ | ⟨b, o, cap, h, hb, hc⟩
  · cases h
    obtain rfl : k = 0 := by simpa using hk
    exact .inl ⟨rfl, rfl⟩
  · cases h
    by_cases e : c = k
    · subst e
      rw [if_pos rfl]
      refine .inr ⟨b, o, _, by rw [List.length_drop], hb, fun j u hj => ?_⟩
      rw [List.drop_eq_nil_of_le hl] at hj
      simp at hj
    · rw [if_neg e]
      refine .inr ⟨b, o + k * 6, c - k, by rw [List.length_drop]; simp [Go.WideShapes.add_plain], hb, fun j u hj => ?_⟩
      rw [Nat.add_assoc]
      refine hc _ u ?_
      conv => rhs; rw [← hj]
      conv => lhs; rw [← List.take_append_drop k l, List.flatMap_append]
      rw [List.getElem?_append_right (by rw [flat_length, List.length_take]; omega)]
      congr 1
      rw [flat_length, List.length_take]
      omega

/-- .. its first k. -/
theorem rowE_to {W : World} {p : Option Addr} {n c k c' : Nat} {l : List Ent} (h : RowE W (.slice p n c) l) (hk : k ≤ l.length) (hc' : p = none → c' = 0) : RowE W (.slice p k c') (l.take k) := by
  rcases h with ⟨h, rfl⟩ | ⟨b, o, cap, h, hb, hc⟩
  · cases h
    obtain rfl : k = 0 := by simpa using hk
    obtain rfl := hc' rfl
    exact .inl ⟨rfl, rfl⟩
  · cases h
    refine .inr ⟨b, o, c', by rw [List.length_take, Nat.min_eq_left hk], hb, fun j u hj => ?_⟩
    refine hc _ u ?_
    have hlt := (List.getElem?_eq_some_iff.1 hj).1
    conv => lhs; rw [← List.take_append_drop k l, List.flatMap_append]
    rw [List.getElem?_append_left hlt]
    exact hj
end Go.Proofs.Ytgaejaadjmcckaa
