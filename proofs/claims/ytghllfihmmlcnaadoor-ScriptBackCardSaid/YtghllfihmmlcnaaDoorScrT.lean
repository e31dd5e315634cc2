/- A choice's line, plainly. -/
import Derived.Test.YtghllfihmmlcnaaDoorScrH
import Derived.Test.YtghllfihmmlcnaaDoorPScriptPrintsx4
namespace Go.Proofs.YtghllfihmmlcnaaDoor
open Go.RowKit Nam YtghllfihmmlcnaaDoorW.PrintWords PScriptPrints

/-- A line's word, and its fields: 0 bucket, 1 key, 2 data, 3 N, 4 At, 5 prefix, 6 from, 7 FromID, 8 Most. -/
def formC (d : Int) : List UInt8 × List Nat :=
  if d = 1 then ([109, 97, 107, 101], [0]) else if d = 2 then ([114, 101, 109, 111, 118, 101], [0]) else if d = 3 then ([98, 117, 99, 107, 101, 116, 115], [])
  else if d = 4 then ([112, 117, 116], [0, 1, 2]) else if d = 5 then ([103, 101, 116], [0, 1, 3]) else if d = 6 then ([104, 101, 97, 100], [0, 1, 3])
  else if d = 7 then ([100, 101, 108, 101, 116, 101], [0, 1]) else if d = 8 then ([101, 114, 97, 115, 101], [0, 1, 3]) else if d = 9 then ([111, 98, 106, 101, 99, 116, 115], [0, 5, 6, 8])
  else if d = 10 then ([118, 101, 114, 115, 105, 111, 110, 115], [0, 5, 6, 7, 8]) else if d = 11 then ([104, 101, 97, 108], []) else if d = 12 then ([111, 102, 102, 108, 105, 110, 101], [3])
  else if d = 13 then ([111, 110, 108, 105, 110, 101], [3]) else if d = 14 then ([119, 105, 112, 101], [3]) else if d = 15 then ([102, 108, 105, 112], [3, 4, 2])
  else if d = 16 then ([102, 97, 105, 108], [3, 4]) else if d = 17 then ([102, 117, 115, 101], [3]) else if d = 18 then ([99, 114, 97, 115, 104], [4])
  else if d = 19 then ([115, 116, 97, 114, 116], []) else ([], [])
theorem form_f (d : Int) : script_form.f d = some (mkS (formC d).1, (formC d).2.map fun f : Nat => (f : Int)) := by
  by_cases h1 : 1 ≤ d ∧ d ≤ 19
  · obtain ⟨n, hn⟩ : ∃ n : Nat, d = n := ⟨d.toNat, by omega⟩
    subst hn
    have key : ∀ n : Fin 20, script_form.f (n.val : Int) = some (mkS (formC (n.val : Int)).1, (formC (n.val : Int)).2.map fun f : Nat => (f : Int)) := by decide
    exact key ⟨n, by omega⟩
  · unfold script_form.f formC
    iterate 19 rw [if_neg (by omega)]
    iterate 19 rw [if_neg (by omega)]
    rfl
theorem form_is (d : Int) (w : World) : Calls Tryd.prog 27 #[.int .i64 d] w fun e w' => ∃ v : Value, e = .returned (.tuple #[.string (mkS (formC d).1), v]) ∧ Kd.R (Kd.int .i64) 3 w' w.heap.size (fun _ => True) v ((formC d).2.map fun f : Nat => (f : Int)) ∧ Below w.heap.size w w' :=
  script_form.calls d _ _ w (form_f d)
theorem form_cases (d : Int) (P : List UInt8 × List Nat → Prop) (h : ∀ n : Fin 20, P (formC (n.val : Int))) (h0 : P ([], [])) : P (formC d) := by
  by_cases h1 : 1 ≤ d ∧ d ≤ 19
  · obtain ⟨n, hn⟩ : ∃ n : Nat, d = n := ⟨d.toNat, by omega⟩
    subst hn
    exact h ⟨n, by omega⟩
  · have e : formC d = ([], []) := by
      unfold formC
      iterate 19 rw [if_neg (by omega)]
    rw [e]; exact h0
theorem form_le (d : Int) : ∀ f ∈ (formC d).2, f ≤ 8 := form_cases d (fun p => ∀ f ∈ p.2, f ≤ 8) (by decide) (by simp)
theorem form_len (d : Int) : (formC d).2.length ≤ 5 ∧ (formC d).1.length ≤ 8 := form_cases d (fun p => p.2.length ≤ 5 ∧ p.1.length ≤ 8) (by decide) (by decide)

/-- A field as the other has it. -/
def putC (x y : Ch) (f : Nat) : Ch :=
  match f with
  | 0 => { y with bk := x.bk }
  | 1 => { y with ky := x.ky }
  | 2 => { y with dt := x.dt }
  | 3 => { y with n := x.n }
  | 4 => { y with a := x.a }
  | 5 => { y with pf := x.pf }
  | 6 => { y with fr := x.fr }
  | 7 => { y with fi := x.fi }
  | _ => { y with mo := x.mo }
def bareC (d : Int) : Ch := ⟨d, [], [], [], 0, 0, [], [], 0, 0⟩
def onlyC (x : Ch) (fs : List Nat) : Ch := fs.foldl (putC x) (bareC x.d)
def lineC (x : Ch) (fs : List Nat) : List UInt8 := fs.flatMap fun f => 32 :: wordC x f
/-- A choice's line; none: it has none. -/
def textC (x : Ch) : Option (List UInt8) :=
  if (formC x.d).1 = [] then none else if onlyC x (formC x.d).2 = x then some ((formC x.d).1 ++ lineC x (formC x.d).2) else none

theorem readB_textB (l : List UInt8) : readB (textB l) = (l, true) := by
  unfold textB readB
  by_cases h : l = []
  · subst h; rfl
  · rw [if_neg h]
    have h1 : pathB l ≠ [46] := fun e => by
      have := congrArg List.length e
      rw [pathB_length] at this
      simp at this
      omega
    rw [if_neg h1, unp_path]
    simp [h]
theorem setC_word (x y : Ch) (hx : x.Ok 65536) (f : Nat) : setC y f (wordC x f) = some (putC x y f) := by
  unfold setC wordC putC
  split <;> simp only [readB_textB, if_true, numOf_itoa _ hx.n.1 hx.n.2, numOf_itoa _ hx.a.1 hx.a.2, numOf_itoa _ hx.fi.1 hx.fi.2, numOf_itoa _ hx.mo.1 hx.mo.2, Option.map_some]

theorem textB_le (l : List UInt8) : (textB l).length ≤ 2 * l.length + 1 := by
  unfold textB
  split
  · simp
  · rw [pathB_length]; omega
theorem wordC_le (x : Ch) (m : Nat) (hx : x.Ok m) (f : Nat) : (wordC x f).length ≤ 2 * m + 21 := by
  have hb := hx.bk
  have hk := hx.ky
  have hd := hx.dt
  have hp := hx.pf
  have hr := hx.fr
  have ht := textB_le x.bk
  have ht2 := textB_le x.ky
  have ht3 := textB_le x.dt
  have ht4 := textB_le x.pf
  have ht5 := textB_le x.fr
  unfold wordC
  split
  · omega
  · omega
  · omega
  · have := Lib.itoa_length_le x.n hx.n.1 hx.n.2; omega
  · have := Lib.itoa_length_le x.a hx.a.1 hx.a.2; omega
  · omega
  · omega
  · have := Lib.itoa_length_le x.fi hx.fi.1 hx.fi.2; omega
  · have := Lib.itoa_length_le x.mo hx.mo.1 hx.mo.2; omega
theorem onlyC_snoc (x : Ch) (fs : List Nat) (f : Nat) : onlyC x (fs ++ [f]) = putC x (onlyC x fs) f := by unfold onlyC; rw [List.foldl_append]; rfl
theorem lineC_snoc (x : Ch) (fs : List Nat) (f : Nat) : lineC x (fs ++ [f]) = lineC x fs ++ 32 :: wordC x f := by unfold lineC; rw [List.flatMap_append]; simp
theorem onlyC_d (x : Ch) (fs : List Nat) : (onlyC x fs).d = x.d := by
  unfold onlyC
  have key : ∀ (fs : List Nat) (y : Ch), y.d = x.d → (fs.foldl (putC x) y).d = x.d := by
    intro fs
    induction fs with
    | nil => intro y h; exact h
    | cons f t ih =>
      intro y h
      refine ih _ ?_
      unfold putC
      split <;> exact h
  exact key fs _ rfl
theorem lineC_le (x : Ch) (m : Nat) (hx : x.Ok m) (fs : List Nat) : (lineC x fs).length ≤ fs.length * (2 * m + 22) := by
  induction fs with
  | nil => exact Nat.zero_le _
  | cons f t ih =>
    have := wordC_le x m hx f
    unfold lineC at ih ⊢
    rw [List.flatMap_cons, List.length_append, List.length_cons, List.length_cons, Nat.add_mul]
    omega
end Go.Proofs.YtghllfihmmlcnaaDoor
