/- The document's Text, plainly: it is the program's. -/
import Derived.Test.YtghllfihmmlcnaaDoorScrME
import Derived.Test.YtghllfihmmlcnaaDoorScrD
import Derived.Test.YtghllfihmmlcnaaDoorScrU6
namespace Go.Proofs.YtghllfihmmlcnaaDoor
open Go.RowKit Nam YtghllfihmmlcnaaDoorW.PrintWords PScriptPrints

theorem bt_mkS (l : List UInt8) (j : Nat) (h : j < l.length) : bt (mkS l) (j : Int) = ((l[j]).toNat : Int) := by
  unfold bt
  rw [dif_pos (by rw [Int.toNat_natCast, mkS_size]; exact h)]
  rfl
theorem hex_at (d : Nat) (h : d < 16) : (⟨#[48, 49, 50, 51, 52, 53, 54, 55, 56, 57, 97, 98, 99, 100, 101, 102]⟩ : ByteArray).extract d (d + 1) = mkS [hexd d] := by
  have key : ∀ d : Fin 16, (⟨#[48, 49, 50, 51, 52, 53, 54, 55, 56, 57, 97, 98, 99, 100, 101, 102]⟩ : ByteArray).extract d.val (d.val + 1) = mkS [hexd d.val] := by decide
  exact key ⟨d, h⟩
theorem and15 (d : Nat) (h : d < 256) : Go.bits .and .u8 (d : Int) 15 = ((d % 16 : Nat) : Int) := by
  have key : ∀ d : Fin 256, Go.bits .and .u8 (d.val : Int) 15 = ((d.val % 16 : Nat) : Int) := by decide +kernel
  exact key ⟨d, h⟩
theorem path_l0 (s : List UInt8) (hs : s.length ≤ 100000) : ∀ (k j : Nat) (acc : List UInt8), j ≤ s.length → s.length - j < k → acc.length + 2 * (s.length - j) ≤ 1000000 → strongboxref4_Path.l0 k (mkS s) (mkS acc) (j : Int) = some (mkS (acc ++ pathB (s.drop j)))
  | 0, j, acc, _, h, _ => by omega
  | k + 1, j, acc, hj, h, hl => by
    rw [strongboxref4_Path.l0, mkS_size]
    by_cases hlt : j < s.length
    · rw [if_pos (by omega), if_pos (by omega), bt_mkS s j hlt]
      obtain ⟨x, hx⟩ : ∃ x, s[j] = x := ⟨_, rfl⟩
      rw [hx]
      have hx8 := x.toNat_lt
      rw [and15 _ hx8]
      have e1 : ((x.toNat : Int) / 16) = ((x.toNat / 16 : Nat) : Int) := by omega
      have e2 : (((x.toNat / 16 : Nat) : Int) + 1) % 256 = ((x.toNat / 16 + 1 : Nat) : Int) := by omega
      have e3 : (((x.toNat % 16 : Nat) : Int) + 1) % 256 = ((x.toNat % 16 + 1 : Nat) : Int) := by omega
      have hw : wrap64 ((j : Int) + 1) = ((j + 1 : Nat) : Int) := by unfold wrap64; omega
      rw [e1, e2, e3, hw]
      simp only [Int.toNat_natCast]
      rw [hex_at _ (by omega), hex_at _ (by omega), mkS_app, mkS_app]
      simp only [mkS_size]
      rw [if_pos (by omega), if_pos (by omega), if_pos (by omega), if_pos (by simp; omega), if_pos (by omega), if_pos (by omega), if_pos (by omega), if_pos (by simp; omega)]
      rw [path_l0 s hs k (j + 1) _ (by omega) (by omega) (by simp; omega), List.drop_eq_getElem_cons hlt, hx, path_cons]
      simp
    · rw [if_neg (by omega), List.drop_eq_nil_of_le (by omega)]
      simp [pathB]
theorem bytes_f (s : List UInt8) (hs : s.length ≤ 65536) (k : Nat) (hk : 65600 < k) : strongboxref23_bytes.f k (mkS s) = some (mkS (textB s)) := by
  unfold strongboxref23_bytes.f textB
  rw [mkS_toList]
  by_cases h : s = []
  · rw [if_pos h, if_pos h]; rfl
  · rw [if_neg h, if_neg h]
    unfold strongboxref4_Path.f
    have := path_l0 s (by omega) k 0 [] (Nat.zero_le _) (by omega) (by simp; omega)
    rw [List.drop_zero, List.nil_append] at this
    have e : strongboxref4_Path.l0 k (mkS s) ⟨#[]⟩ 0 = some (mkS (pathB s)) := this
    rw [e]
    rfl

def letC : Nat → UInt8
  | 0 => 98
  | 1 => 107
  | 2 => 100
  | 3 => 110
  | 4 => 97
  | 5 => 112
  | 6 => 102
  | 7 => 105
  | _ => 109
theorem verb_f (d : Int) : strongboxref23_Verb.f d = some (mkS (formC d).1, mkS ((formC d).2.map letC)) := by
  by_cases h1 : 1 ≤ d ∧ d ≤ 19
  · obtain ⟨n, hn⟩ : ∃ n : Nat, d = n := ⟨d.toNat, by omega⟩
    subst hn
    have key : ∀ n : Fin 20, strongboxref23_Verb.f (n.val : Int) = some (mkS (formC (n.val : Int)).1, mkS ((formC (n.val : Int)).2.map letC)) := by decide
    exact key ⟨n, by omega⟩
  · unfold strongboxref23_Verb.f formC
    iterate 19 rw [if_neg (by omega)]
    iterate 19 rw [if_neg (by omega)]
    rfl

theorem t_step0 (k : Nat) (line lets t : ByteArray) (j : Int) (p0 : Int) (p1 : ByteArray) (p2 : ByteArray) (p3 : List Int) (p4 : Int) (p5 : Int) (p6 : ByteArray) (p7 : ByteArray) (p8 : Int) (p9 : Int) (q0 : Int) (q1 : ByteArray) (q2 : ByteArray) (q3 : List Int) (q4 : Int) (q5 : Int) (q6 : ByteArray) (q7 : ByteArray) (q8 : Int) (q9 : Int) (c1 : j < (lets.size : Int)) (c2 : line.size + 1 ≤ 9223372036854775807) (c3 : 0 ≤ j) (hb : bt lets j = 98) (ht : strongboxref23_bytes.f k p1 = some t) (c4 : (line ++ (⟨#[32]⟩ : ByteArray)).size + t.size ≤ 9223372036854775807) :
    strongboxref23_Text.l0 (k + 1) line lets j p0 p1 p2 p3 p4 p5 p6 p7 p8 p9 q0 q1 q2 q3 q4 q5 q6 q7 q8 q9 = strongboxref23_Text.l0 k ((line ++ (⟨#[32]⟩ : ByteArray)) ++ t) lets (wrap64 (j + 1)) p0 p1 p2 p3 p4 p5 p6 p7 p8 p9 q0 p1 q2 q3 q4 q5 q6 q7 q8 q9 := by
  rw [strongboxref23_Text.l0, if_pos c1, if_pos c2, if_pos c3, hb]
  rw [if_pos rfl]
  rw [ht, Option.bind_some, if_pos c4]
theorem t_step1 (k : Nat) (line lets t : ByteArray) (j : Int) (p0 : Int) (p1 : ByteArray) (p2 : ByteArray) (p3 : List Int) (p4 : Int) (p5 : Int) (p6 : ByteArray) (p7 : ByteArray) (p8 : Int) (p9 : Int) (q0 : Int) (q1 : ByteArray) (q2 : ByteArray) (q3 : List Int) (q4 : Int) (q5 : Int) (q6 : ByteArray) (q7 : ByteArray) (q8 : Int) (q9 : Int) (c1 : j < (lets.size : Int)) (c2 : line.size + 1 ≤ 9223372036854775807) (c3 : 0 ≤ j) (hb : bt lets j = 107) (ht : strongboxref23_bytes.f k p2 = some t) (c4 : (line ++ (⟨#[32]⟩ : ByteArray)).size + t.size ≤ 9223372036854775807) :
    strongboxref23_Text.l0 (k + 1) line lets j p0 p1 p2 p3 p4 p5 p6 p7 p8 p9 q0 q1 q2 q3 q4 q5 q6 q7 q8 q9 = strongboxref23_Text.l0 k ((line ++ (⟨#[32]⟩ : ByteArray)) ++ t) lets (wrap64 (j + 1)) p0 p1 p2 p3 p4 p5 p6 p7 p8 p9 q0 q1 p2 q3 q4 q5 q6 q7 q8 q9 := by
  rw [strongboxref23_Text.l0, if_pos c1, if_pos c2, if_pos c3, hb]
  rw [if_neg (by decide)]
  rw [if_pos rfl]
  rw [ht, Option.bind_some, if_pos c4]
theorem t_step2 (k : Nat) (line lets t : ByteArray) (j : Int) (p0 : Int) (p1 : ByteArray) (p2 : ByteArray) (p3 : List Int) (p4 : Int) (p5 : Int) (p6 : ByteArray) (p7 : ByteArray) (p8 : Int) (p9 : Int) (q0 : Int) (q1 : ByteArray) (q2 : ByteArray) (q3 : List Int) (q4 : Int) (q5 : Int) (q6 : ByteArray) (q7 : ByteArray) (q8 : Int) (q9 : Int) (c1 : j < (lets.size : Int)) (c2 : line.size + 1 ≤ 9223372036854775807) (c3 : 0 ≤ j) (hb : bt lets j = 100) (ht : strongboxref23_bytes.f k (strOfNums p3) = some t) (c4 : (line ++ (⟨#[32]⟩ : ByteArray)).size + t.size ≤ 9223372036854775807) :
    strongboxref23_Text.l0 (k + 1) line lets j p0 p1 p2 p3 p4 p5 p6 p7 p8 p9 q0 q1 q2 q3 q4 q5 q6 q7 q8 q9 = strongboxref23_Text.l0 k ((line ++ (⟨#[32]⟩ : ByteArray)) ++ t) lets (wrap64 (j + 1)) p0 p1 p2 p3 p4 p5 p6 p7 p8 p9 q0 q1 q2 p3 q4 q5 q6 q7 q8 q9 := by
  rw [strongboxref23_Text.l0, if_pos c1, if_pos c2, if_pos c3, hb]
  rw [if_neg (by decide)]
  rw [if_neg (by decide)]
  rw [if_pos rfl]
  rw [ht, Option.bind_some, if_pos c4]
theorem t_step3 (k : Nat) (line lets t : ByteArray) (j : Int) (p0 : Int) (p1 : ByteArray) (p2 : ByteArray) (p3 : List Int) (p4 : Int) (p5 : Int) (p6 : ByteArray) (p7 : ByteArray) (p8 : Int) (p9 : Int) (q0 : Int) (q1 : ByteArray) (q2 : ByteArray) (q3 : List Int) (q4 : Int) (q5 : Int) (q6 : ByteArray) (q7 : ByteArray) (q8 : Int) (q9 : Int) (c1 : j < (lets.size : Int)) (c2 : line.size + 1 ≤ 9223372036854775807) (c3 : 0 ≤ j) (hb : bt lets j = 110) (ht : strongboxref23_number.f k p4 = some t) (c4 : (line ++ (⟨#[32]⟩ : ByteArray)).size + t.size ≤ 9223372036854775807) :
    strongboxref23_Text.l0 (k + 1) line lets j p0 p1 p2 p3 p4 p5 p6 p7 p8 p9 q0 q1 q2 q3 q4 q5 q6 q7 q8 q9 = strongboxref23_Text.l0 k ((line ++ (⟨#[32]⟩ : ByteArray)) ++ t) lets (wrap64 (j + 1)) p0 p1 p2 p3 p4 p5 p6 p7 p8 p9 q0 q1 q2 q3 p4 q5 q6 q7 q8 q9 := by
  rw [strongboxref23_Text.l0, if_pos c1, if_pos c2, if_pos c3, hb]
  rw [if_neg (by decide)]
  rw [if_neg (by decide)]
  rw [if_neg (by decide)]
  rw [if_pos rfl]
  rw [ht, Option.bind_some, if_pos c4]
theorem t_step4 (k : Nat) (line lets t : ByteArray) (j : Int) (p0 : Int) (p1 : ByteArray) (p2 : ByteArray) (p3 : List Int) (p4 : Int) (p5 : Int) (p6 : ByteArray) (p7 : ByteArray) (p8 : Int) (p9 : Int) (q0 : Int) (q1 : ByteArray) (q2 : ByteArray) (q3 : List Int) (q4 : Int) (q5 : Int) (q6 : ByteArray) (q7 : ByteArray) (q8 : Int) (q9 : Int) (c1 : j < (lets.size : Int)) (c2 : line.size + 1 ≤ 9223372036854775807) (c3 : 0 ≤ j) (hb : bt lets j = 97) (ht : strongboxref23_number.f k p5 = some t) (c4 : (line ++ (⟨#[32]⟩ : ByteArray)).size + t.size ≤ 9223372036854775807) :
    strongboxref23_Text.l0 (k + 1) line lets j p0 p1 p2 p3 p4 p5 p6 p7 p8 p9 q0 q1 q2 q3 q4 q5 q6 q7 q8 q9 = strongboxref23_Text.l0 k ((line ++ (⟨#[32]⟩ : ByteArray)) ++ t) lets (wrap64 (j + 1)) p0 p1 p2 p3 p4 p5 p6 p7 p8 p9 q0 q1 q2 q3 q4 p5 q6 q7 q8 q9 := by
  rw [strongboxref23_Text.l0, if_pos c1, if_pos c2, if_pos c3, hb]
  rw [if_neg (by decide)]
  rw [if_neg (by decide)]
  rw [if_neg (by decide)]
  rw [if_neg (by decide)]
  rw [if_pos rfl]
  rw [ht, Option.bind_some, if_pos c4]
theorem t_step5 (k : Nat) (line lets t : ByteArray) (j : Int) (p0 : Int) (p1 : ByteArray) (p2 : ByteArray) (p3 : List Int) (p4 : Int) (p5 : Int) (p6 : ByteArray) (p7 : ByteArray) (p8 : Int) (p9 : Int) (q0 : Int) (q1 : ByteArray) (q2 : ByteArray) (q3 : List Int) (q4 : Int) (q5 : Int) (q6 : ByteArray) (q7 : ByteArray) (q8 : Int) (q9 : Int) (c1 : j < (lets.size : Int)) (c2 : line.size + 1 ≤ 9223372036854775807) (c3 : 0 ≤ j) (hb : bt lets j = 112) (ht : strongboxref23_bytes.f k p6 = some t) (c4 : (line ++ (⟨#[32]⟩ : ByteArray)).size + t.size ≤ 9223372036854775807) :
    strongboxref23_Text.l0 (k + 1) line lets j p0 p1 p2 p3 p4 p5 p6 p7 p8 p9 q0 q1 q2 q3 q4 q5 q6 q7 q8 q9 = strongboxref23_Text.l0 k ((line ++ (⟨#[32]⟩ : ByteArray)) ++ t) lets (wrap64 (j + 1)) p0 p1 p2 p3 p4 p5 p6 p7 p8 p9 q0 q1 q2 q3 q4 q5 p6 q7 q8 q9 := by
  rw [strongboxref23_Text.l0, if_pos c1, if_pos c2, if_pos c3, hb]
  rw [if_neg (by decide)]
  rw [if_neg (by decide)]
  rw [if_neg (by decide)]
  rw [if_neg (by decide)]
  rw [if_neg (by decide)]
  rw [if_pos rfl]
  rw [ht, Option.bind_some, if_pos c4]
theorem t_step6 (k : Nat) (line lets t : ByteArray) (j : Int) (p0 : Int) (p1 : ByteArray) (p2 : ByteArray) (p3 : List Int) (p4 : Int) (p5 : Int) (p6 : ByteArray) (p7 : ByteArray) (p8 : Int) (p9 : Int) (q0 : Int) (q1 : ByteArray) (q2 : ByteArray) (q3 : List Int) (q4 : Int) (q5 : Int) (q6 : ByteArray) (q7 : ByteArray) (q8 : Int) (q9 : Int) (c1 : j < (lets.size : Int)) (c2 : line.size + 1 ≤ 9223372036854775807) (c3 : 0 ≤ j) (hb : bt lets j = 102) (ht : strongboxref23_bytes.f k p7 = some t) (c4 : (line ++ (⟨#[32]⟩ : ByteArray)).size + t.size ≤ 9223372036854775807) :
    strongboxref23_Text.l0 (k + 1) line lets j p0 p1 p2 p3 p4 p5 p6 p7 p8 p9 q0 q1 q2 q3 q4 q5 q6 q7 q8 q9 = strongboxref23_Text.l0 k ((line ++ (⟨#[32]⟩ : ByteArray)) ++ t) lets (wrap64 (j + 1)) p0 p1 p2 p3 p4 p5 p6 p7 p8 p9 q0 q1 q2 q3 q4 q5 q6 p7 q8 q9 := by
  rw [strongboxref23_Text.l0, if_pos c1, if_pos c2, if_pos c3, hb]
  rw [if_neg (by decide)]
  rw [if_neg (by decide)]
  rw [if_neg (by decide)]
  rw [if_neg (by decide)]
  rw [if_neg (by decide)]
  rw [if_neg (by decide)]
  rw [if_pos rfl]
  rw [ht, Option.bind_some, if_pos c4]
theorem t_step7 (k : Nat) (line lets t : ByteArray) (j : Int) (p0 : Int) (p1 : ByteArray) (p2 : ByteArray) (p3 : List Int) (p4 : Int) (p5 : Int) (p6 : ByteArray) (p7 : ByteArray) (p8 : Int) (p9 : Int) (q0 : Int) (q1 : ByteArray) (q2 : ByteArray) (q3 : List Int) (q4 : Int) (q5 : Int) (q6 : ByteArray) (q7 : ByteArray) (q8 : Int) (q9 : Int) (c1 : j < (lets.size : Int)) (c2 : line.size + 1 ≤ 9223372036854775807) (c3 : 0 ≤ j) (hb : bt lets j = 105) (ht : strongboxref23_number.f k p8 = some t) (c4 : (line ++ (⟨#[32]⟩ : ByteArray)).size + t.size ≤ 9223372036854775807) :
    strongboxref23_Text.l0 (k + 1) line lets j p0 p1 p2 p3 p4 p5 p6 p7 p8 p9 q0 q1 q2 q3 q4 q5 q6 q7 q8 q9 = strongboxref23_Text.l0 k ((line ++ (⟨#[32]⟩ : ByteArray)) ++ t) lets (wrap64 (j + 1)) p0 p1 p2 p3 p4 p5 p6 p7 p8 p9 q0 q1 q2 q3 q4 q5 q6 q7 p8 q9 := by
  rw [strongboxref23_Text.l0, if_pos c1, if_pos c2, if_pos c3, hb]
  rw [if_neg (by decide)]
  rw [if_neg (by decide)]
  rw [if_neg (by decide)]
  rw [if_neg (by decide)]
  rw [if_neg (by decide)]
  rw [if_neg (by decide)]
  rw [if_neg (by decide)]
  rw [if_pos rfl]
  rw [ht, Option.bind_some, if_pos c4]
theorem t_step8 (k : Nat) (line lets t : ByteArray) (j : Int) (p0 : Int) (p1 : ByteArray) (p2 : ByteArray) (p3 : List Int) (p4 : Int) (p5 : Int) (p6 : ByteArray) (p7 : ByteArray) (p8 : Int) (p9 : Int) (q0 : Int) (q1 : ByteArray) (q2 : ByteArray) (q3 : List Int) (q4 : Int) (q5 : Int) (q6 : ByteArray) (q7 : ByteArray) (q8 : Int) (q9 : Int) (c1 : j < (lets.size : Int)) (c2 : line.size + 1 ≤ 9223372036854775807) (c3 : 0 ≤ j) (hb : bt lets j = 109) (ht : strongboxref23_number.f k p9 = some t) (c4 : (line ++ (⟨#[32]⟩ : ByteArray)).size + t.size ≤ 9223372036854775807) :
    strongboxref23_Text.l0 (k + 1) line lets j p0 p1 p2 p3 p4 p5 p6 p7 p8 p9 q0 q1 q2 q3 q4 q5 q6 q7 q8 q9 = strongboxref23_Text.l0 k ((line ++ (⟨#[32]⟩ : ByteArray)) ++ t) lets (wrap64 (j + 1)) p0 p1 p2 p3 p4 p5 p6 p7 p8 p9 q0 q1 q2 q3 q4 q5 q6 q7 q8 p9 := by
  rw [strongboxref23_Text.l0, if_pos c1, if_pos c2, if_pos c3, hb]
  rw [if_neg (by decide)]
  rw [if_neg (by decide)]
  rw [if_neg (by decide)]
  rw [if_neg (by decide)]
  rw [if_neg (by decide)]
  rw [if_neg (by decide)]
  rw [if_neg (by decide)]
  rw [if_neg (by decide)]
  rw [ht, Option.bind_some, if_pos c4]
theorem t_end (k : Nat) (line lets : ByteArray) (j : Int) (p0 : Int) (p1 : ByteArray) (p2 : ByteArray) (p3 : List Int) (p4 : Int) (p5 : Int) (p6 : ByteArray) (p7 : ByteArray) (p8 : Int) (p9 : Int) (q0 : Int) (q1 : ByteArray) (q2 : ByteArray) (q3 : List Int) (q4 : Int) (q5 : Int) (q6 : ByteArray) (q7 : ByteArray) (q8 : Int) (q9 : Int) (c1 : ¬ j < (lets.size : Int)) (B : Bool) (hs : strongboxref23_SameChoice.f q0 q1 q2 q3 q4 q5 q6 q7 q8 q9 p0 p1 p2 p3 p4 p5 p6 p7 p8 p9 = some B) :
    strongboxref23_Text.l0 (k + 1) line lets j p0 p1 p2 p3 p4 p5 p6 p7 p8 p9 q0 q1 q2 q3 q4 q5 q6 q7 q8 q9 = if B = true then some (line, true) else some (⟨#[]⟩, false) := by
  rw [strongboxref23_Text.l0, if_neg c1, hs, Option.bind_some]
abbrev l0C (k : Nat) (line lets : ByteArray) (j : Int) (x y : Ch) : Option (ByteArray × Bool) :=
  strongboxref23_Text.l0 k line lets j x.d (mkS x.bk) (mkS x.ky) (byN x.dt) x.n x.a (mkS x.pf) (mkS x.fr) x.fi x.mo y.d (mkS y.bk) (mkS y.ky) (byN y.dt) y.n y.a (mkS y.pf) (mkS y.fr) y.fi y.mo
theorem sz1 (v l : List UInt8) (hv : v.length ≤ 8) (hl : l.length ≤ 700000) : (mkS (v ++ l)).size + 1 ≤ 9223372036854775807 := by rw [mkS_size, List.length_append]; omega
theorem sz2 (v l w : List UInt8) (hv : v.length ≤ 8) (hl : l.length ≤ 700000) (hw : w.length ≤ 200000) : (mkS (v ++ l) ++ (⟨#[32]⟩ : ByteArray)).size + (mkS w).size ≤ 9223372036854775807 := by
  rw [show (⟨#[32]⟩ : ByteArray) = mkS [32] from rfl, mkS_app, mkS_size, mkS_size]
  simp only [List.length_append, List.length_cons, List.length_nil]
  omega
theorem line_le (x : Ch) (hx : x.Ok 65536) (F : List Nat) (hF : F.length ≤ 5) : (lineC x F).length ≤ 700000 := by
  have h1 := lineC_le x 65536 hx F
  omega
theorem line_eq (v l w : List UInt8) : (mkS (v ++ l) ++ (⟨#[32]⟩ : ByteArray)) ++ mkS w = mkS (v ++ (l ++ 32 :: w)) := by
  rw [show (⟨#[32]⟩ : ByteArray) = mkS [32] from rfl, mkS_app, mkS_app]
  simp
theorem let_at (F : List Nat) (j : Nat) (h : j < F.length) : bt (mkS (F.map letC)) (j : Int) = ((letC F[j]).toNat : Int) := by
  rw [bt_mkS _ j (by rw [List.length_map]; exact h), List.getElem_map]
theorem next_at (j : Nat) (h : j ≤ 5) : wrap64 ((j : Int) + 1) = ((j + 1 : Nat) : Int) := by unfold wrap64; omega
/-- One field. -/
theorem text_step (x y : Ch) (hx : x.Ok 65536) (f : Nat) (hf : f ≤ 8) (k : Nat) (hk : 65600 < k) (line lets : ByteArray) (j j' : Int) (line' : ByteArray) (c1 : j < (lets.size : Int)) (c2 : line.size + 1 ≤ 9223372036854775807) (c3 : 0 ≤ j) (hb : bt lets j = ((letC f).toNat : Int))
    (c4 : (line ++ (⟨#[32]⟩ : ByteArray)).size + (mkS (wordC x f)).size ≤ 9223372036854775807) (hj : wrap64 (j + 1) = j') (hl : (line ++ (⟨#[32]⟩ : ByteArray)) ++ mkS (wordC x f) = line') :
    l0C (k + 1) line lets j x y = l0C k line' lets j' x (putC x y f) := by
  subst hj
  subst hl
  have hk3 : 30 < k := by omega
  match f, hf with
  | 0, _ => exact t_step0 k _ _ _ _ _ _ _ _ _ _ _ _ _ _ _ _ _ _ _ _ _ _ _ _ c1 c2 c3 hb (bytes_f _ hx.bk k hk) c4
  | 1, _ => exact t_step1 k _ _ _ _ _ _ _ _ _ _ _ _ _ _ _ _ _ _ _ _ _ _ _ _ c1 c2 c3 hb (bytes_f _ hx.ky k hk) c4
  | 2, _ => exact t_step2 k _ _ _ _ _ _ _ _ _ _ _ _ _ _ _ _ _ _ _ _ _ _ _ _ c1 c2 c3 hb (by rw [byN_str]; exact bytes_f _ hx.dt k hk) c4
  | 3, _ => exact t_step3 k _ _ _ _ _ _ _ _ _ _ _ _ _ _ _ _ _ _ _ _ _ _ _ _ c1 c2 c3 hb (number_is _ hx.n.1 hx.n.2 k hk3) c4
  | 4, _ => exact t_step4 k _ _ _ _ _ _ _ _ _ _ _ _ _ _ _ _ _ _ _ _ _ _ _ _ c1 c2 c3 hb (number_is _ hx.a.1 hx.a.2 k hk3) c4
  | 5, _ => exact t_step5 k _ _ _ _ _ _ _ _ _ _ _ _ _ _ _ _ _ _ _ _ _ _ _ _ c1 c2 c3 hb (bytes_f _ hx.pf k hk) c4
  | 6, _ => exact t_step6 k _ _ _ _ _ _ _ _ _ _ _ _ _ _ _ _ _ _ _ _ _ _ _ _ c1 c2 c3 hb (bytes_f _ hx.fr k hk) c4
  | 7, _ => exact t_step7 k _ _ _ _ _ _ _ _ _ _ _ _ _ _ _ _ _ _ _ _ _ _ _ _ c1 c2 c3 hb (number_is _ hx.fi.1 hx.fi.2 k hk3) c4
  | 8, _ => exact t_step8 k _ _ _ _ _ _ _ _ _ _ _ _ _ _ _ _ _ _ _ _ _ _ _ _ c1 c2 c3 hb (number_is _ hx.mo.1 hx.mo.2 k hk3) c4
theorem text_l0 (x : Ch) (hx : x.Ok 65536) (v : List UInt8) (hv : v.length ≤ 8) (F : List Nat) (hF : ∀ f ∈ F, f ≤ 8) (hFl : F.length ≤ 5) (B : Nat) (hB : 65600 ≤ B) (k : Nat) : ∀ (j : Nat), j ≤ F.length → B + (F.length - j) < k →
    l0C k (mkS (v ++ lineC x (F.take j))) (mkS (F.map letC)) (j : Int) x (onlyC x (F.take j)) = some (if onlyC x F = x then (mkS (v ++ lineC x F), true) else (mkS [], false)) := by
  induction k with
  | zero => intro j _ h; exact absurd h (Nat.not_lt_zero _)
  | succ k ih0 =>
    intro j hj h
    by_cases hlt : j < F.length
    · have hk1 : B + (F.length - (j + 1)) < k := by omega
      have hk2 : 65600 < k := by omega
      have hj5 : j ≤ 5 := by omega
      have hjz : (j : Int) < (F.length : Int) := by omega
      have hl5 : (F.take j).length ≤ 5 := by rw [List.length_take]; omega
      have hwl := wordC_le x 65536 hx F[j]
      have hwl2 : (wordC x F[j]).length ≤ 200000 := by omega
      clear h hB
      have ih := ih0 (j + 1) hlt hk1
      rw [List.take_succ_eq_append_getElem hlt, lineC_snoc, onlyC_snoc] at ih
      refine (text_step x (onlyC x (F.take j)) hx F[j] (hF _ (List.getElem_mem _)) k hk2 _ _ _ _ _ (by rw [mkS_size, List.length_map]; exact hjz) (sz1 v _ hv (line_le x hx _ hl5)) (Int.natCast_nonneg _) (let_at F j hlt) (sz2 v _ _ hv (line_le x hx _ hl5) hwl2) (next_at j hj5) (line_eq v _ _)).trans ih
    · have hjF : j = F.length := by omega
      clear h hB hj hlt
      subst hjF
      rw [List.take_length]
      refine (t_end k _ _ _ _ _ _ _ _ _ _ _ _ _ _ _ _ _ _ _ _ _ _ _ (by rw [mkS_size, List.length_map]; exact Int.lt_irrefl _) _ (same_f (onlyC x F) x)).trans ?_
      by_cases ho : onlyC x F = x
      · rw [if_pos ho, if_pos (decide_eq_true ho)]
      · rw [if_neg ho, if_neg (by rw [decide_eq_false ho]; simp)]
        rfl
/-- The document's Text of a choice. -/
theorem text_f (x : Ch) (hx : x.Ok 65536) : strongboxref23_Text.f 70000 x.d (mkS x.bk) (mkS x.ky) (byN x.dt) x.n x.a (mkS x.pf) (mkS x.fr) x.fi x.mo = some (mkS ((textC x).getD []), (textC x).isSome) := by
  unfold strongboxref23_Text.f textC
  rw [verb_f, Option.bind_some]
  simp only [mkS_toList]
  by_cases h : (formC x.d).1 = []
  · rw [if_pos h, if_pos h]; rfl
  · rw [if_neg h, if_neg h]
    have := text_l0 x hx (formC x.d).1 (form_len x.d).2 (formC x.d).2 (form_le x.d) (form_len x.d).1 65600 (Nat.le_refl _) 70000 0 (Nat.zero_le _) (by have := (form_len x.d).1; omega)
    have e : lineC x ((formC x.d).2.take 0) = [] := rfl
    rw [e, List.append_nil] at this
    refine this.trans ?_
    by_cases ho : onlyC x (formC x.d).2 = x
    · rw [if_pos ho, if_pos ho]; rfl
    · rw [if_neg ho, if_neg ho]; rfl
theorem rtext_is (x : Ch) (v : Value) (w : World) (hx : x.Ok 65536) (hv : Dt w (fun _ => True) v x.dt) :
    Calls Tryd.prog 14 #[.agg (chCells x v).toArray] w fun e w' => e = .returned (.tuple #[.string (mkS ((textC x).getD [])), .bool (textC x).isSome]) ∧ Below w.heap.size w w' := by
  obtain ⟨A, c, rfl, l1, f1⟩ := hv
  exact strongboxref23_Text.calls 70000 x.d (mkS x.bk) (mkS x.ky) (fun _ => True) A c (byN x.dt) x.n x.a (mkS x.pf) (mkS x.fr) x.fi x.mo _ _ w ⟨A, c, rfl, l1, f1⟩ (text_f x hx)
end Go.Proofs.YtghllfihmmlcnaaDoor
