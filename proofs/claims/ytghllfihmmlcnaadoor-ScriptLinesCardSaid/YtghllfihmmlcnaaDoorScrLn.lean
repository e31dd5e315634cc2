/- Lives as texts, plainly: a line that is none, among lines that are. -/
import Derived.Test.YtghllfihmmlcnaaDoorScrMF
namespace Go.Proofs.YtghllfihmmlcnaaDoor
open Go.RowKit Nam YtghllfihmmlcnaaDoorW.PrintWords

def badL : List (List UInt8) := [[104, 101, 97, 108, 32, 49], [], [109, 97, 107, 101, 32, 54, 49, 54], [98, 117, 99, 107, 101, 116, 115, 32, 46], [103, 101, 116, 32, 54, 49, 32, 54, 50], [102, 117, 115, 101, 32, 43, 50], [32, 104, 101, 97, 108], [112, 117, 116, 32, 54, 49, 32, 54, 50, 32, 54, 103], [115, 116, 111, 112, 32, 49], [99, 114, 97, 115, 104, 32, 48, 48]]
theorem bad_none : ∀ b ∈ badL, choiceC b = none := by decide +kernel
theorem bad_10 : ∀ b ∈ badL, (10 : UInt8) ∉ b ∧ b.length ≤ 12 := by decide
theorem parse_bad (k m b o : Int) (l1 l2 : List Ch) (z : List UInt8) (hz : z ∈ badL) (hh : ∀ n ∈ [k, m, b, o], -9223372036854775808 ≤ n ∧ n ≤ 9223372036854775807) (hx : ∀ x ∈ l1, x.Ok 65536) (h1 : ∀ x ∈ l1, ∃ t, textC x = some t) (h2 : ∀ x ∈ l2, ∃ t, textC x = some t)
    (hl : (headC [k, m, b, o] ++ bodyC l1 ++ (z ++ [10]) ++ bodyC l2).length ≤ 65536) (hn : l1.length + l2.length ≤ 1000) :
    parseC (headC [k, m, b, o] ++ bodyC l1 ++ (z ++ [10]) ++ bodyC l2) = .no (l1.length + 2) 19 ∧ splitB 10 (headC [k, m, b, o] ++ bodyC l1 ++ (z ++ [10]) ++ bodyC l2) = (lineH [k, m, b, o] :: (l1.map (fun x => (textC x).getD []) ++ z :: l2.map (fun x => (textC x).getD []))) ++ [[]] := by
  have t10 : ∀ l : List Ch, (∀ x ∈ l, ∃ t, textC x = some t) → ∀ v ∈ l.map (fun x => (textC x).getD []), (10 : UInt8) ∉ v := fun l hl v hv => by
    obtain ⟨x, hxl, rfl⟩ := List.mem_map.1 hv
    obtain ⟨t, ht⟩ := hl x hxl
    rw [ht]; exact textC_10 x t ht
  have hsp : splitB 10 (headC [k, m, b, o] ++ bodyC l1 ++ (z ++ [10]) ++ bodyC l2) = (lineH [k, m, b, o] :: (l1.map (fun x => (textC x).getD []) ++ z :: l2.map (fun x => (textC x).getD []))) ++ [[]] := by
    have := split_lines (lineH [k, m, b, o] :: (l1.map (fun x => (textC x).getD []) ++ z :: l2.map (fun x => (textC x).getD []))) [] (fun v hv => by
      rcases List.mem_cons.1 hv with rfl | hv
      · exact lineH_10 _
      · rcases List.mem_append.1 hv with hv | hv
        · exact t10 l1 h1 v hv
        · rcases List.mem_cons.1 hv with rfl | hv
          · exact (bad_10 v hz).1
          · exact t10 l2 h2 v hv)
    rw [List.append_nil, List.flatMap_cons, List.flatMap_append, List.flatMap_cons, ← bodyC_lines, ← bodyC_lines, ← headC_line] at this
    have e0 : splitB 10 [] = [[]] := rfl
    simpa [List.append_assoc, e0] using this
  refine ⟨?_, hsp⟩
  unfold parseC
  rw [hsp, if_neg (by
    simp only [List.length_append, List.length_cons, List.length_map, List.length_nil, List.getLastD_concat, if_true] at *
    omega)]
  rw [List.dropLast_concat, List.getLastD_concat]
  unfold parseL
  rw [readL, if_pos rfl, shapeC_line k m b o hh]
  simp only []
  have hr := readL_body [k, m, b, o] l1 1 [] (z :: l2.map (fun x => (textC x).getD [])) (by decide) (fun x hxl => by obtain ⟨t, ht⟩ := h1 x hxl; rw [ht]; exact choiceC_text x (hx x hxl) t ht)
  rw [hr, readL, if_neg (by omega), bad_none z hz]
  simp only []
  congr 1
  omega
theorem bad_map : badL.map (fun b => b ++ [10]) = [[104, 101, 97, 108, 32, 49, 10], [10], [109, 97, 107, 101, 32, 54, 49, 54, 10], [98, 117, 99, 107, 101, 116, 115, 32, 46, 10], [103, 101, 116, 32, 54, 49, 32, 54, 50, 10], [102, 117, 115, 101, 32, 43, 50, 10], [32, 104, 101, 97, 108, 10], [112, 117, 116, 32, 54, 49, 32, 54, 50, 32, 54, 103, 10], [115, 116, 111, 112, 32, 49, 10], [99, 114, 97, 115, 104, 32, 48, 48, 10]] := rfl
def TextIs (s : List UInt8) (r : PR) : Prop := parseC s = r ∧ s.length ≤ 100000 ∧ ∀ x ∈ splitB 10 s, x.length ≤ 20000
theorem good_is (h : List Int) (k m b o : Int) (he : h = [k, m, b, o]) (l : List Ch) (j : Nat) (s1 s2 tl : List UInt8) (hh : ∀ n ∈ [k, m, b, o], -9223372036854775808 ≤ n ∧ n ≤ 9223372036854775807) (hx : ∀ x ∈ l, x.Ok 65536) (hs : ∀ x ∈ l, x.Short)
    (t1 : ∀ x ∈ l.take j, ∃ t, textC x = some t) (t2 : ∀ x ∈ l.drop j, ∃ t, textC x = some t) (q1 : s1 = headC h ++ bodyC (l.take j)) (q2 : tl = bodyC (l.drop j)) (hl : s1.length + tl.length ≤ 50000) (hn : l.length ≤ 1000) :
    TextIs (s1 ++ tl) ⟨h, l, 0, 0⟩ := by
  subst he
  have ht : ∀ x ∈ l, ∃ t, textC x = some t := fun x hx => by
    rw [← List.take_append_drop j l] at hx
    rcases List.mem_append.1 hx with h | h
    · exact t1 x h
    · exact t2 x h
  have hb : bodyC (l.take j) ++ bodyC (l.drop j) = bodyC l := by rw [← bodyC_app, List.take_append_drop]
  have hsum : s1 ++ tl = headC [k, m, b, o] ++ bodyC l := by rw [q1, q2, List.append_assoc, hb]
  have hlen : (headC [k, m, b, o] ++ bodyC l).length ≤ 50000 := by rw [← hsum, List.length_append]; exact hl
  have hp : printC [k, m, b, o] l = (headC [k, m, b, o] ++ bodyC l, 0) := by
    unfold printC
    rw [if_neg, if_neg (by omega)]
    intro ha
    obtain ⟨x, hxl, hxn⟩ := List.any_eq_true.1 ha
    obtain ⟨t, e⟩ := ht x hxl
    rw [e] at hxn
    cases hxn
  have h0 : (printC [k, m, b, o] l).2 = 0 := by rw [hp]
  have h1 := (parse_print k m b o l hh hx h0).1
  have h2 := print_lines_len k m b o l hh hx hs h0
  rw [hp] at h1 h2
  rw [hsum]
  exact ⟨h1, by omega, h2⟩
theorem bad_is (h : List Int) (k m b o : Int) (he : h = [k, m, b, o]) (l : List Ch) (j : Nat) (hj : j ≤ l.length) (s1 tl z : List UInt8) (hz : z ∈ badL) (hh : ∀ n ∈ [k, m, b, o], -9223372036854775808 ≤ n ∧ n ≤ 9223372036854775807) (hx : ∀ x ∈ l, x.Ok 65536) (hs : ∀ x ∈ l, x.Short)
    (t1 : ∀ x ∈ l.take j, ∃ t, textC x = some t) (t2 : ∀ x ∈ l.drop j, ∃ t, textC x = some t) (q1 : s1 = headC h ++ bodyC (l.take j)) (q2 : tl = bodyC (l.drop j)) (hl : s1.length + tl.length ≤ 50000) (hn : l.length ≤ 1000) :
    TextIs (s1 ++ (z ++ [10]) ++ tl) (.no (j + 2) 19) := by
  subst he
  have hlz := (bad_10 z hz).2
  have hlen : (headC [k, m, b, o] ++ bodyC (l.take j) ++ (z ++ [10]) ++ bodyC (l.drop j)).length ≤ 65536 := by
    rw [q1, q2, List.length_append] at hl
    simp only [List.length_append, List.length_cons, List.length_nil] at hl ⊢
    omega
  have hd : (l.take j).length + (l.drop j).length = l.length := by rw [← List.length_append, List.take_append_drop]
  have hp := parse_bad k m b o (l.take j) (l.drop j) z hz hh (fun x h => hx x (List.mem_of_mem_take h)) t1 t2 hlen (by omega)
  rw [q1, q2]
  refine ⟨?_, by omega, ?_⟩
  · rw [hp.1, List.length_take, Nat.min_eq_left hj]
  · rw [hp.2]
    have key : ∀ (m : List Ch), (∀ x ∈ m, x ∈ l) → (∀ x ∈ m, ∃ t, textC x = some t) → ∀ v ∈ m.map (fun x => (textC x).getD []), v.length ≤ 20000 := fun m hm tm v hv => by
      obtain ⟨x, hxm, rfl⟩ := List.mem_map.1 hv
      obtain ⟨t, e⟩ := tm x hxm
      rw [e]
      have := text_len x (hx x (hm x hxm)) (hs x (hm x hxm)) t e
      simp only [Option.getD_some]
      omega
    intro v hv
    rcases List.mem_append.1 hv with hv | hv
    · rcases List.mem_cons.1 hv with rfl | hv
      · have := lineH_len k m b o hh; omega
      · rcases List.mem_append.1 hv with hv | hv
        · exact key _ (fun x h => List.mem_of_mem_take h) t1 v hv
        · rcases List.mem_cons.1 hv with rfl | hv
          · omega
          · exact key _ (fun x h => List.mem_of_mem_drop h) t2 v hv
    · rw [List.mem_singleton] at hv
      subst hv
      exact Nat.zero_le _
end Go.Proofs.YtghllfihmmlcnaaDoor
