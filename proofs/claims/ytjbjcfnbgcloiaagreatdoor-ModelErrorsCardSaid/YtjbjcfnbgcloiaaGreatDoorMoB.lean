/- The small functions of package model. -/
import Derived.Test.YtjbjcfnbgcloiaaGreatDoorMoA
import Derived.Test.YtjbjcfnbgcloiaaGreatDoorRows
import Derived.Test.YtjbjcfnbgcloiaaGreatDoorNam
import Derived.WalkKit
import Derived.ProofKit
import Derived.OpenShut
import Derived.WalkSpells
import Derived.Handy
import Derived.Outline
namespace Go.Proofs.YtjbjcfnbgcloiaaGreatDoor
open Go.RowKit Nam YtjbjcfnbgcloiaaGreatDoorW.PrintWords

theorem zero63 (w : World) : (zeroValue 63).run Tryz.prog w = .ok (.map none) w := by kernel_rfl
theorem zero77 (w : World) : (zeroValue 64).run Tryz.prog w = .ok (.slice none 0 0) w := by kernel_rfl
/-- m.b[b]: a bucket's keys; nil: there is none. -/
theorem look1 {w : World} {g : Nat} {S : St} {n : Nat} {Q F : Nat → Prop} {mb : Nat} {D : DataW Unit} (h : Outer w g S n Q F mb D) (s : List UInt8) (hs : s.length ≤ maxLen) :
    (s ∉ S.B ∧ (Instr.lookup 57 (.map (some mb)) (.string (mkS s)) false).run Tryz.prog w = .ok (.map none) w) ∨
    (s ∈ S.B ∧ ∃ b : Nat, D.atKey (.string s) .nil = .lit (.int .i64 b) ∧ Q b ∧ b ≠ mb ∧ InnerM w F b n (S.V s) ∧ (Instr.lookup 57 (.map (some mb)) (.string (mkS s)) false).run Tryz.prog w = .ok (.map (some b)) w) := by
  obtain ⟨v, ps, hrun, hv⟩ := h.o.lookup KS Tryz.underlying57 (zero63 w) (zd := .nil) (zp := []) rfl (key_str s hs)
  by_cases hb : s ∈ S.B
  · obtain ⟨b, e1, e2, e3, e4⟩ := h.at_ s hb
    refine .inr ⟨hb, b, e1, e2, e3, e4, ?_⟩
    rw [e1] at hv
    rw [hrun, R1_one hv (show R1 (.map (some b)) = some (.lit (.int .i64 b), []) from rfl)]
  · refine .inl ⟨hb, ?_⟩
    rw [Maps.atKey_of_not_has (by rw [h.hs, decide_eq_false hb])] at hv
    rw [hrun, R1_one hv (show R1 (.map none) = some (.nil, []) from rfl)]
/-- .. [key]: its versions. -/
theorem look2 {w : World} {F : Nat → Prop} {b n : Nat} {f : List UInt8 → List Kp} (h : InnerM w F b n f) (s : List UInt8) (hs : s.length ≤ maxLen) :
    ∃ v, RowV w F v (f s) ∧ (Instr.lookup 63 (.map (some b)) (.string (mkS s)) false).run Tryz.prog w = .ok v w := by
  obtain ⟨D, h1, h2⟩ := h
  obtain ⟨v, ps, hrun, hv⟩ := h1.lookup KS Tryz.underlying63 (zero77 w) (zd := .nil) (zp := []) rfl (key_str s hs)
  obtain ⟨v', ps', hv', hr⟩ := h2 s
  refine ⟨v', hr, ?_⟩
  rw [hrun, R2_one hv hv']

theorem there_is (w : World) (g mb : Nat) (hc : w.heap[g]? = some (.cells #[.map (some mb)] 59 (0, 0))) :
    Calls Tryz.prog 48 #[.pointer (some ⟨g, 0, none⟩)] w fun e w' => e = .returned (.bool true) ∧ w = w' := by
  have c0 := (blk_cell hc 0).trans (rfl : _ = some (Value.map (some mb)))
  clear hc
  have hq := fun (w : World) (r : Option Nat) => run_neq_map_nil (P := Tryz.prog) w 57 _ _ r Tryz.underlying57
  go_enter Tryz.func48, Tryz.ntmps48
  go_wp2
  go_ret
  exact ⟨rfl, rfl⟩

def St.new : St := ⟨[], fun _ _ => []⟩
theorem new_is (w : World) : Calls Tryz.prog 7 #[] w fun e w' => (∃ g Q F, e = .returned (.pointer (some ⟨g, 0, none⟩)) ∧ HasM w' g St.new 0 Q F ∧ (∀ k, Q k → w.heap.size ≤ k) ∧ ∀ k, F k → w.heap.size ≤ k) ∧ Below w.heap.size w w' := by
  have hmm := @run_makeMap Tryz.prog
  go_enter Tryz.func7, Tryz.ntmps7
  go_wp2
  go_ret
  have hg : ((w.alloc (.map #[] 0)).alloc (.cells #[.map (some w.heap.size)] 59)).heap[w.heap.size + 1]? = some (.cells #[.map (some w.heap.size)] 59 (0, 0)) := by
    have := heap_alloc_new (w.alloc (.map #[] 0)) (.cells #[.map (some w.heap.size)] 59)
    simpa using this
  refine ⟨⟨w.heap.size + 1, fun k => k = w.heap.size, fun k => k = w.heap.size + 1, rfl, ⟨?_, ?_, List.nodup_nil, fun _ _ _ => rfl, w.heap.size, .map [], ?_⟩, fun k hk => by omega, fun k hk => by omega⟩, ((Below.refl _ _).alloc (Nat.le_refl _) _).alloc (by simp) _⟩
  · rintro k rfl
    exact ⟨#[], 0, (heap_alloc_old _ _ (by simp)).trans (heap_alloc_new w _)⟩
  · rintro k rfl
    exact ⟨_, _, _, hg⟩
  · refine ⟨hg, rfl, (World.ownsMap_made w Tryz.prog 9 R1).alloc _, rfl, rfl, fun s => ?_, fun s hs => ?_, fun s hs => ?_⟩
    · exact (decide_eq_false (List.not_mem_nil)).symm
    · exact absurd hs List.not_mem_nil
    · exact absurd hs List.not_mem_nil

def St.make (S : St) (s : List UInt8) : St × Int :=
  if bucketB s = false then (S, 12) else if s ∈ S.B then (S, 7) else if 64 ≤ S.B.length then (S, 18) else ({ S with B := S.B ++ [s] }, 0)

/-- A bucket more. -/
theorem made {w w2 : World} {g n mb : Nat} {S : St} {Q F : Nat → Prop} {D : DataW Unit} {s : List UInt8} (h : Outer w g S n Q F mb D) (hq : ∀ k, Q k → IsM w k) (hF : ∀ k, F k → IsC w k) (nd : S.B.Nodup) (off : ∀ s, s ∉ S.B → ∀ k, S.V s k = []) (hs : s ∉ S.B)
    (hown : w2.ownsMap Tryz.prog 9 R1 mb (n + 1) (D.put (.string s) (.lit (.int .i64 w.heap.size)))) (hg : (w.alloc (.map #[] 0)).grownBy w2 (some mb)) :
    HasM w2 g { S with B := S.B ++ [s] } (n + 1) (fun k => Q k ∨ k = w.heap.size) F ∧ Moved Q w w2 := by
  obtain ⟨h1, hfg, h2, h3, h4, h5, h6, h7⟩ := h
  have hmb : mb < w.heap.size := isM_lt (hq mb h3)
  have hold : ∀ k, k < w.heap.size → k ≠ mb → w2.heap[k]? = w.heap[k]? := fun k hk hne =>
    (hg.block k (by simp; omega) (by simp; exact hne)).trans (heap_alloc_old w _ hk)
  have hnew : w2.heap[w.heap.size]? = some (.map #[] 0) := (hg.block w.heap.size (by simp) (by simp; omega)).trans (heap_alloc_new w _)
  have hck : FKept F w w2 := fun k hk => hold k (isC_lt (hF k hk)) (fun e => isC_not (hF k hk) (hq k (by rw [e]; exact h3)))
  have hD : Maps.has D (.string s) = false := by rw [h5, decide_eq_false hs]
  have hti := h2.tidy KS
  refine ⟨⟨fun k hk => ?_, fun k hk => ?_, ?_, fun t ht k => ?_, mb, _, ⟨(hck g hfg).trans h1, hfg, hown, .inl h3, ?_, fun t => ?_, fun t ht => ?_, fun t ht t' ht' he => ?_⟩⟩, ?_⟩
  · rcases hk with hk | rfl
    · by_cases e : k = mb
      · subst e; exact ownsMap_isM hown
      · obtain ⟨a, b, hh⟩ := hq k hk
        exact ⟨a, b, (hold k (isM_lt (hq k hk)) e).trans hh⟩
    · exact ⟨_, _, hnew⟩
  · obtain ⟨a, b, c, hh⟩ := hF k hk
    exact ⟨a, b, c, (hck k hk).trans hh⟩
  · exact List.nodup_append.2 ⟨nd, by simp, fun a ha b hb e => hs (by rw [List.mem_singleton] at hb; subst hb; subst e; exact ha)⟩
  · exact off t (fun e => ht (List.mem_append_left _ e)) k
  · rw [Maps.size_put hti, hD, h4]
    simp
  · by_cases e : t = s
    · subst e
      rw [Maps.has_put_same h2.isMap (isKey_str t)]
      simp
    · rw [Maps.has_put_other (fun e' => e (by injection e')), h5]
      simp [e]
  · by_cases e : t = s
    · subst e
      refine ⟨w.heap.size, Maps.atKey_put_same h2.isMap (isKey_str t) _ _, .inr rfl, by omega, .map [], ⟨#[], 0, hnew, ⟨by simp, MapKept.stamped_empty 0, by simp⟩, by simp, rfl⟩, fun k => ⟨.slice none 0 0, [], rfl, ?_⟩⟩
      show RowV w2 F _ (S.V t k)
      rw [off t hs k]
      exact rowV_nil _ _
    · have ht' : t ∈ S.B := by
        rcases List.mem_append.1 ht with h | h
        · exact h
        · exact absurd (List.mem_singleton.1 h) e
      obtain ⟨b, e1, e2, e3, e4⟩ := h6 t ht'
      exact ⟨b, by rw [Maps.atKey_put_other (fun e' => e (by injection e'))]; exact e1, .inl e2, e3, (e4.kept (hold b (isM_lt (hq b e2)) e3) hck).mono (by omega)⟩
  · have hc : ∀ t, t ∈ S.B ++ [s] → t = s ∨ t ∈ S.B := fun t ht => by
      rcases List.mem_append.1 ht with h | h
      · exact .inr h
      · exact .inl (List.mem_singleton.1 h)
    have hlt : ∀ t, t ∈ S.B → (D.put (.string s) (.lit (.int .i64 w.heap.size))).atKey (.string t) .nil ≠ .lit (.int .i64 w.heap.size) := fun t hin e => by
      obtain ⟨b, e1, e2, e3, e4⟩ := h6 t hin
      rw [Maps.atKey_put_other (fun e' => hs (by injection e' with e'; rw [← e']; exact hin)), e1] at e
      have := isM_lt (hq b e2)
      simp only [DataW.lit.injEq, Lit.int.injEq, true_and] at e
      omega
    have hsm := Maps.atKey_put_same h2.isMap (isKey_str s) (.lit (.int .i64 w.heap.size)) (.nil : DataW Unit)
    rcases hc t ht with e1 | ht1 <;> rcases hc t' ht' with e2 | ht2
    · rw [e1, e2]
    · rw [e1, hsm] at he
      exact absurd he.symm (hlt t' ht2)
    · rw [e2, hsm] at he
      exact absurd he (hlt t ht1)
    · rw [Maps.atKey_put_other (fun e' => hs (by injection e' with e'; rw [← e']; exact ht1)), Maps.atKey_put_other (fun e' => hs (by injection e' with e'; rw [← e']; exact ht2))] at he
      exact h7 t ht1 t' ht2 he
  · refine ⟨hg.os, hg.tape, hg.output, ?_, fun k hk hn => hold k hk (fun e => hn (by rw [e]; exact h3))⟩
    have := hg.size
    simp at this
    omega

def MakeIs (S : St) (n : Nat) (Q F : Nat → Prop) (g : Nat) (s : List UInt8) (w : World) (e : Ending) (w' : World) : Prop :=
  ∃ Q', e = .returned (.int .i64 (S.make s).2) ∧ HasM w' g (S.make s).1 (n + 1) Q' F ∧ Moved Q w w' ∧ ∀ k, Q' k → Q k ∨ w.heap.size ≤ k
theorem make_same {S : St} {n : Nat} {Q F : Nat → Prop} {g : Nat} {s : List UInt8} {w w' : World} {r : Int} (h : S.make s = (S, r)) (hm : HasM w g S n Q F) (hb : Below w.heap.size w w') : MakeIs S n Q F g s w (.returned (.int .i64 r)) w' := by
  unfold MakeIs
  rw [h]
  exact ⟨Q, rfl, (hm.below hb).mono (by omega), Moved.of_below hb, fun k hk => .inl hk⟩

set_option maxHeartbeats 1000000 in
set_option maxRecDepth 100000 in
theorem make_is (w : World) (g : Nat) (S : St) (n : Nat) (Q F : Nat → Prop) (s : List UInt8) (hs : s.length ≤ 100000) (hn : n ≤ 100000) (hm : HasM w g S n Q F) :
    Calls Tryz.prog 16 #[.pointer (some ⟨g, 0, none⟩), .string (mkS s)] w (MakeIs S n Q F g s w) := by
  have hsz : (mkS s).size ≤ maxLen := by rw [mkS_size]; unfold maxLen; omega
  obtain ⟨mb, D, hO⟩ := hm.ex
  have HM := Lib.hid hm; clear hm
  have HO := Lib.hid hO
  have c0 := (blk_cell hO.c 0).trans (rfl : _ = some (Value.map (some mb)))
  have HTh := Lib.hid (there_is w g mb hO.c)
  clear hO
  obtain ⟨ok, hok⟩ : ∃ ok, bucketB s = ok := ⟨_, rfl⟩
  have HBk : Hid (∀ W, Calls Tryz.prog 49 #[.string (mkS s)] W fun e w' => e = .returned (.bool ok) ∧ Below W.heap.size W w') := fun W => by
    have := bucket_is (mkS s) W hsz
    rw [mkS_list, hok] at this
    exact this
  have hq := fun (w : World) (r : Option Nat) => run_neq_map_nil (P := Tryz.prog) w 63 _ _ r Tryz.underlying63
  have hmm := @run_makeMap Tryz.prog
  have HOK := Lib.hid hok; clear hok
  cases ok with
  | false =>
    have HR : Hid (S.make s = (S, 12)) := by show _ = _; unfold St.make; rw [if_pos HOK.out]
    go_enter Tryz.func16, Tryz.ntmps16
    go_wp2_with fail
    refine HTh.out.mono ?_
    rintro e w' ⟨rfl, rfl⟩
    go_wp2_with fail
    refine (HBk.out _).mono ?_
    rintro e w1 ⟨rfl, hb1⟩
    go_wp2_with fail
    go_ret
    exact make_same HR.out HM.out hb1
  | true =>
    go_enter Tryz.func16, Tryz.ntmps16
    go_wp2_with fail
    refine HTh.out.mono ?_
    rintro e w' ⟨rfl, rfl⟩
    go_wp2_with fail
    refine (HBk.out _).mono ?_
    rintro e w1 ⟨rfl, hb1⟩
    have HM1 := Lib.hid (HM.out.below hb1)
    have HB1 := Lib.hid hb1
    have hO1 := HO.out.below HM.out.q HM.out.f hb1
    have HO1 := Lib.hid hO1
    have c1 := (blk_cell hO1.c 0).trans (rfl : _ = some (Value.map (some mb)))
    have hl := hO1.o.len Tryz.underlying57 3
    rw [hO1.sz] at hl
    clear c0 hb1
    rcases look1 hO1 s (by unfold maxLen; omega) with ⟨hsB, hrun⟩ | ⟨hsB, b, _, _, _, _, hrun⟩
    rotate_left
    · have HR : Hid (S.make s = (S, 7)) := by show _ = _; unfold St.make; rw [if_neg (by rw [HOK.out]; simp), if_pos hsB]
      clear hO1 hsB
      go_wp2_with fail
      go_ret
      exact make_same HR.out HM.out HB1.out
    by_cases h64 : 64 ≤ S.B.length
    · have HR : Hid (S.make s = (S, 18)) := by show _ = _; unfold St.make; rw [if_neg (by rw [HOK.out]; simp), if_neg hsB, if_pos h64]
      have hz : (64 : Int) ≤ (S.B.length : Int) := by omega
      clear hO1 hsB h64
      go_wp2_with fail
      go_ret
      exact make_same HR.out HM.out HB1.out
    · have HR : Hid (S.make s = ({ S with B := S.B ++ [s] }, 0)) := by show _ = _; unfold St.make; rw [if_neg (by rw [HOK.out]; simp), if_neg hsB, if_neg h64]
      have hz : (S.B.length : Int) < (64 : Int) := by omega
      have HSB := Lib.hid hsB
      clear hO1 hsB h64
      have hmx : n < maxLen := by unfold maxLen; omega
      go_wp2_with (at_mapUpdate; refine wpList_mapUpdate_own _ rfl _ _ _ 57 rfl 9 63 KS Tryz.underlying57 R1 mb n D rfl (HO1.out.o.alloc _) hmx _ _ (.string s) rfl rfl (key_str s (by unfold maxLen; omega)) (.lit (.int .i64 w1.heap.size)) [] rfl ?_; intro w2 hown2 hg2)
      go_ret
      obtain ⟨h1, h2⟩ := made HO1.out HM1.out.q HM1.out.f HM1.out.nd HM1.out.off HSB.out hown2 hg2
      refine ⟨_, by rw [HR.out]; rfl, by rw [HR.out]; exact h1, ?_, ?_⟩
      · exact (Moved.of_below HB1.out).trans h2 (fun i hi => .inl hi)
      · rintro k (hk | rfl)
        · exact .inl hk
        · exact .inr HB1.out.size
end Go.Proofs.YtjbjcfnbgcloiaaGreatDoor
