/- cut of package script: a text cut at each of one byte. -/
import Derived.Test.YtghllfihmmlcnaaDoorScrH
namespace Go.Proofs.YtghllfihmmlcnaaDoor
open Go.RowKit Nam YtghllfihmmlcnaaDoorW.PrintWords

/-- The bytes of a rune that is none of ASCII's are none of ASCII's. -/
theorem rune_bytes (s : ByteArray) (k : Nat) (hp : k < s.size) (ha : 128 ≤ (s[k]).toNat) : ∀ c ∈ (s.data.toList.drop k).take (Utf8.decode s k).2, 128 ≤ c.toNat := by
  have hd := drop_at s k hp
  have hne : s.data.toList.drop k ≠ [] := by rw [hd]; simp
  have h0 : 128 ≤ (((s.data.toList.drop k).getD 0 0)).toNat := by rw [hd]; simpa using ha
  have hdl := Lib.decodeL_drop s k
  by_cases hok : (Lib.decodeL (s.data.toList.drop k)).1 = 65533 ∧ (Lib.decodeL (s.data.toList.drop k)).2 = 1
  · rw [← hdl, hok.2, hd]
    intro c hc
    simp at hc
    subst hc
    exact ha
  · rw [← hdl]
    exact high_step _ hne h0 hok
theorem rune_le (s : ByteArray) (k : Nat) (hp : k < s.size) : k + (Utf8.decode s k).2 ≤ s.size := by
  have hne : s.data.toList.drop k ≠ [] := by rw [drop_at s k hp]; simp
  have h := Lib.decodeL_le (s.data.toList.drop k) hne
  rw [Lib.decodeL_drop, List.length_drop] at h
  have : s.data.toList.length = s.size := by simp
  omega

theorem info9 : (Tryd.prog.info? 9).map (fun i => (i.zero, i.size, i.bytes)) = some (some (.string ⟨#[]⟩), 1, 16) := by kernel_rfl

/-- What has been cut off so far, and what is to come. -/
def CutSt (s : ByteArray) (c : UInt8) (acc : List (List UInt8)) (a k : Nat) : Prop :=
  acc ++ (splitB c (s.data.toList.drop k)).modifyHead ((s.data.toList.drop a).take (k - a) ++ ·) = splitB c s.data.toList
theorem take_more (s : ByteArray) (a k p : Nat) (h : a ≤ k) : (s.data.toList.drop a).take (k + p - a) = (s.data.toList.drop a).take (k - a) ++ (s.data.toList.drop k).take p := by
  rw [show k + p - a = (k - a) + p by omega, List.take_add, List.drop_drop, show a + (k - a) = k by omega]
theorem CutSt.skip {s : ByteArray} {c : UInt8} {acc : List (List UInt8)} {a k p : Nat} (h : CutSt s c acc a k) (hak : a ≤ k) (hx : c ∉ (s.data.toList.drop k).take p) : CutSt s c acc a (k + p) := by
  unfold CutSt at h ⊢
  rw [take_more s a k p hak, ← splitB_skip c _ _ _ hx, ← List.drop_drop, List.take_append_drop]
  exact h
theorem CutSt.cut {s : ByteArray} {c : UInt8} {acc : List (List UInt8)} {a k : Nat} (h : CutSt s c acc a k) (hk : k < s.size) (hc : s[k] = c) : CutSt s c (acc ++ [(s.data.toList.drop a).take (k - a)]) (k + 1) (k + 1) := by
  unfold CutSt at h ⊢
  rw [drop_at s k hk, splitB_step, if_pos hc] at h
  rw [Nat.sub_self, List.take_zero, modifyHead_nil, List.append_assoc]
  exact h
theorem CutSt.last {s : ByteArray} {c : UInt8} {acc : List (List UInt8)} {a : Nat} (h : CutSt s c acc a s.size) : acc ++ [(s.data.toList.drop a).take (s.size - a)] = splitB c s.data.toList := by
  unfold CutSt at h
  rw [List.drop_eq_nil_of_le (by simp : s.data.toList.length ≤ s.size)] at h
  simpa [splitB] using h

set_option maxHeartbeats 2000000 in
set_option maxRecDepth 100000 in
theorem cut_is (l : List UInt8) (c : UInt8) (hc : c.toNat < 128) (w : World) (hs : l.length ≤ 100000) :
    Calls Tryd.prog 24 #[.string (mkS l), .int .i32 (c.toNat : Int)] w fun e w' => (∃ v, e = .returned v ∧ Kd.R Kd.string 9 w' w.heap.size (fun k => w.heap.size ≤ k) v ((splitB c l).map mkS)) ∧ Below w.heap.size w w' := by
  obtain ⟨s, hsl⟩ : ∃ s, mkS l = s := ⟨_, rfl⟩
  have hl : s.data.toList = l := by rw [← hsl]; rfl
  rw [hsl, ← hl]
  have hz : s.size ≤ 100000 := by rw [← hsl, mkS_size]; exact hs
  clear hsl hl hs l
  go_enter Tryd.func24, Tryd.ntmps24
  go_wp2_with fail
  go_loopw [5, 6] (fun vo va wr => ∃ (k a : Nat) (acc : List (List UInt8)) (sv : Value), sv = vo ∧ va = .int .i64 a ∧ a ≤ k ∧ k ≤ s.size ∧ acc.length ≤ k ∧ Hid (wr.heap[w.heap.size]? = some (.stringIter s k)) ∧ Hid (CutSt s c acc a k) ∧ Hid (Kd.R Kd.string 9 wr w.heap.size (fun k => w.heap.size < k) sv (acc.map mkS)) ∧ Hid (Below w.heap.size w wr)) (fun _ _ wr => s.size - wr.iterPos w.heap.size)
  case atStart =>
    refine ⟨0, 0, [], _, rfl, rfl, Nat.le_refl _, Nat.zero_le _, Nat.zero_le _, ?_, ?_, Kd.R_nil _ _ _ _ _, (Below.refl _ w).alloc (Nat.le_refl _) _⟩
    · exact World.iter_heap w s 0
    · show _ = _
      simp only [List.nil_append, List.drop_zero, Nat.sub_zero, List.take_zero]
      exact modifyHead_nil _
  case round =>
    obtain ⟨k, a, acc, sv, hsv, rfl, hak, hk, hacc, HIT, HC, HR, HB⟩ := hrel
    subst hsv
    have hsz : w.heap.size < wr.heap.size := (Array.getElem?_eq_some_iff.1 HIT.out).1
    by_cases hp : k < s.size
    · have hnx : ∀ ty, (Instr.next (.pointer (some ⟨w.heap.size, 0, none⟩)) true ty).run Tryd.prog wr = _ := fun ty => Lib.run_next_any_at wr w.heap.size s k ty HIT.out hp
      have hw1 := width_pos s k hp
      have hle := decode_le s k
      have hrb := rune_bytes s k hp
      have hrl := rune_le s k hp
      obtain ⟨n, p2, hnp⟩ : ∃ n p2, Utf8.decode s k = (n, p2) := ⟨_, _, rfl⟩
      have hlow : (n < 128 → n = (s[k]).toNat ∧ p2 = 1) ∧ (128 ≤ n → 128 ≤ (s[k]).toNat) := by
        by_cases ha : (s[k]).toNat < 128
        · have h1 := decode_ascii s k hp ha
          rw [hnp] at h1
          obtain ⟨e1, e2⟩ := Prod.mk.inj h1
          exact ⟨fun _ => ⟨e1, e2⟩, fun h => by omega⟩
        · have h1 := decode_high s k hp (by omega)
          rw [hnp] at h1
          exact ⟨fun h => by have := h1.1; simp at this; omega, fun _ => by omega⟩
      rw [hnp] at hle hnx hw1 hrb hrl
      simp only [] at hle hnx hw1 hrb hrl
      clear hnp
      have h32 : IntKind.i32.wrap (n : Int) = (n : Int) := IntWalk.i32_in _ (by omega)
      have HRB := Lib.hid hrb; clear hrb
      have HL := Lib.hid hlow; clear hlow
      obtain ⟨W, hW⟩ : ∃ W, wr.iterAt w.heap.size s (k + p2) = W := ⟨_, rfl⟩
      have HIT2 : Hid (W.heap[w.heap.size]? = some (.stringIter s (k + p2))) := by show _ = _; rw [← hW]; exact Lib.iterAt_heap wr w.heap.size s k (k + p2) HIT.out
      have HB2 : Hid (Below w.heap.size w W) := by show Below _ _ _; rw [← hW]; exact Lib.below_iterAt HB.out (Nat.le_refl _) s (k + p2)
      have HR2 : Hid (Kd.R Kd.string 9 W w.heap.size (fun k => w.heap.size < k) sv (acc.map mkS)) := by
        show Kd.R _ _ _ _ _ _ _
        rw [← hW]
        exact Kd.R_step HR.out (fun j hj _ => Lib.iterAt_other _ _ _ _ _ (by omega))
      have hWs : w.heap.size < W.heap.size := (Array.getElem?_eq_some_iff.1 HIT2.out).1
      rw [hW] at hnx
      clear hW HB HR
      by_cases hn : n = c.toNat
      · have hp1 := HL.out.1 (by omega)
        obtain ⟨e1, rfl⟩ := hp1
        have hsc : s[k] = c := UInt8.toNat_inj.1 (by omega)
        have HC2 := Lib.hid (HC.out.cut hp hsc)
        have hq : ((n : Int) == (c.toNat : Int)) = true := by rw [hn]; exact beq_self_eq_true _
        have E1 := Lib.hid e1; clear e1
        have HN := Lib.hid hn; clear hn
        have HSC := Lib.hid hsc; clear hsc
        have haz : (a : Int) ≤ (k : Int) := by omega
        have hkz : (k : Int) ≤ (s.size : Int) := by omega
        go_wp2_with (at_builtin; refine Kd.R_append Kd.string (w0 := w) w.heap.size rfl (.tmp 18) (.tmp 23) 29 9 (.string ⟨#[]⟩) 16 rfl Tryd.underlying29 info9 rfl (by decide) (by omega) sv (acc.map mkS) (s.extract a k) [.string (s.extract a k)] (fun k => w.heap.size < k) (fun _ => False) rfl rfl rfl (fun _ hk => hk.elim) (fun j hj => by omega) HR2.out HB2.out HB2.out.size (by rw [List.length_map]; omega) ?_; intro v1 w3 hR3 hb3 hg3 hat3)
        have hacc2 : acc.map mkS ++ [s.extract a k] = (acc ++ [(s.data.toList.drop a).take (k - a)]).map mkS := by rw [List.map_append, extract_mkS]; rfl
        rw [hacc2] at hR3
        have HIT3 : Hid (w3.heap[w.heap.size]? = some (.stringIter s (k + 1))) := by
          refine blk_grown HIT2.out hg3 (fun e => ?_)
          have := HR2.out.1 _ e.symm
          omega
        have HR3 := Lib.hid hR3; clear hR3
        have HB3 := Lib.hid hb3; clear hb3 hacc2 hg3 hat3
        go_wp2_with fail
        go_roundw
        case rel => exact ⟨k + 1, k + 1, _, v1, rfl, by go_num, Nat.le_refl _, by omega, by simp; omega, HIT3, HC2, HR3, HB3⟩
        case measure =>
          have e := HIT3.out
          have e0 := HIT.out
          simp [World.iterPos, e, e0]
          omega
      · have hq : ((n : Int) == (c.toNat : Int)) = false := by rw [beq_eq_false_iff_ne]; omega
        have HC2 : Hid (CutSt s c acc a (k + p2)) := by
          refine HC.out.skip hak ?_
          intro hm
          by_cases h128 : 128 ≤ n
          · have := HRB.out (HL.out.2 h128) c hm
            omega
          · obtain ⟨e1, rfl⟩ := HL.out.1 (by omega)
            rw [drop_at s k hp] at hm
            simp at hm
            rw [hm] at hn
            exact hn e1
        have HN := Lib.hid hn; clear hn
        go_wp2_with fail
        go_roundw
        case rel => exact ⟨k + p2, a, acc, sv, rfl, rfl, by omega, by omega, by omega, HIT2, HC2, HR2, HB2⟩
        case measure =>
          have e := HIT2.out
          have e0 := HIT.out
          simp [World.iterPos, e, e0]
          omega
    · have hnx : ∀ ty, (Instr.next (.pointer (some ⟨w.heap.size, 0, none⟩)) true ty).run Tryd.prog wr = _ := fun ty => Lib.run_next_end_at wr w.heap.size s k ty HIT.out hp
      obtain rfl : k = s.size := by omega
      have hfin := HC.out.last
      have HF := Lib.hid hfin; clear hfin
      have haz : (a : Int) ≤ (s.size : Int) := by omega
      go_wp2_with (at_builtin; refine Kd.R_append Kd.string (w0 := w) w.heap.size rfl (.tmp 27) (.tmp 31) 29 9 (.string ⟨#[]⟩) 16 rfl Tryd.underlying29 info9 rfl (by decide) (by omega) sv (acc.map mkS) (s.extract a s.size) [.string (s.extract a s.size)] (fun k => w.heap.size < k) (fun _ => False) rfl rfl rfl (fun _ hk => hk.elim) (fun j hj => by omega) HR.out HB.out HB.out.size (by rw [List.length_map]; omega) ?_; intro v1 w3 hR3 hb3 hg3 hat3)
      have hacc2 : acc.map mkS ++ [s.extract a s.size] = (acc ++ [(s.data.toList.drop a).take (s.size - a)]).map mkS := by rw [List.map_append, extract_mkS]; rfl
      rw [hacc2, HF.out] at hR3
      have HR3 := Lib.hid hR3; clear hR3 hacc2 hg3 hat3
      go_ret
      exact ⟨⟨v1, rfl, Kd.R_mono HR3.out (fun _ hk => Nat.le_of_lt hk)⟩, hb3⟩
end Go.Proofs.YtghllfihmmlcnaaDoor
