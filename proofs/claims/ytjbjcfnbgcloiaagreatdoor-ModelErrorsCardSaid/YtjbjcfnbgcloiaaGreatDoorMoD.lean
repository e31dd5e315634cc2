/- Slices of versions, copied; a version more. -/
import Derived.Test.YtjbjcfnbgcloiaaGreatDoorMoC
import Derived.Test.YtjbjcfnbgcloiaaGreatDoorLaysM
import Derived.Test.YtjbjcfnbgcloiaaGreatDoorNamK
import Derived.Test.YtjbjcfnbgcloiaaGreatDoorWArr
import Derived.Deep.AppendLies
import Derived.Laws.CopyOwn
import Derived.Deep.RegionHeldLaw
import Derived.Deep.QuietTactic
import Derived.BigQuiet
namespace Go.Proofs.YtjbjcfnbgcloiaaGreatDoor
open Go.RowKit Nam YtjbjcfnbgcloiaaGreatDoorW.PrintWords

theorem infoKp : (Tryz.prog.info? 67).map (fun i => (i.zero, i.size, i.bytes)) = some (some (.agg #[.int .i64 0, .bool false, .int .i64 0, .int .u32 0, .slice none 0 0]), 5, 56) := by kernel_rfl
theorem own_cells {w : World} {base n size : Nat} {e : TypeId} {v : Value} {news : List Value} (h : w.ownsRow base e size v n news) {g c : Nat} (hv : v = .slice (some ⟨g, 0, none⟩) n c) (j : Nat) (u : Value) (hu : news[j]? = some u) : w.cell? ⟨g, j, none⟩ = some u := by
  rcases h.2 with ⟨h0, _⟩ | ⟨g', cap, cur, h0, _, hg, _, _, hsz, htk⟩
  · rw [h0] at hv; cases hv
  · rw [h0] at hv
    injection hv with hA _ _
    injection hA with hA
    injection hA with hA _ _
    subst hA
    have := blk_cell hg j
    rw [this]
    rw [← htk, List.getElem?_take] at hu
    split at hu
    · simpa using hu
    · cases hu
theorem rowV_of_own {w : World} {base n : Nat} {v : Value} {l : List Kp} {news : List Value} {F : Nat → Prop} (h : w.ownsRow base 67 5 v n news) (hr : Reps (KpF w F) 5 l news) (hn : l.length = n) (hF : ∀ g, v.ownBlock = some g → F g) : RowV w F v l := by
  subst hn
  refine ⟨news, ?_, hr⟩
  rcases h.2 with ⟨h0, h1⟩ | ⟨g', cap, cur, h0, _, hg, hle, _⟩
  · exact .inl ⟨h0, h1, List.length_eq_zero_iff.1 (by rw [h.1, h1])⟩
  · exact .inr ⟨g', cap, h0, hle, hF g' (by rw [h0]; rfl), fun j u hu => own_cells h h0 j u hu⟩
theorem reps_kept {w w' : World} {F : Nat → Prop} {l : List Kp} {news : List Value} (h : Reps (KpF w F) 5 l news) (hk : FKept F w w') : Reps (KpF w' F) 5 l news := h.imp_ fun _ _ hp => hp.kept hk
theorem reps_mono {w : World} {F F' : Nat → Prop} {l : List Kp} {news : List Value} (h : Reps (KpF w F) 5 l news) (hf : ∀ k, F k → F' k) : Reps (KpF w F') 5 l news := h.imp_ fun _ _ hp => hp.mono hf
theorem reps_ones {w : World} {F : Nat → Prop} {l : List Kp} {news : List Value} (hr : Reps (KpF w F) 5 l news) : ∀ u ∈ news, u.oneCell' = true := Kd.reps_one hr (by decide) (fun p c h u hu => KpF.one h u hu)
/-- slices.Clone of a slice of versions. -/
theorem kclone_at (w : World) (F : Nat → Prop) (v : Value) (news : List Value) (n : Nat) (hl : n ≤ 1000) (hn : news.length = n * 5) (h1 : ∀ u ∈ news, u.oneCell' = true) (hv : NewsAt w F v news n) :
    Calls Tryz.prog 21 #[v] w fun e w' => (∃ v', e = .returned v' ∧ w'.ownsRow w.heap.size 67 5 v' n news) ∧ Below w.heap.size w w' := by
  rcases hv with ⟨rfl, rfl, rfl⟩ | ⟨g, c, rfl, hc, _, hC⟩
  · refine (AnyE.slices_Clone_nil Tryz.cloneK 0 0 w).mono fun e w' ⟨he, hw⟩ => ?_
    subst hw
    exact ⟨⟨.slice none 0 0, he, own_nil _ _ _ _⟩, Below.refl _ _⟩
  · obtain ⟨i0, hi, hz0, hz1, hz2⟩ := info_parts infoKp
    refine (AnyE.slices_Clone Tryz.cloneK i0 _ 5 56 hi hz0 hz1 hz2 rfl (by decide) (fun w => by kernel_rfl) g 0 n c news w hn (by unfold maxLen; omega) (by omega) (fun j u hu => by rw [Nat.zero_add]; exact hC j u hu) h1).mono fun e w' ⟨v', he, ho, _, hb⟩ => ?_
    exact ⟨⟨v', he, ho⟩, hb⟩
/-- bytes.Clone. -/
theorem bclone_is (w : World) (A : Option Addr) (c : Nat) (l : List UInt8) (hl : l.length ≤ 1000000) (hC : (Kd.int .u8).C w A l.length (byN l)) :
    Calls Tryz.prog 53 #[.slice A l.length c] w fun e w' => (∃ A' c', e = .returned (.slice A' l.length c') ∧ l.length ≤ c' ∧ ∃ Fb, DatF w' Fb A' l ∧ ∀ k, Fb k → IsC w' k ∧ w.heap.size ≤ k) ∧ Below w.heap.size w w' := by
  cases A with
  | none =>
    have h0 : l = [] := by
      rcases Nat.eq_zero_or_pos l.length with h | h
      · exact List.length_eq_zero_iff.1 h
      · obtain ⟨ad, e, _⟩ := hC.2.2 h
        cases e
    subst h0
    refine (Any.bytes_Clone_nil Tryz.bcloneL _ _ w).mono fun e w' ⟨he, hw⟩ => ?_
    subst hw
    exact ⟨⟨none, 0, he, Nat.le_refl _, fun _ => False, fun _ _ => Kd.C_nil _ _, fun k hk => hk.elim⟩, Below.refl _ _⟩
  | some ad =>
    refine (Any.bytes_Clone_at Tryz.bcloneL ad l.length c (byN l) w (byN_length l) (by omega) (fun i hi => ?_)).mono fun e w' ⟨v', he, ho, _, hb⟩ => ?_
    · obtain ⟨ad', e, hcell⟩ := Kd.at_int hC (i : Int) (by omega) (by omega)
      injection e with e
      subst e
      rw [Int.toNat_natCast] at hcell
      exact hcell
    · obtain ⟨A', c', rfl, hle, hR⟩ := own_reads_of_le (enc := Value.int .u8) (d := (0 : Int)) ho
      refine ⟨⟨A', c', he, hle, fun k => (Value.slice A' l.length c').ownBlock = some k, fun w2 hk => ?_, fun k hk => ⟨?_, own_base ho k hk⟩⟩, hb⟩
      rotate_left
      · obtain ⟨cells, hc⟩ := own_typed ho k hk
        exact ⟨_, _, _, hc⟩
      obtain ⟨A2, c2, e2, _, hR2⟩ := own_reads_of_le (enc := Value.int .u8) (d := (0 : Int)) (own_move ho (fun k hk' => hk k hk'))
      injection e2 with e3 _ _
      subst e3
      exact Kd.C_of_reads (h1 := fun _ => rfl) hR2
end Go.Proofs.YtjbjcfnbgcloiaaGreatDoor
