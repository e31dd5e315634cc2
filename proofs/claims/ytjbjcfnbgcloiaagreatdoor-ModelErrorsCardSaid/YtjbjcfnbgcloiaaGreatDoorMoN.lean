/- Erase of package model. -/
import Derived.Test.YtjbjcfnbgcloiaaGreatDoorMoM
namespace Go.Proofs.YtjbjcfnbgcloiaaGreatDoor
open Go.RowKit Nam YtjbjcfnbgcloiaaGreatDoorW.PrintWords

def St.eraL (S : St) (b k : List UInt8) (id : Int) : List Kp := (S.V b k).take (idxK id (S.V b k)).toNat ++ (S.V b k).drop ((idxK id (S.V b k)).toNat + 1)
def St.doEra (S : St) (b k : List UInt8) (id : Int) : St := if S.findE b k id 1 = 0 then S.put b k (S.eraL b k id) else S
def EraIs (S : St) (n : Nat) (Q F : Nat → Prop) (g : Nat) (b k : List UInt8) (id : Int) (w : World) (e : Ending) (w' : World) : Prop :=
  e = .returned (.int .i64 (S.findE b k id 1)) ∧ (∃ F', HasM w' g (S.doEra b k id) (n + 1) Q F' ∧ ∀ j, F' j → F j ∨ w.heap.size ≤ j) ∧ Moved Q w w'

/-- The end of a call that has taken a version away. -/
theorem era_fin {w w5 : World} {g n mb ib g3 n1 cap3 i base : Nat} {S : St} {Q F : Nat → Prop} {D D2 : DataW Unit} {b k : List UInt8} {id : Int} {l : List Kp} {news : List Value} (hm : HasM w g S n Q F) (hB : b ∈ S.B) (hO : Outer w g S n Q F mb D)
    (hat : D.atKey (.string b) .nil = .lit (.int .i64 ib)) (hqi : Q ib) (hne : ib ≠ mb) (hin : w.ownsMap Tryz.prog 9 R2 ib n D2) (hv2 : ∀ s, ∃ v ps, R2 v = some (D2.atKey (.string s) .nil, ps) ∧ RowV w F v (S.V b s)) (hl : S.V b k = l) (hE : S.findE b k id 1 = 0)
    (hi : idxK id l = (i : Int)) (hil : i < l.length) (hn1 : n1 + 1 = l.length) (hr : Reps (KpF w F) 5 l news) (hbase : w.heap.size ≤ base)
    (hown : w5.ownsMap Tryz.prog 9 R2 ib (n + 1) (D2.put (.string k) (.agg [.lit (.int .i64 g3), .lit (.int .i64 n1), .lit (.int .i64 cap3)]))) (hmv : Moved (fun j => j = ib) w w5)
    (hrow : w5.ownsRow base 67 5 (.slice (some ⟨g3, 0, none⟩) n1 cap3) n1 (news.take (i * 5) ++ news.drop ((i + 1) * 5))) :
    EraIs S n Q F g b k id w (.returned (.int .i64 0)) w5 := by
  have hck : FKept F w w5 := hmv.cells (fun j hj => by subst hj; exact hm.q j hqi) hm.f
  have hg3 : base ≤ g3 := own_base hrow g3 rfl
  have hreps : Reps (KpF w5 (fun j => F j ∨ j = g3)) 5 (l.take i ++ l.drop (i + 1)) (news.take (i * 5) ++ news.drop ((i + 1) * 5)) :=
    reps_mono (reps_kept (open Kd in reps_append (reps_take hr (by omega)) (reps_drop hr)) hck) (fun j hj => .inl hj)
  have hlen : (l.take i ++ l.drop (i + 1)).length = n1 := by rw [List.length_append, List.length_take, List.length_drop]; omega
  have hRV := rowV_of_own hrow hreps hlen (fun j hj => by simp [Value.ownBlock] at hj; exact .inr hj.symm)
  have hs := stored hm.q hm.f (F' := fun j => F j ∨ j = g3) (fun j hj => .inl hj) (fun j hj => by
      rcases hj with hj | rfl
      · obtain ⟨a, b, c, e⟩ := hm.f j hj
        exact ⟨a, b, c, (hck j hj).trans e⟩
      · obtain ⟨cells, hc⟩ := own_typed hrow j rfl
        exact ⟨_, _, _, hc⟩) hm.nd hm.off hO hB hat hqi hne hin hv2 (v := .slice (some ⟨g3, 0, none⟩) n1 cap3) rfl hown hmv hRV
  unfold EraIs St.doEra St.eraL
  rw [hE, if_pos rfl, hl, hi, Int.toNat_natCast]
  exact ⟨rfl, ⟨_, hs.1, fun j hj => by rcases hj with hj | rfl; exact .inl hj; exact .inr (by omega)⟩, hs.2⟩

set_option maxHeartbeats 4000000 in
set_option maxRecDepth 100000 in
theorem erase_is (w : World) (g : Nat) (S : St) (n : Nat) (Q F : Nat → Prop) (b k : List UInt8) (id : Int) (hb : b.length ≤ 100000) (hk : k.length ≤ 100000) (hl : (S.V b k).length ≤ 1000) (hn : n ≤ 100000) (hm : HasM w g S n Q F) (hT : Tabs w) :
    Calls Tryz.prog 35 #[.pointer (some ⟨g, 0, none⟩), .string (mkS b), .string (mkS k), .int .i64 id] w (EraIs S n Q F g b k id w) := by
  have HM := Lib.hid hm
  have hfe := find_is w g S n Q F b k id 1 hb hk (by omega) hm hT
  by_cases hf : S.findE b k id 1 = 0
  rotate_left
  · obtain ⟨er, her⟩ : ∃ er, S.findE b k id 1 = er := ⟨_, rfl⟩
    have HS : Hid (S.doEra b k id = S) := by show _ = _; unfold St.doEra; rw [if_neg hf]
    have HR := Lib.hid her
    rw [her] at hf
    have HFE : Hid (Calls Tryz.prog 55 #[.pointer (some ⟨g, 0, none⟩), .string (mkS b), .string (mkS k), .int .i64 id, .int .i64 1] w fun e w' => e = .returned (.tuple #[.agg #[.int .i64 0, .bool false, .int .i64 0, .int .u32 0, .slice none 0 0], .int .i64 0, .int .i64 er]) ∧ Below w.heap.size w w') := hfe.mono fun e w' h => by
      refine ⟨?_, h.2⟩
      rcases h.1 with ⟨_, he⟩ | ⟨h0, _⟩
      · rw [he, her]
      · exact absurd (her.symm.trans h0) hf
    have de : (er == 0) = false := by simp [hf]
    clear hfe her hm hT
    go_enter Tryz.func35, Tryz.ntmps35
    go_wp2_with (first | (go_at_call 55; refine HFE.out.mono ?_; rintro e w3 ⟨rfl, hb3⟩; have HB3 := Lib.hid hb3; clear hb3) | (refine wpList_store_row rfl 67 (.tmp 9) (.tmp 18) rfl w3.heap.size #[.int .i64 0, .bool false, .int .i64 0, .int .u32 0, .slice none 0 0] rfl rfl 67 _ (heap_alloc_new w3 _) (by kernel_rfl) rfl (by simp [Value.oneCell']) ?_))
    go_ret
    have hbx := below_setRow (HB3.out.alloc HB3.out.size (.cells #[.int .i64 0, .bool false, .int .i64 0, .int .u32 0, .slice none 0 0] 67)) HB3.out.size #[.int .i64 0, .bool false, .int .i64 0, .int .u32 0, .slice none 0 0]
    exact ⟨by rw [HR.out]; rfl, ⟨F, by rw [HS.out]; exact (HM.out.below hbx).mono (by omega), fun j hj => .inl hj⟩, Moved.of_below hbx⟩
  · obtain ⟨hB, hn0, _⟩ := find_in hf
    obtain ⟨mb, D, hO⟩ := hm.ex
    obtain ⟨ib, hat, hqi, hne, D2, hin, hv2⟩ := hO.at_ b hB
    obtain ⟨v, ps, hv, hrow⟩ := hv2 k
    obtain ⟨l, hlL⟩ : ∃ l, S.V b k = l := ⟨_, rfl⟩
    rw [hlL] at hrow hn0 hl
    obtain ⟨i, hidx, hil⟩ : ∃ i : Nat, idxK id l = (i : Int) ∧ i < l.length := by
      rcases idxK_lt (id := id) (l := l) with h | h
      · unfold St.findE at hf
        have := find_in (S := S) (b := b) (k := k) (id := id) (least := 1) hf
        exact absurd hf (by rw [if_neg (by rw [this.2.2]; simp)]; by_cases h2 : id < 1; · rw [if_pos h2]; decide
                            · rw [if_neg h2, if_neg (fun h => h this.1), if_neg this.2.1, hlL, if_pos h]; decide)
      · exact h
    obtain ⟨A2, c2, hve, hlc⟩ := hrow.slice
    obtain ⟨m, hmL⟩ : ∃ m, l.length = m := ⟨_, rfl⟩
    rw [hmL] at hve hlc
    subst hve
    obtain ⟨news, hna, hrn⟩ := hrow
    rw [hmL] at hna
    have HFE : Hid (Calls Tryz.prog 55 #[.pointer (some ⟨g, 0, none⟩), .string (mkS b), .string (mkS k), .int .i64 id, .int .i64 1] w fun e w' => (∃ (y : Kp) (A : Option Addr) (c : Nat), e = .returned (.tuple #[.agg #[.int .i64 y.id, .bool y.mark, .int .i64 y.sz, .int .u32 y.sum, .slice A y.dt.length c], .int .i64 (i : Int), .int .i64 0])) ∧ Below w.heap.size w w') := hfe.mono fun e w' h => by
      refine ⟨?_, h.2⟩
      rcases h.1 with ⟨h0, _⟩ | ⟨_, i', y, A, c, hi', _, _, _, _, he⟩
      · exact absurd hf h0
      · rw [hlL, hidx] at hi'
        have : i = i' := by omega
        subst this
        exact ⟨y, A, c, he⟩
    have HSf : Hid (∀ V, Below w.heap.size w V → V.cell? ⟨g, 0, none⟩ = some (.map (some mb)) ∧ (Instr.lookup 57 (.map (some mb)) (.string (mkS b)) false).run Tryz.prog V = .ok (.map (some ib)) V ∧ (Instr.lookup 63 (.map (some ib)) (.string (mkS k)) false).run Tryz.prog V = .ok (.slice A2 m c2) V) := fun V hV => by
      have hO' := hO.below hm.q hm.f hV
      have hin' := ownsMap_kept hin (hV.block ib (isM_lt (hm.q ib hqi)))
      exact ⟨(blk_cell hO'.c 0).trans rfl, look1' hO' (by unfold maxLen; omega) hat, look2' hin' (by unfold maxLen; omega) hv⟩
    have hnl : news.length = m * 5 := by rw [hrn.1, hmL]
    obtain ⟨n1, hn1⟩ : ∃ n1, n1 + 1 = m := ⟨m - 1, by omega⟩
    have HCl : Hid (∀ W4 V, Below w.heap.size w W4 → Below W4.heap.size W4 V → Calls Tryz.prog 21 #[.slice A2 m c2] V fun e w' => (∃ g3 cap3, e = .returned (.slice (some ⟨g3, 0, none⟩) m cap3) ∧ Hid (w'.ownsRow W4.heap.size 67 5 (.slice (some ⟨g3, 0, none⟩) m cap3) m news)) ∧ Below W4.heap.size W4 w') := fun W4 V h4 hV =>
      (kclone_at V F _ news m (by omega) hnl (reps_ones hrn) (hna.kept ((below_cells h4 hm.f).trans (below_cells hV (hm.below h4).f)))).mono fun e w' ⟨⟨v', he, ho⟩, hb⟩ => by
        refine ⟨?_, hV.trans (hb.mono hV.size)⟩
        have ho' := own_weaken ho hV.size
        rcases ho'.2 with ⟨_, h0⟩ | ⟨g3, cap3, cur, h0, _⟩
        · omega
        · subst h0
          exact ⟨g3, cap3, he, ho'⟩
    have HDe : Hid (∀ W4 V g3 cap3, Below W4.heap.size W4 V → V.ownsRow W4.heap.size 67 5 (.slice (some ⟨g3, 0, none⟩) m cap3) m news → Calls Tryz.prog 61 #[.slice (some ⟨g3, 0, none⟩) m cap3, .int .i64 (i : Int), .int .i64 ((i + 1 : Nat) : Int)] V fun e w' => e = .returned (.slice (some ⟨g3, 0, none⟩) n1 cap3) ∧ Hid (w'.ownsRow W4.heap.size 67 5 (.slice (some ⟨g3, 0, none⟩) n1 cap3) n1 (news.take (i * 5) ++ news.drop ((i + 1) * 5))) ∧ Below W4.heap.size W4 w') := fun W4 V g3 cap3 hV ho =>
      (kdel_is V W4.heap.size g3 m cap3 i (i + 1) (m - (i + 1)) news ho rfl (by omega) (by omega) (reps_ones hrn)).mono fun e w' ⟨he, h2, h3⟩ => by
        rw [show i + (m - (i + 1)) = n1 by omega] at he h2
        exact ⟨he, h2, hV.grown h3 hV.size (fun j hj => own_base ho j hj)⟩
    have HUp : Hid (∀ (W4 W6 : World) (g3 cap3 : Nat), Below w.heap.size w W4 → Below W4.heap.size W4 W6 → W6.ownsRow W4.heap.size 67 5 (.slice (some ⟨g3, 0, none⟩) n1 cap3) n1 (news.take (i * 5) ++ news.drop ((i + 1) * 5)) → ∃ w7, (Instr.mapUpdate 63 (.map (some ib)) (.string (mkS k)) (.slice (some ⟨g3, 0, none⟩) n1 cap3)).run Tryz.prog W6 = .ok () w7 ∧ Hid (EraIs S n Q F g b k id w (.returned (.int .i64 0)) w7)) := fun W4 W6 g3 cap3 h4 h6 ho => by
      have h46 := h4.trans (h6.mono h4.size)
      have hib := isM_lt (hm.q ib hqi)
      obtain ⟨w7, h1, h2, h3⟩ := (ownsMap_kept hin (h46.block ib hib)).update KS Tryz.underlying63 (by unfold maxLen; omega) (key_str k (by unfold maxLen; omega)) (show R2 (.slice (some ⟨g3, 0, none⟩) n1 cap3) = some (.agg [.lit (.int .i64 g3), .lit (.int .i64 n1), .lit (.int .i64 cap3)], []) from rfl)
      have hmv : Moved (fun j => j = ib) w w7 := (Moved.of_below h46).trans (Moved.of_grown h3 (Q := fun j => j = ib) rfl) (fun i hi => .inl hi)
      refine ⟨w7, h1, era_fin hm hB hO hat hqi hne hin hv2 hlL hf hidx (by omega) (by omega) hrn h4.size h2 hmv (own_other ho h3 (.inr ?_))⟩
      have hg3 := own_base ho g3 rfl
      have := h4.size
      simp only [Value.ownBlock]
      intro e
      injection e with e
      omega
    have wi : IntKind.i64.wrap ((i : Int) + 1) = ((i + 1 : Nat) : Int) := by rw [IntWalk.i64_in _ (by omega)]; omega
    have hrcl : (S.findE b k id 1 = 0) := hf
    have HR := Lib.hid hrcl
    clear hrcl hfe hf hB hn0 hO hat hqi hne hin hv2 hv hlL hidx hil hlc hna hrn hnl hn1 hmL hm hT hl
    go_enter Tryz.func35, Tryz.ntmps35
    go_wp2_with (first | (go_at_call 55; refine HFE.out.mono ?_; rintro e w3 ⟨⟨y, A, c, rfl⟩, hb3⟩; obtain ⟨W4, hW4⟩ : ∃ W4, w3.alloc (.cells #[.int .i64 y.id, .bool y.mark, .int .i64 y.sz, .int .u32 y.sum, .slice A y.dt.length c] 67) = W4 := ⟨_, rfl⟩; have hb4 : Below w.heap.size w W4 := (by rw [← hW4]; exact hb3.alloc hb3.size _); clear hb3) | fail)
    clear hW4
    have hB0 : Below W4.heap.size W4 W4.drew := (Below.refl _ _).drew
    obtain ⟨q0, q1, q2⟩ := HSf.out _ hb4
    obtain ⟨d0, d1, d2⟩ := HSf.out W4.drew (hb4.trans (hB0.mono hb4.size))
    go_region_with (first | (go_at_call 21; refine (HCl.out _ _ hb4 hB0).mono ?_; rintro e w5 ⟨⟨g3, cap3, rfl, HOW⟩, hb5⟩; obtain ⟨r0, r1, r2⟩ := HSf.out _ (hb4.trans (hb5.mono hb4.size))) | (go_at_call 61; refine (HDe.out _ _ _ _ hb5 HOW.out).mono ?_; rintro e w6 ⟨rfl, HOW6, hb6⟩; obtain ⟨s0, s1, s2⟩ := HSf.out _ (hb4.trans (hb6.mono hb4.size)); obtain ⟨w7, hrun7, HE7⟩ := HUp.out _ _ _ _ hb4 hb6 HOW6.out))
    all_goals
      clear hrun7 q0 q1 q2 d0 d1 d2 r0 r1 r2 s0 s1 s2 hb5 hb6 hB0 hb4
      go_wp2_with fail
      go_ret
      exact HE7.out
end Go.Proofs.YtjbjcfnbgcloiaaGreatDoor
