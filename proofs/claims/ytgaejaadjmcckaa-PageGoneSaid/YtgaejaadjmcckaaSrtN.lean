/- The library's stable sort over rows of k cells: the symmetric merge. -/
import Derived.Test.YtgaejaadjmcckaaSrtM
import Derived.Deep.CutRange
namespace Go.Proofs.Ytgaejaadjmcckaa
open Go.Shelf Go.RowKit Go.Lib Go.Sort Srt

section
variable {P : Program} {k : Nat} {α : Type} [Inhabited α] {enc : α → List Value} {w0 : World} {blk off : Nat} {d0 : Array α}

set_option maxHeartbeats 8000000 in
set_option maxRecDepth 100000 in
theorem merge_is (L : Stb P k) (R : RowK enc k w0 blk off d0) (cf : α → α → Int) (g : Nat) (cb : Array Value) (eg : ∀ args w, (callFunc g args).run P w = .ok (.enter g args) w) (hC : CmpLays P g cb enc k cf blk off d0.size w0) (hS : SWO (ltOf cf))
    (hsz : d0.size < 2305843009213693952) (cap : Nat) : ∀ (N a m b : Nat) (dk : Array α) (W : World), b - a ≤ N → SWK enc k w0 blk off dk W → dk.size = d0.size → a < m → m < b → b ≤ d0.size → SortedIn (ltOf cf) a m dk → SortedIn (ltOf cf) m b dk →
    Calls P 39 #[.slice (some ⟨blk, off, none⟩) d0.size cap, .int .i64 a, .int .i64 m, .int .i64 b, .func (.func g) #[] cb] W fun e w' => e = .returned (.tuple #[]) ∧
      ∃ d' : Array α, SWK enc k w0 blk off d' w' ∧ d'.size = d0.size ∧ PermIn a b dk d' ∧ SortedIn (ltOf cf) a b d' := by
  intro N
  induction N with
  | zero => intro a m b dk W hN _ _ ham hmb _ _ _; omega
  | succ N ih =>
  intro a m b dk W hN h hs ham hmb hb h1 h2
  by_cases c1 : m = a + 1
  · subst c1
    have := merge1_is L R cf g cb eg hC hS h hs (by omega) cap a b hmb hb h2
    simpa using this
  by_cases c2 : b = m + 1
  · subst c2
    have := merge2_is L R cf g cb eg hC hS h hs (by omega) cap a m (by omega) hb h1
    simpa using this
  have mixed := L.mixed; have t0 := L.t0; have a0 := L.a0; have z0 := L.z0; have v0 := L.v0; have t3 := L.t3; have a3 := L.a3; have z3 := L.z3; have v3 := L.v3; have t4 := L.t4; have a4 := L.a4; have z4 := L.z4; have v4 := L.v4; have t41 := L.t41; have a41 := L.a41; have z41 := L.z41; have v41 := L.v41; have t75 := L.t75; have a75 := L.a75; have z75 := L.z75; have v75 := L.v75; have t68 := L.t68; have a68 := L.a68; have z68 := L.z68; have v68 := L.v68; have aE := L.aE; have zE := L.zE; have u41 := run_underlying L.t41
  have eR : ∀ args w, (callFunc 41 args).run P w = .ok (.enter 41 args) w := enters_of L.fR (by kernel_rfl) rfl
  have eM : ∀ args w, (callFunc 39 args).run P w = .ok (.enter 39 args) w := enters_of L.fM (by kernel_rfl) rfl
  have HL := Lib.hid L
  have HR := Lib.hid R; clear R
  have HS0 := Lib.hid h; clear h
  have HC := Lib.hid hC; clear hC
  have H1 := Lib.hid h1; clear h1
  have H2 := Lib.hid h2; clear h2
  have HSW := Lib.hid hS; clear hS
  have IH := Lib.hid ih; clear ih
  obtain ⟨mid, hmid⟩ : ∃ mid, mid = (a + b) / 2 := ⟨_, rfl⟩
  obtain ⟨s0, hs0⟩ : ∃ s0, s0 = if mid < m then mid + m - b else a := ⟨_, rfl⟩
  obtain ⟨r0, hr0⟩ : ∃ r0, r0 = if mid < m then mid else m := ⟨_, rfl⟩
  have b0 : a ≤ s0 ∧ s0 ≤ r0 ∧ r0 ≤ m ∧ r0 ≤ mid ∧ mid + m - s0 ≤ b ∧ m < mid + m - r0 + 1 := by
    rw [hs0, hr0]
    split <;> omega
  obtain ⟨b1, b2, b3, b4, b5, b6⟩ := b0
  have hma : a < mid := by omega
  have hmb' : mid < b := by omega
  have HH : ∀ (s : Nat) (d1 : Array α), s0 ≤ s → s ≤ r0 → (∀ x, s0 ≤ x → x < s → ltOf cf dk[mid + m - 1 - x]! dk[x]! = false) → (∀ x, s ≤ x → x < r0 → ltOf cf dk[mid + m - 1 - x]! dk[x]! = true) →
      (∀ x, d1[x]! = rotF s m (mid + m - s) (fun y => dk[y]!) x) → _ := fun s d1 q1 q2 q3 q4 q5 => rot_halves HSW.out a m b mid s s0 r0 dk d1 ham hmb hmid hs0 hr0 q1 q2 H1.out H2.out q3 q4 q5
  have HRH := Lib.hid HH; clear HH
  have MONO : Hid (∀ x y, s0 ≤ x → x ≤ y → y < r0 → (ltOf cf dk[mid + m - 1 - y]! dk[y]! = false → ltOf cf dk[mid + m - 1 - x]! dk[x]! = false) ∧ (ltOf cf dk[mid + m - 1 - x]! dk[x]! = true → ltOf cf dk[mid + m - 1 - y]! dk[y]! = true)) := by
    intro x y hx hxy hy
    by_cases e : x = y
    · subst e; exact ⟨id, id⟩
    have u1 : ltOf cf dk[y]! dk[x]! = false := H1.out x y (by omega) (by omega) (by omega)
    have u2 : ltOf cf dk[mid + m - 1 - x]! dk[mid + m - 1 - y]! = false := H2.out _ _ (by omega) (by omega) (by omega)
    refine ⟨fun h => ?_, fun h => ?_⟩
    · exact HSW.out.ntrans _ _ _ (HSW.out.ntrans _ _ _ u2 h) u1
    · exact lt_of_le_lt HSW.out u2 (lt_of_lt_le HSW.out h u1)
  have g1 : IntKind.i64.wrap ((a : Int) + (b : Int)) = (a : Int) + (b : Int) := IntWalk.i64_in _ (by omega)
  have g2 : IntKind.u64.wrap ((a : Int) + (b : Int)) = (a : Int) + (b : Int) := IntWalk.u64_in _ (by omega)
  have g3 : ((a : Int) + (b : Int)) / 2 = (mid : Int) := by omega
  have g4 : IntKind.i64.wrap (mid : Int) = (mid : Int) := IntWalk.i64_in _ (by omega)
  have g5 : IntKind.u64.wrap (mid : Int) = (mid : Int) := IntWalk.u64_in _ (by omega)
  have g6 : IntKind.i64.wrap ((mid : Int) + (m : Int)) = (mid : Int) + (m : Int) := IntWalk.i64_in _ (by omega)
  have g7 : IntKind.i64.wrap ((m : Int) - (a : Int)) = (m : Int) - (a : Int) := IntWalk.i64_in _ (by omega)
  have g8 : ((m : Int) - (a : Int) == 1) = false := by rw [beq_eq_false_iff_ne]; omega
  have g9 : IntKind.i64.wrap ((b : Int) - (m : Int)) = (b : Int) - (m : Int) := IntWalk.i64_in _ (by omega)
  have g10 : ((b : Int) - (m : Int) == 1) = false := by rw [beq_eq_false_iff_ne]; omega
  have g11 : IntKind.i64.wrap ((mid : Int) + (m : Int) - 1) = (mid : Int) + (m : Int) - 1 := IntWalk.i64_in _ (by omega)
  have g12 : IntKind.i64.wrap ((mid : Int) + (m : Int) - (b : Int)) = (mid : Int) + (m : Int) - (b : Int) := IntWalk.i64_in _ (by omega)
  have E1 : Hid (mid < m → (mid : Int) + (m : Int) - (b : Int) = (s0 : Int) ∧ (mid : Int) = (r0 : Int)) := fun q => by
    rw [hs0, hr0, if_pos q, if_pos q]; omega
  have E2 : Hid (¬ mid < m → (a : Int) = (s0 : Int) ∧ (m : Int) = (r0 : Int)) := fun q => by
    rw [hs0, hr0, if_neg q, if_neg q]; exact ⟨rfl, rfl⟩
  have HMID := Lib.hid hmid; clear hmid
  have Hs0 := Lib.hid hs0; clear hs0
  have Hr0 := Lib.hid hr0; clear hr0
  go_enter L.fM, Try.ntmps39
  clear L
  go_upto_if 140 with (fail)
  go_cut [20, 21] from 25 to 219 (fun v1 v2 wx => v1 = .int .i64 (s0 : Int) ∧ v2 = .int .i64 (r0 : Int) ∧ wx = W)
  case first =>
    as_aux_lemma =>
      by_cases q : mid < m
      · have qz : (mid : Int) < (m : Int) := by omega
        obtain ⟨q1, q2⟩ := E1.out q
        have Q1 := Lib.hid q1; clear q1
        have Q2 := Lib.hid q2; clear q2
        go_wp2_with fail
        go_meet
        case rel => exact ⟨congrArg (Value.int .i64) Q1.out, congrArg (Value.int .i64) Q2.out, rfl⟩
      · have qz : (m : Int) ≤ (mid : Int) := by omega
        obtain ⟨q1, q2⟩ := E2.out q
        have Q1 := Lib.hid q1; clear q1
        have Q2 := Lib.hid q2; clear q2
        go_wp2_with fail
        go_meet
        case rel => exact ⟨congrArg (Value.int .i64) Q1.out, congrArg (Value.int .i64) Q2.out, rfl⟩
  case rest =>
  obtain ⟨rfl, rfl, rfl⟩ := hcut
  clear g1 g2 g3 g4 g5 g6 g7 g8 g9 g10 g12 E1 E2
  go_wp2_with fail
  go_loopw [20, 21] (fun v1 v2 wr => ∃ (s r : Nat), v1 = .int .i64 s ∧ v2 = .int .i64 r ∧ s0 ≤ s ∧ s ≤ r ∧ r ≤ r0 ∧ Hid (SWK enc k w0 blk off dk wr) ∧
      Hid (∀ x, s0 ≤ x → x < s → ltOf cf dk[mid + m - 1 - x]! dk[x]! = false) ∧ Hid (∀ x, r ≤ x → x < r0 → ltOf cf dk[mid + m - 1 - x]! dk[x]! = true)) (fun v1 v2 _ => (intOf v2).toNat - (intOf v1).toNat)
  case atStart => exact ⟨s0, r0, rfl, rfl, Nat.le_refl _, b2, Nat.le_refl _, HS0, fun x h1 h2 => by omega, fun x h1 h2 => by omega⟩
  case round =>
    rename_i wr
    obtain ⟨s, r, rfl, rfl, hs1, hsr, hr1, HS, HLo, HHi⟩ := hrel
    clear HS0
    by_cases hlt : s < r
    · as_aux_lemma =>
        have hltz : (s : Int) < (r : Int) := by omega
        obtain ⟨c, hc⟩ : ∃ c, (s + r) / 2 = c := ⟨_, rfl⟩
        have hci : s ≤ c := by omega
        have hcj : c < r := by omega
        obtain ⟨pc, hpc⟩ : ∃ pc, mid + m - 1 - c = pc := ⟨_, rfl⟩
        have hpc1 : pc < b := by omega
        have g1 : IntKind.i64.wrap ((s : Int) + (r : Int)) = (s : Int) + (r : Int) := IntWalk.i64_in _ (by omega)
        have g2 : IntKind.u64.wrap ((s : Int) + (r : Int)) = (s : Int) + (r : Int) := IntWalk.u64_in _ (by omega)
        have g3 : ((s : Int) + (r : Int)) / 2 = (c : Int) := by omega
        have g4 : IntKind.i64.wrap (c : Int) = (c : Int) := IntWalk.i64_in _ (by omega)
        have g5 : IntKind.u64.wrap (c : Int) = (c : Int) := IntWalk.u64_in _ (by omega)
        have g6 : IntKind.i64.wrap ((c : Int) + 1) = (c : Int) + 1 := IntWalk.i64_in _ (by omega)
        have g7 : IntKind.i64.wrap ((mid : Int) + (m : Int) - 1 - (c : Int)) = (pc : Int) := by rw [IntWalk.i64_in _ (by omega)]; omega
        have r1 : (c : Int) < (d0.size : Int) := by omega
        have r2 : (pc : Int) < (d0.size : Int) := by omega
        obtain ⟨xc, hxc⟩ : ∃ x, dk[c]! = x := ⟨_, rfl⟩
        obtain ⟨xa, hxa⟩ : ∃ x, dk[pc]! = x := ⟨_, rfl⟩
        have lc : ∀ n os, Sem.run P (loadCellsFrom ⟨blk, off + c * k, none⟩ 0 k #[]) (grow (wr.drewN n) os) = .ok (enc xc).toArray (grow (wr.drewN n) os) := fun n os => by rw [← hxc]; exact HS.out.ld HR.out hs P c (by omega) n os
        have la : ∀ n os, Sem.run P (loadCellsFrom ⟨blk, off + pc * k, none⟩ 0 k #[]) (grow (wr.drewN n) os) = .ok (enc xa).toArray (grow (wr.drewN n) os) := fun n os => by rw [← hxa]; exact HS.out.ld HR.out hs P pc (by omega) n os
        have hcg : ∀ n' os', Calls P g (#[.agg (enc xa).toArray, .agg (enc xc).toArray] ++ cb) (grow (wr.drewN n') os') fun e w' => e = .returned (.int .i64 (cf xa xc)) ∧ ∃ q os'', w' = grow ((grow (wr.drewN n') os').drewN q) os'' := fun n' os' => HS.out.cmp HC.out hs xa xc n' os'
        have GR : Hid (∀ n os, SWK enc k w0 blk off dk (grow (wr.drewN n) os)) := fun n os => HS.out.grown n os
        have HC2 := Lib.hid hc; clear hc
        have HPC := Lib.hid hpc; clear hpc
        have HXC := Lib.hid hxc; clear hxc
        have HXA := Lib.hid hxa; clear hxa
        by_cases hlv : cf xa xc < 0
        · have HN : Hid (∀ x, c ≤ x → x < r0 → ltOf cf dk[mid + m - 1 - x]! dk[x]! = true) := by
            intro x h1 h2
            have q : ltOf cf dk[mid + m - 1 - c]! dk[c]! = true := by rw [HPC.out, HXC.out, HXA.out]; exact decide_eq_true hlv
            exact (MONO.out c x (by omega) h1 h2).2 q
          have hbn : (!decide (cf xa xc < 0)) = false := by rw [decide_eq_true hlv]; rfl
          go_wp2_with fail
          go_quiet_grown (first | (go_at_fn g; refine Calls.grown_of (hcg _ _)))
          clear lc la hcg
          go_wp2
          go_roundw
          case rel => exact ⟨s, c, rfl, rfl, by omega, by omega, by omega, GR.out _ _, HLo, HN⟩
          case measure => simp [intOf]; omega
        · have HN : Hid (∀ x, s0 ≤ x → x < c + 1 → ltOf cf dk[mid + m - 1 - x]! dk[x]! = false) := by
            intro x h1 h2
            have q : ltOf cf dk[mid + m - 1 - c]! dk[c]! = false := by rw [HPC.out, HXC.out, HXA.out]; exact decide_eq_false hlv
            exact (MONO.out x c h1 (by omega) (by omega)).1 q
          have hbn : (!decide (cf xa xc < 0)) = true := by rw [decide_eq_false hlv]; rfl
          go_wp2_with fail
          go_quiet_grown (first | (go_at_fn g; refine Calls.grown_of (hcg _ _)))
          clear lc la hcg
          go_wp2
          go_roundw
          case rel => exact ⟨c + 1, r, by go_num, rfl, by omega, by omega, by omega, GR.out _ _, HN, HHi⟩
          case measure => simp [intOf]; omega
    · obtain rfl : s = r := by omega
      have nlt : ¬ ((s : Int) < (s : Int)) := by omega
      obtain ⟨e, he⟩ : ∃ e, mid + m - s = e := ⟨_, rfl⟩
      have hme : m ≤ e := by omega
      have heb : e ≤ b := by omega
      have hmide : mid ≤ e := by omega
      have hsm : s ≤ m := by omega
      have hsmid : s ≤ mid := by omega
      have has : a ≤ s := by omega
      have g7 : IntKind.i64.wrap ((mid : Int) + (m : Int) - (s : Int)) = (e : Int) := by rw [IntWalk.i64_in _ (by omega)]; omega
      have FIN : Hid (∀ d1 : Array α, (∀ x, d1[x]! = rotF s m e (fun y => dk[y]!) x) → SortedIn (ltOf cf) a s d1 ∧ SortedIn (ltOf cf) s mid d1 ∧ SortedIn (ltOf cf) mid e d1 ∧ SortedIn (ltOf cf) e b d1 ∧ (∀ i j, a ≤ i → i < mid → mid ≤ j → j < b → ltOf cf d1[j]! d1[i]! = false)) := by
        intro d1 hd1
        have := HRH.out s d1 hs1 hr1 HLo.out HHi.out (by rw [he]; exact hd1)
        rw [he] at this
        exact this.2.2.2.2.2
      have HE := Lib.hid he; clear he
      clear HLo HHi MONO
      go_upto_region 39 with (fail)
      go_cut [185] from 25 to 219 (fun v wx => v = .bool (decide (s < m) && decide (m < e)) ∧ wx = wr)
      case first =>
        as_aux_lemma =>
          by_cases q1 : s < m
          · have z1 : (s : Int) < (m : Int) := by omega
            by_cases q2 : m < e
            · have z2 : (m : Int) < (e : Int) := by omega
              go_wp2_with fail
              go_meet
              case rel => exact ⟨by rw [decide_eq_true q1, decide_eq_true q2]; rfl, rfl⟩
            · have z2 : (e : Int) ≤ (m : Int) := by omega
              go_wp2_with fail
              go_meet
              case rel => exact ⟨by rw [decide_eq_true q1, decide_eq_false q2]; rfl, rfl⟩
          · have z1 : (m : Int) ≤ (s : Int) := by omega
            go_wp2_with fail
            go_meet
            case rel => exact ⟨by rw [decide_eq_false q1]; rfl, rfl⟩
      case rest =>
      obtain ⟨rfl, rfl⟩ := hcut
      go_upto_if 185 with (fail)
      go_cut [] from 25 to 219 (fun wx => ∃ d1 : Array α, Hid (SWK enc k w0 blk off d1 wx) ∧ d1.size = d0.size ∧ Hid (∀ x, d1[x]! = rotF s m e (fun y => dk[y]!) x) ∧ Hid (PermIn a b dk d1))
      case first =>
        as_aux_lemma =>
          by_cases q : s < m ∧ m < e
          · have qz1 : (s : Int) < (m : Int) := by omega
            have qz2 : (m : Int) < (e : Int) := by omega
            have qb : (decide (s < m) && decide (m < e)) = true := by rw [decide_eq_true q.1, decide_eq_true q.2]; rfl
            have C := Lib.hid (rotate_is HL.out HR.out HS.out hs (by omega) cap s m e g cb q.1 q.2 (by omega))
            go_wp2_with (go_at_fn 41; refine C.out.mono ?_; rintro e w' ⟨rfl, d1, hS1, hz1, hf1, hp1⟩)
            go_meet
            case rel => exact ⟨d1, hS1, hz1, hf1, permIn_mono _ _ _ _ _ _ has heb (by omega) hp1⟩
          · have hrot : Hid (∀ x, dk[x]! = rotF s m e (fun y => dk[y]!) x) := by
              intro x
              by_cases q1 : s = m
              · rw [q1, rot_none]
              · have q2 : e = m := by omega
                rw [q2, rot_none']
            have qb : (decide (s < m) && decide (m < e)) = false := by rw [Bool.and_eq_false_iff]; simp only [decide_eq_false_iff_not]; omega
            go_wp2_with fail
            all_goals first
              | (exfalso; omega)
              | (go_meet
                 case rel => exact ⟨dk, HS, hs, hrot, permIn_refl _ _ _⟩)
      case rest =>
      clear HS
      obtain ⟨d1, HS1, hz1, HF1, HP1⟩ := hcut
      obtain ⟨k1, k2, k3, k4, k5⟩ := FIN.out d1 HF1.out
      have K1 := Lib.hid k1; clear k1
      have K2 := Lib.hid k2; clear k2
      have K3 := Lib.hid k3; clear k3
      have K4 := Lib.hid k4; clear k4
      have K5 := Lib.hid k5; clear k5
      clear FIN HF1
      go_upto_region 41 with (fail)
      go_cut [199] from 25 to 219 (fun v wx => v = .bool (decide (a < s) && decide (s < mid)) ∧ wx = wc)
      case first =>
        as_aux_lemma =>
          by_cases q1 : a < s
          · have z1 : (a : Int) < (s : Int) := by omega
            by_cases q2 : s < mid
            · have z2 : (s : Int) < (mid : Int) := by omega
              go_wp2_with fail
              go_meet
              case rel => exact ⟨by rw [decide_eq_true q1, decide_eq_true q2]; rfl, rfl⟩
            · have z2 : (mid : Int) ≤ (s : Int) := by omega
              go_wp2_with fail
              go_meet
              case rel => exact ⟨by rw [decide_eq_true q1, decide_eq_false q2]; rfl, rfl⟩
          · have z1 : (s : Int) ≤ (a : Int) := by omega
            go_wp2_with fail
            go_meet
            case rel => exact ⟨by rw [decide_eq_false q1]; rfl, rfl⟩
      case rest =>
      obtain ⟨rfl, rfl⟩ := hcut
      go_upto_if 199 with (fail)
      go_cut [] from 25 to 219 (fun wx => ∃ d2 : Array α, Hid (SWK enc k w0 blk off d2 wx) ∧ d2.size = d0.size ∧ Hid (PermIn a mid d1 d2) ∧ Hid (SortedIn (ltOf cf) a mid d2))
      case first =>
        as_aux_lemma =>
          by_cases q : a < s ∧ s < mid
          · have qz1 : (a : Int) < (s : Int) := by omega
            have qz2 : (s : Int) < (mid : Int) := by omega
            have qb : (decide (a < s) && decide (s < mid)) = true := by rw [decide_eq_true q.1, decide_eq_true q.2]; rfl
            have C := Lib.hid (IH.out a s mid d1 _ (by omega) HS1.out hz1 q.1 q.2 (by omega) K1.out K2.out)
            go_wp2_with (go_at_fn 39; refine C.out.mono ?_; rintro e w' ⟨rfl, d2, hS2, hz2, hp2, hs2⟩)
            go_meet
            case rel => exact ⟨d2, hS2, hz2, hp2, hs2⟩
          · have hsrt : Hid (SortedIn (ltOf cf) a mid d1) := by
              show SortedIn _ _ _ _
              by_cases q1 : a = s
              · rw [q1]; exact K2.out
              · have q2 : s = mid := by omega
                rw [← q2]; exact K1.out
            have qb : (decide (a < s) && decide (s < mid)) = false := by rw [Bool.and_eq_false_iff]; simp only [decide_eq_false_iff_not]; omega
            go_wp2_with fail
            all_goals first
              | (exfalso; omega)
              | (go_meet
                 case rel => exact ⟨d1, HS1, hz1, permIn_refl _ _ _, hsrt⟩)
      case rest =>
      clear HS1
      obtain ⟨d2, HS2, hz2, HP2, HD2⟩ := hcut
      have K3' : Hid (SortedIn (ltOf cf) mid e d2) := fun i j h1 h2 h3 => by
        rw [HP2.out.2.1 i (.inr h1), HP2.out.2.1 j (.inr (by omega))]; exact K3.out i j h1 h2 h3
      have K4' : Hid (SortedIn (ltOf cf) e b d2) := fun i j h1 h2 h3 => by
        rw [HP2.out.2.1 i (.inr (by omega)), HP2.out.2.1 j (.inr (by omega))]; exact K4.out i j h1 h2 h3
      have FIN2 : Hid (∀ d3 : Array α, PermIn mid b d2 d3 → SortedIn (ltOf cf) mid b d3 → PermIn a b dk d3 ∧ SortedIn (ltOf cf) a b d3) := by
        intro d3 p3 s3
        have := merge_halves a mid b d1 d2 d3 (by omega) (by omega) (by omega) K5.out HP2.out HD2.out p3 s3
        exact ⟨permIn_trans _ _ _ _ _ HP1.out this.1, this.2⟩
      clear K1 K2 K3 K4 K5
      by_cases q : mid < e ∧ e < b
      · as_aux_lemma =>
          have qz1 : (mid : Int) < (e : Int) := by omega
          have qz2 : (e : Int) < (b : Int) := by omega
          have C := Lib.hid (IH.out mid e b d2 _ (by omega) HS2.out hz2 q.1 q.2 hb K3'.out K4'.out)
          go_wp2_with (go_at_fn 39; refine C.out.mono ?_; rintro e w' ⟨rfl, d3, hS3, hz3, hp3, hs3⟩)
          go_end0
          exact ⟨rfl, d3, hS3, hz3, FIN2.out d3 hp3 hs3⟩
      · have hsrt : Hid (SortedIn (ltOf cf) mid b d2) := by
          show SortedIn _ _ _ _
          by_cases q1 : mid = e
          · rw [q1]; exact K4'.out
          · have q2 : e = b := by omega
            rw [← q2]; exact K3'.out
        go_wp2_with fail
        all_goals first
          | (exfalso; omega)
          | (go_end0
             exact ⟨rfl, d2, HS2.out, hz2, FIN2.out d2 (permIn_refl _ _ _) hsrt.out⟩)
end
end Go.Proofs.Ytgaejaadjmcckaa
