/- The library's stable sort over rows of k cells: blocks of twenty, then merges. -/
import Derived.Test.YtgaejaadjmcckaaSrtN
import Derived.Test.YtgaejaadjmcckaaSrtB
namespace Go.Proofs.Ytgaejaadjmcckaa
open Go.Shelf Go.RowKit Go.Lib Go.Sort Srt

section
variable {P : Program} {k : Nat} {α : Type} [Inhabited α] {enc : α → List Value} {w0 W : World} {blk off : Nat} {d0 dk : Array α}

set_option maxHeartbeats 8000000 in
set_option maxRecDepth 100000 in
theorem stable_is (L : Stb P k) (R : RowK enc k w0 blk off d0) (cf : α → α → Int) (g : Nat) (cb : Array Value) (eg : ∀ args w, (callFunc g args).run P w = .ok (.enter g args) w) (hC : CmpLays P g cb enc k cf blk off d0.size w0) (hS : SWO (ltOf cf))
    (hsz : d0.size < 1152921504606846976) (cap : Nat) (eI : ∀ args w, (callFunc 38 args).run P w = .ok (.enter 38 args) w)
    (hI : ∀ (a b : Nat) (d : Array α) (W : World), SWK enc k w0 blk off d W → d.size = d0.size → a ≤ b → b ≤ d0.size → Calls P 38 #[.slice (some ⟨blk, off, none⟩) d0.size cap, .int .i64 a, .int .i64 b, .func (.func g) #[] cb] W fun e w' => e = .returned (.tuple #[]) ∧
      ∃ d' : Array α, SWK enc k w0 blk off d' w' ∧ d'.size = d0.size ∧ PermIn a b d d' ∧ SortedIn (ltOf cf) a b d')
    (h : SWK enc k w0 blk off dk W) (hs : dk.size = d0.size) :
    Calls P 34 #[.slice (some ⟨blk, off, none⟩) d0.size cap, .int .i64 d0.size, .func (.func g) #[] cb] W fun e w' => e = .returned (.tuple #[]) ∧
      ∃ d' : Array α, SWK enc k w0 blk off d' w' ∧ d'.size = d0.size ∧ PermIn 0 d0.size dk d' ∧ SortedIn (ltOf cf) 0 d0.size d' := by
  have mixed := L.mixed; have t0 := L.t0; have a0 := L.a0; have z0 := L.z0; have v0 := L.v0; have t3 := L.t3; have a3 := L.a3; have z3 := L.z3; have v3 := L.v3; have t4 := L.t4; have a4 := L.a4; have z4 := L.z4; have v4 := L.v4; have t41 := L.t41; have a41 := L.a41; have z41 := L.z41; have v41 := L.v41; have t75 := L.t75; have a75 := L.a75; have z75 := L.z75; have v75 := L.v75; have t68 := L.t68; have a68 := L.a68; have z68 := L.z68; have v68 := L.v68; have aE := L.aE; have zE := L.zE; have u41 := run_underlying L.t41
  have eM : ∀ args w, (callFunc 39 args).run P w = .ok (.enter 39 args) w := enters_of L.fM (by kernel_rfl) rfl
  have HI := Lib.hid hI; clear hI
  have HM : Hid (∀ (a m b : Nat) (d : Array α) (W : World), SWK enc k w0 blk off d W → d.size = d0.size → a < m → m < b → b ≤ d0.size → SortedIn (ltOf cf) a m d → SortedIn (ltOf cf) m b d →
    Calls P 39 #[.slice (some ⟨blk, off, none⟩) d0.size cap, .int .i64 a, .int .i64 m, .int .i64 b, .func (.func g) #[] cb] W fun e w' => e = .returned (.tuple #[]) ∧
      ∃ d' : Array α, SWK enc k w0 blk off d' w' ∧ d'.size = d0.size ∧ PermIn a b d d' ∧ SortedIn (ltOf cf) a b d') := fun a m b d W => merge_is L R cf g cb eg hC hS (by omega) cap (b - a) a m b d W (Nat.le_refl _)
  have HS0 := Lib.hid h; clear h
  clear hC hS R eg
  go_enter L.fT, Try.ntmps34
  clear L
  obtain ⟨n, hn⟩ : ∃ n, d0.size = n := ⟨_, rfl⟩
  rw [hn] at hs hsz HI HM ⊢
  clear hn
  go_wp2_with fail
  go_loopw [7, 8] (fun v1 v2 wr => ∃ (j a : Nat) (d : Array α), Hid (a = j * 20) ∧ v1 = .int .i64 (a : Int) ∧ v2 = .int .i64 ((a : Int) + 20) ∧ a ≤ n ∧ Hid (SWK enc k w0 blk off d wr) ∧ d.size = n ∧ Hid (RunsTo (ltOf cf) 20 a d) ∧ Hid (PermIn 0 n dk d)) (fun v1 _ _ => n - (intOf v1).toNat)
  case atStart => exact ⟨0, 0, dk, rfl, rfl, rfl, Nat.zero_le _, HS0, hs, runsTo_zero 20 (by omega) dk, permIn_refl _ _ _⟩
  case round =>
    rename_i wr
    clear HS0
    obtain ⟨j, a, d, HA, rfl, rfl, han, HS, hds, HT, HP⟩ := hrel
    by_cases hp : a + 20 ≤ n
    · as_aux_lemma =>
        have hpz : (a : Int) + 20 ≤ (n : Int) := by omega
        have c := HI.out a (a + 20) d _ HS.out hds (by omega) hp
        rw [show ((a + 20 : Nat) : Int) = (a : Int) + 20 from by omega] at c
        have C := Lib.hid c; clear c
        have e1 : IntKind.i64.wrap ((a : Int) + 20 + 20) = (a : Int) + 20 + 20 := IntWalk.i64_in _ (by omega)
        go_wp2_with (go_at_fn 38; refine C.out.mono ?_; rintro e w' ⟨rfl, d', hS', hz', hp', hd'⟩)
        have HT' : Hid (RunsTo (ltOf cf) 20 (a + 20) d') := by
          show RunsTo _ _ _ _
          have h1 := HT.out
          rw [HA.out] at h1 hp' hd' ⊢
          exact runsTo_step (by omega) h1 hp' hd'
        have HP' : Hid (PermIn 0 n dk d') := permIn_trans _ _ _ _ _ HP.out (permIn_mono _ _ a (a + 20) 0 n (Nat.zero_le _) hp (by omega) hp')
        clear hp' hd'
        go_roundw
        case rel => exact ⟨j + 1, a + 20, d', (show a + 20 = (j + 1) * 20 by rw [HA.out]; omega), by go_num, by go_num, hp, hS', hz', HT', HP'⟩
        case measure => simp [intOf]; omega
    · have hpz : (n : Int) < (a : Int) + 20 := by omega
      have c := HI.out a n d _ HS.out hds han (Nat.le_refl _)
      have C := Lib.hid c; clear c
      go_wp2_with (go_at_fn 38; refine C.out.mono ?_; rintro e w' ⟨rfl, d1, hS1, hz1, hp1, hd1⟩)
      have HR1 : Hid (Runs (ltOf cf) 20 n 0 d1) := by
        show Runs _ _ _ _ _
        have h1 := HT.out
        have h2 := HA.out
        rw [h2] at h1 hp1 hd1
        exact runs_of h1 (by omega) (by omega) hp1 hd1
      have HP1 : Hid (PermIn 0 n dk d1) := permIn_trans _ _ _ _ _ HP.out (permIn_mono _ _ a n 0 n (Nat.zero_le _) (Nat.le_refl _) (by omega) hp1)
      have HS1 := Lib.hid hS1
      clear hp1 hd1 HT HP HS hds hS1 hpz C
      go_loopw [6] (fun v wr => ∃ (s : Nat) (d : Array α), v = .int .i64 (s : Int) ∧ 0 < s ∧ s ≤ 2 * n + 20 ∧ Hid (SWK enc k w0 blk off d wr) ∧ d.size = n ∧ Hid (Runs (ltOf cf) s n 0 d) ∧ Hid (PermIn 0 n dk d)) (fun v _ => n - (intOf v).toNat)
      case atStart => exact ⟨20, d1, rfl, by omega, by omega, HS1, hz1, HR1, HP1⟩
      case round =>
        rename_i wq
        clear HS1 HR1 HP1 hz1
        obtain ⟨s, d2, rfl, hs0, hsn, HS2, hz2, HR2, HP2⟩ := hrel
        by_cases hq : s < n
        · have hqz : (s : Int) < (n : Int) := by omega
          have e1 : IntKind.i64.wrap (2 * (s : Int)) = 2 * (s : Int) := IntWalk.i64_in _ (by omega)
          have e2 : IntKind.i64.wrap ((s : Int) * 2) = (s : Int) * 2 := IntWalk.i64_in _ (by omega)
          go_wp2_with fail
          go_loopw [7, 8] (fun v1 v2 wr => ∃ (j a : Nat) (d : Array α), Hid (a = j * (2 * s)) ∧ v1 = .int .i64 (a : Int) ∧ v2 = .int .i64 ((a : Int) + 2 * (s : Int)) ∧ a ≤ n ∧ Hid (SWK enc k w0 blk off d wr) ∧ d.size = n ∧ Hid (RunsTo (ltOf cf) (2 * s) a d) ∧ Hid (Runs (ltOf cf) s n a d) ∧ Hid (PermIn 0 n dk d)) (fun v1 _ _ => n - (intOf v1).toNat)
          case atStart => exact ⟨0, 0, d2, (by show 0 = 0 * (2 * s); rw [Nat.zero_mul]), rfl, congrArg (Value.int .i64) (by omega), Nat.zero_le _, HS2, hz2, runsTo_zero _ (by omega) d2, runs_mono HR2.out, HP2⟩
          case round =>
            rename_i wi
            clear HS2 HR2 HP2 hz2
            clear d2
            obtain ⟨j, a, d, HA, rfl, rfl, han, HS, hds, HT, HR, HP⟩ := hrel
            have e3 : IntKind.i64.wrap ((a : Int) + (s : Int)) = (a : Int) + (s : Int) := IntWalk.i64_in _ (by omega)
            by_cases hi : a + 2 * s ≤ n
            · as_aux_lemma =>
                have hiz : (a : Int) + 2 * (s : Int) ≤ (n : Int) := by omega
                have q1 : SortedIn (ltOf cf) a (a + s) d := by
                  have h1 := HR.out
                  rw [HA.out] at h1 ⊢
                  exact runs_left h1 (by rw [← HA.out]; omega)
                have q2 : SortedIn (ltOf cf) (a + s) (a + 2 * s) d := by
                  have h1 := HR.out
                  rw [HA.out] at h1
                  have h2 := runs_right h1
                  rw [← HA.out, Nat.min_eq_left (by omega)] at h2
                  rwa [show a + 2 * s = a + s + s by omega]
                have c := HM.out a (a + s) (a + 2 * s) d _ HS.out hds (by omega) (by omega) hi q1 q2
                rw [show ((a + s : Nat) : Int) = (a : Int) + (s : Int) from by omega, show ((a + 2 * s : Nat) : Int) = (a : Int) + 2 * (s : Int) from by omega] at c
                have C := Lib.hid c; clear c q1 q2
                have e4 : IntKind.i64.wrap ((a : Int) + 2 * (s : Int) + 2 * (s : Int)) = (a : Int) + 2 * (s : Int) + 2 * (s : Int) := IntWalk.i64_in _ (by omega)
                go_wp2_with (go_at_fn 39; refine C.out.mono ?_; rintro e w' ⟨rfl, d', hS', hz', hp', hd'⟩)
                have HT' : Hid (RunsTo (ltOf cf) (2 * s) (a + 2 * s) d') := by
                  show RunsTo _ _ _ _
                  have h1 := HT.out
                  rw [HA.out] at h1 hp' hd' ⊢
                  exact runsTo_step (by omega) h1 hp' hd'
                have HR' : Hid (Runs (ltOf cf) s n (a + 2 * s) d') := runs_rest HR.out (by omega) hp'
                have HP' : Hid (PermIn 0 n dk d') := permIn_trans _ _ _ _ _ HP.out (permIn_mono _ _ a (a + 2 * s) 0 n (Nat.zero_le _) hi (by omega) hp')
                clear hp' hd'
                go_roundw
                case rel => exact ⟨j + 1, a + 2 * s, d', (show a + 2 * s = (j + 1) * (2 * s) by rw [HA.out, Nat.add_mul j 1 (2 * s), Nat.one_mul]), congrArg (Value.int .i64) (by omega), congrArg (Value.int .i64) (by omega), hi, hS', hz', HT', HR', HP'⟩
                case measure => simp [intOf]; omega
            · have hiz : (n : Int) < (a : Int) + 2 * (s : Int) := by omega
              by_cases hm : a + s < n
              · as_aux_lemma =>
                  have hmz : (a : Int) + (s : Int) < (n : Int) := by omega
                  have q1 : SortedIn (ltOf cf) a (a + s) d := by
                    have h1 := HR.out
                    rw [HA.out] at h1 ⊢
                    exact runs_left h1 (by rw [← HA.out]; omega)
                  have q2 : SortedIn (ltOf cf) (a + s) n d := by
                    have h1 := HR.out
                    rw [HA.out] at h1
                    have h2 := runs_right h1
                    rwa [← HA.out, Nat.min_eq_right (by omega)] at h2
                  have c := HM.out a (a + s) n d _ HS.out hds (by omega) hm (Nat.le_refl _) q1 q2
                  rw [show ((a + s : Nat) : Int) = (a : Int) + (s : Int) from by omega] at c
                  have C := Lib.hid c; clear c q1 q2
                  go_wp2_with (go_at_fn 39; refine C.out.mono ?_; rintro e w' ⟨rfl, d', hS', hz', hp', hd'⟩)
                  have HR' : Hid (Runs (ltOf cf) (2 * s) n 0 d') := by
                    show Runs _ _ _ _ _
                    have h1 := HT.out
                    have h2 := HA.out
                    rw [h2] at h1 hp' hd'
                    exact runs_of h1 (by omega) (by omega) hp' hd'
                  have HP' : Hid (PermIn 0 n dk d') := permIn_trans _ _ _ _ _ HP.out (permIn_mono _ _ a n 0 n (Nat.zero_le _) (Nat.le_refl _) (by omega) hp')
                  clear hp' hd'
                  go_roundw
                  case rel => exact ⟨2 * s, d', congrArg (Value.int .i64) (by omega), by omega, by omega, hS', hz', HR', HP'⟩
                  case measure => simp [intOf]; omega
              · as_aux_lemma =>
                  have hmz : (n : Int) ≤ (a : Int) + (s : Int) := by omega
                  have HR' : Hid (Runs (ltOf cf) (2 * s) n 0 d) := by
                    show Runs _ _ _ _ _
                    have h1 := HT.out
                    have h2 := HA.out
                    have h3 := HR.out
                    rw [h2] at h1 h3
                    exact runs_of h1 (by omega) (by omega) (permIn_refl _ _ _) (runs_last h3 (by omega))
                  go_wp2_with fail
                  go_roundw
                  case rel => exact ⟨2 * s, d, congrArg (Value.int .i64) (by omega), by omega, by omega, HS, hds, HR', HP⟩
                  case measure => simp [intOf]; omega
        · as_aux_lemma =>
            have hqz : (n : Int) ≤ (s : Int) := by omega
            have hfin := runs_end HR2.out (by omega)
            have HF := Lib.hid hfin; clear hfin
            go_wp2
            go_end0
            exact ⟨rfl, d2, HS2.out, hz2, HP2.out, HF.out⟩
end
end Go.Proofs.Ytgaejaadjmcckaa
