/- The library's stable sort over rows of k cells: the symmetric merge where one side has one element. -/
import Derived.Test.YtgaejaadjmcckaaSrtR
import Derived.Test.YtgaejaadjmcckaaSrtQ
namespace Go.Proofs.Ytgaejaadjmcckaa
open Go.Shelf Go.RowKit Go.Lib Go.Sort Srt

section
variable {P : Program} {k : Nat} {α : Type} [Inhabited α] {enc : α → List Value} {w0 W : World} {blk off : Nat} {d0 dk : Array α}

set_option maxHeartbeats 8000000 in
set_option maxRecDepth 100000 in
theorem merge1_is (L : Stb P k) (R : RowK enc k w0 blk off d0) (cf : α → α → Int) (g : Nat) (cb : Array Value) (eg : ∀ args w, (callFunc g args).run P w = .ok (.enter g args) w) (hC : CmpLays P g cb enc k cf blk off d0.size w0) (hS : SWO (ltOf cf))
    (h : SWK enc k w0 blk off dk W) (hs : dk.size = d0.size) (hsz : d0.size < 4611686018427387904) (cap a b : Nat) (hab : a + 1 < b) (hb : b ≤ d0.size) (h2 : SortedIn (ltOf cf) (a + 1) b dk) :
    Calls P 39 #[.slice (some ⟨blk, off, none⟩) d0.size cap, .int .i64 a, .int .i64 ((a : Int) + 1), .int .i64 b, .func (.func g) #[] cb] W fun e w' => e = .returned (.tuple #[]) ∧
      ∃ d' : Array α, SWK enc k w0 blk off d' w' ∧ d'.size = d0.size ∧ PermIn a b dk d' ∧ SortedIn (ltOf cf) a b d' := by
  have mixed := L.mixed; have t0 := L.t0; have a0 := L.a0; have z0 := L.z0; have v0 := L.v0; have t3 := L.t3; have a3 := L.a3; have z3 := L.z3; have v3 := L.v3; have t4 := L.t4; have a4 := L.a4; have z4 := L.z4; have v4 := L.v4; have t41 := L.t41; have a41 := L.a41; have z41 := L.z41; have v41 := L.v41; have t75 := L.t75; have a75 := L.a75; have z75 := L.z75; have v75 := L.v75; have t68 := L.t68; have a68 := L.a68; have z68 := L.z68; have v68 := L.v68; have aE := L.aE; have zE := L.zE; have u41 := run_underlying L.t41
  have HR := Lib.hid R; clear R
  have HS0 := Lib.hid h; clear h
  have HC := Lib.hid hC; clear hC
  have H2 := Lib.hid h2; clear h2
  have HSW := Lib.hid hS; clear hS
  go_enter L.fM, Try.ntmps39
  have e1 : IntKind.i64.wrap ((a : Int) + 1 - (a : Int)) = 1 := by rw [IntWalk.i64_in _ (by omega)]; omega
  go_wp2_with fail
  clear e1
  go_loopw [10, 11] (fun v1 v2 wr => ∃ (i j : Nat), v1 = .int .i64 i ∧ v2 = .int .i64 j ∧ a + 1 ≤ i ∧ i ≤ j ∧ j ≤ b ∧ Hid (SWK enc k w0 blk off dk wr) ∧
      Hid (∀ x, a + 1 ≤ x → x < i → ltOf cf dk[x]! dk[a]! = true) ∧ Hid (∀ x, j ≤ x → x < b → ltOf cf dk[x]! dk[a]! = false)) (fun v1 v2 _ => (intOf v2).toNat - (intOf v1).toNat)
  case atStart => exact ⟨a + 1, b, by go_num, rfl, Nat.le_refl _, by omega, Nat.le_refl _, HS0, fun x h1 h2 => by omega, fun x h1 h2 => by omega⟩
  case round =>
    rename_i wr
    obtain ⟨i, j, rfl, rfl, hai, hij, hjb, HS, HLo, HHi⟩ := hrel
    by_cases hlt : i < j
    · have hltz : (i : Int) < (j : Int) := by omega
      obtain ⟨c, hc⟩ : ∃ c, (i + j) / 2 = c := ⟨_, rfl⟩
      have hci : i ≤ c := by omega
      have hcj : c < j := by omega
      have g1 : IntKind.i64.wrap ((i : Int) + (j : Int)) = (i : Int) + (j : Int) := IntWalk.i64_in _ (by omega)
      have g2 : IntKind.u64.wrap ((i : Int) + (j : Int)) = (i : Int) + (j : Int) := IntWalk.u64_in _ (by omega)
      have g3 : ((i : Int) + (j : Int)) / 2 = (c : Int) := by omega
      have g4 : IntKind.i64.wrap (c : Int) = (c : Int) := IntWalk.i64_in _ (by omega)
      have g5 : IntKind.u64.wrap (c : Int) = (c : Int) := IntWalk.u64_in _ (by omega)
      have g6 : IntKind.i64.wrap ((c : Int) + 1) = (c : Int) + 1 := IntWalk.i64_in _ (by omega)
      have r1 : (c : Int) < (d0.size : Int) := by omega
      have r2 : (a : Int) < (d0.size : Int) := by omega
      obtain ⟨xc, hxc⟩ : ∃ x, dk[c]! = x := ⟨_, rfl⟩
      obtain ⟨xa, hxa⟩ : ∃ x, dk[a]! = x := ⟨_, rfl⟩
      have lc : ∀ n os, Sem.run P (loadCellsFrom ⟨blk, off + c * k, none⟩ 0 k #[]) (grow (wr.drewN n) os) = .ok (enc xc).toArray (grow (wr.drewN n) os) := fun n os => by rw [← hxc]; exact HS.out.ld HR.out hs P c (by omega) n os
      have la : ∀ n os, Sem.run P (loadCellsFrom ⟨blk, off + a * k, none⟩ 0 k #[]) (grow (wr.drewN n) os) = .ok (enc xa).toArray (grow (wr.drewN n) os) := fun n os => by rw [← hxa]; exact HS.out.ld HR.out hs P a (by omega) n os
      have hcg : ∀ n' os', Calls P g (#[.agg (enc xc).toArray, .agg (enc xa).toArray] ++ cb) (grow (wr.drewN n') os') fun e w' => e = .returned (.int .i64 (cf xc xa)) ∧ ∃ q os'', w' = grow ((grow (wr.drewN n') os').drewN q) os'' := fun n' os' => HS.out.cmp HC.out hs xc xa n' os'
      have GR : Hid (∀ n os, SWK enc k w0 blk off dk (grow (wr.drewN n) os)) := fun n os => HS.out.grown n os
      have HC2 := Lib.hid hc; clear hc
      have HXC := Lib.hid hxc; clear hxc
      have HXA := Lib.hid hxa; clear hxa
      by_cases hlv : cf xc xa < 0
      · have HN : Hid (∀ x, a + 1 ≤ x → x < c + 1 → ltOf cf dk[x]! dk[a]! = true) := by
          intro x h1 h2
          have q : ltOf cf dk[c]! dk[a]! = true := by rw [HXC.out, HXA.out]; exact decide_eq_true hlv
          by_cases e : x = c
          · rw [e]; exact q
          · exact lt_of_le_lt HSW.out (H2.out x c h1 (by omega) (by omega)) q
        go_wp2_with fail
        go_quiet_grown (first | (go_at_fn g; refine Calls.grown_of (hcg _ _)))
        clear lc la hcg
        go_wp2
        go_roundw
        case rel => exact ⟨c + 1, j, by go_num, rfl, by omega, by omega, hjb, GR.out _ _, HN, HHi⟩
        case measure => simp [intOf]; omega
      · have HN : Hid (∀ x, c ≤ x → x < b → ltOf cf dk[x]! dk[a]! = false) := by
          intro x h1 h2
          have q : ltOf cf dk[c]! dk[a]! = false := by rw [HXC.out, HXA.out]; exact decide_eq_false hlv
          by_cases e : x = c
          · rw [e]; exact q
          · exact HSW.out.ntrans _ _ _ (H2.out c x (by omega) (by omega) (by omega)) q
        go_wp2_with fail
        go_quiet_grown (first | (go_at_fn g; refine Calls.grown_of (hcg _ _)))
        clear lc la hcg
        go_wp2
        go_roundw
        case rel => exact ⟨i, c, rfl, rfl, by omega, by omega, by omega, GR.out _ _, HLo, HN⟩
        case measure => simp [intOf]; omega
    · have hltz : (j : Int) ≤ (i : Int) := by omega
      obtain rfl : i = j := by omega
      clear hltz
      have nlt : ¬ ((i : Int) < (i : Int)) := by omega
      have FIN : Hid (∀ d' : Array α, (∀ x, d'[x]! = rotF a (a + 1) i (fun y => dk[y]!) x) → SortedIn (ltOf cf) a b d') := fun d' hd => ins_up HSW.out a b i dk d' hai hjb H2.out HLo.out HHi.out hd
      have w1 : IntKind.i64.wrap ((i : Int) - 1) = (i : Int) - 1 := IntWalk.i64_in _ (by omega)
      go_wp2_with fail
      go_loopw [13] (fun v wr => ∃ (x : Nat) (d : Array α), v = .int .i64 x ∧ a ≤ x ∧ x + 1 ≤ i ∧ Hid (SWK enc k w0 blk off d wr) ∧ d.size = d0.size ∧ Hid (∀ y, d[y]! = rotF a (a + 1) (x + 1) (fun y => dk[y]!) y) ∧ Hid (PermIn a b dk d)) (fun v _ => i - (intOf v).toNat)
      case atStart => exact ⟨a, dk, rfl, Nat.le_refl _, hai, HS, hs, fun y => (rot_one a _ y).symm, permIn_refl _ _ _⟩
      case round =>
        rename_i wq
        clear HS
        obtain ⟨x, d, rfl, hax, hxi, HS, hds, HF, HP⟩ := hrel
        by_cases hp : x + 1 < i
        · have hpz : (x : Int) < (i : Int) - 1 := by omega
          have sa := swp_get d (i := x) (j := x + 1) (by omega) (by omega)
          have sp : PermIn a b d (swp d x (x + 1)) := swp_permIn d a b x (x + 1) (by omega) (by omega) (by omega) (by omega) (by omega)
          have HF2 : Hid (∀ y, (swp d x (x + 1))[y]! = rotF a (a + 1) (x + 2) (fun y => dk[y]!) y) := by
            intro y
            rw [sa y, HF.out, HF.out, HF.out]
            exact shift_up a x hax _ y
          have HP2 : Hid (PermIn a b dk (swp d x (x + 1))) := permIn_trans _ _ _ _ _ HP.out sp
          clear sa sp
          obtain ⟨xa, hxa⟩ : ∃ z, d[x]! = z := ⟨_, rfl⟩
          obtain ⟨xb, hxb⟩ : ∃ z, d[x + 1]! = z := ⟨_, rfl⟩
          have la := HS.out.ld1 HR.out hds P x (by omega)
          have lb := HS.out.ld1 HR.out hds P (x + 1) (by omega)
          have s1 := HS.out.st1 HR.out hds P x (by omega) (d[x + 1]!)
          have s2 := HS.out.st2 HR.out hds P x (x + 1) (by omega) (by omega) (d[x + 1]!) (d[x]!)
          have sw := HS.out.swapped HR.out x (x + 1) (by omega) (by omega)
          have kA : (enc (d[x]!)).length = k := HR.out.hk _
          have kB : (enc (d[x + 1]!)).length = k := HR.out.hk _
          rw [hxa] at la s2 sw kA
          rw [hxb] at lb s1 s2 sw kB
          clear hxa hxb
          obtain ⟨cA, hcA⟩ : ∃ c, enc xa = c := ⟨_, rfl⟩
          obtain ⟨cB, hcB⟩ : ∃ c, enc xb = c := ⟨_, rfl⟩
          rw [hcA] at la s2 sw kA
          rw [hcB] at lb s1 s2 sw kB
          clear hcA hcB
          have SW := Lib.hid sw; clear sw
          have e1 : IntKind.i64.wrap ((x : Int) + 1) = (x : Int) + 1 := IntWalk.i64_in _ (by omega)
          have p1 : (0 : Int) ≤ (x : Int) + 1 := by omega
          have q1 : ((x : Int) + 1).toNat = x + 1 := by omega
          have r1 : (x : Int) + 1 < (d0.size : Int) := by omega
          have r2 : (x : Int) < (d0.size : Int) := by omega
          go_wp2_with fail
          go_big_region_o
          all_goals go_wp2
          go_roundw
          case rel => exact ⟨x + 1, _, by go_num, by omega, by omega, SW, by rw [swp_size]; exact hds, HF2, HP2⟩
          case measure => simp [intOf]; omega
        · have hpz : (i : Int) - 1 ≤ (x : Int) := by omega
          have hxe : x + 1 = i := by omega
          rw [hxe] at HF
          have hfin := FIN.out d HF.out
          have HFN := Lib.hid hfin; clear hfin
          clear HF FIN
          go_wp2
          (try simp only [Exit.inBlock, Exit.then])
          refine bodyPost_ret (results_none rfl _ _ _) rfl ?_
          exact ⟨rfl, d, HS.out, hds, HP.out, HFN.out⟩

set_option maxHeartbeats 8000000 in
set_option maxRecDepth 100000 in
theorem merge2_is (L : Stb P k) (R : RowK enc k w0 blk off d0) (cf : α → α → Int) (g : Nat) (cb : Array Value) (eg : ∀ args w, (callFunc g args).run P w = .ok (.enter g args) w) (hC : CmpLays P g cb enc k cf blk off d0.size w0) (hS : SWO (ltOf cf))
    (h : SWK enc k w0 blk off dk W) (hs : dk.size = d0.size) (hsz : d0.size < 4611686018427387904) (cap a m : Nat) (ham : a + 1 < m) (hb : m + 1 ≤ d0.size) (h1 : SortedIn (ltOf cf) a m dk) :
    Calls P 39 #[.slice (some ⟨blk, off, none⟩) d0.size cap, .int .i64 a, .int .i64 m, .int .i64 ((m : Int) + 1), .func (.func g) #[] cb] W fun e w' => e = .returned (.tuple #[]) ∧
      ∃ d' : Array α, SWK enc k w0 blk off d' w' ∧ d'.size = d0.size ∧ PermIn a (m + 1) dk d' ∧ SortedIn (ltOf cf) a (m + 1) d' := by
  have mixed := L.mixed; have t0 := L.t0; have a0 := L.a0; have z0 := L.z0; have v0 := L.v0; have t3 := L.t3; have a3 := L.a3; have z3 := L.z3; have v3 := L.v3; have t4 := L.t4; have a4 := L.a4; have z4 := L.z4; have v4 := L.v4; have t41 := L.t41; have a41 := L.a41; have z41 := L.z41; have v41 := L.v41; have t75 := L.t75; have a75 := L.a75; have z75 := L.z75; have v75 := L.v75; have t68 := L.t68; have a68 := L.a68; have z68 := L.z68; have v68 := L.v68; have aE := L.aE; have zE := L.zE; have u41 := run_underlying L.t41
  have HR := Lib.hid R; clear R
  have HS0 := Lib.hid h; clear h
  have HC := Lib.hid hC; clear hC
  have H1 := Lib.hid h1; clear h1
  have HSW := Lib.hid hS; clear hS
  go_enter L.fM, Try.ntmps39
  have e1 : IntKind.i64.wrap ((m : Int) + 1 - (m : Int)) = 1 := by rw [IntWalk.i64_in _ (by omega)]; omega
  have e2 : IntKind.i64.wrap ((m : Int) - (a : Int)) = (m : Int) - (a : Int) := IntWalk.i64_in _ (by omega)
  have e3 : ((m : Int) - (a : Int) == 1) = false := by rw [beq_eq_false_iff_ne]; omega
  go_wp2_with fail
  clear e1 e2 e3
  go_loopw [14, 15] (fun v1 v2 wr => ∃ (i j : Nat), v1 = .int .i64 i ∧ v2 = .int .i64 j ∧ a ≤ i ∧ i ≤ j ∧ j ≤ m ∧ Hid (SWK enc k w0 blk off dk wr) ∧
      Hid (∀ x, a ≤ x → x < i → ltOf cf dk[m]! dk[x]! = false) ∧ Hid (∀ x, j ≤ x → x < m → ltOf cf dk[m]! dk[x]! = true)) (fun v1 v2 _ => (intOf v2).toNat - (intOf v1).toNat)
  case atStart => exact ⟨a, m, rfl, rfl, Nat.le_refl _, by omega, Nat.le_refl _, HS0, fun x h1 h2 => by omega, fun x h1 h2 => by omega⟩
  case round =>
    rename_i wr
    obtain ⟨i, j, rfl, rfl, hai, hij, hjb, HS, HLo, HHi⟩ := hrel
    by_cases hlt : i < j
    · have hltz : (i : Int) < (j : Int) := by omega
      obtain ⟨c, hc⟩ : ∃ c, (i + j) / 2 = c := ⟨_, rfl⟩
      have hci : i ≤ c := by omega
      have hcj : c < j := by omega
      have g1 : IntKind.i64.wrap ((i : Int) + (j : Int)) = (i : Int) + (j : Int) := IntWalk.i64_in _ (by omega)
      have g2 : IntKind.u64.wrap ((i : Int) + (j : Int)) = (i : Int) + (j : Int) := IntWalk.u64_in _ (by omega)
      have g3 : ((i : Int) + (j : Int)) / 2 = (c : Int) := by omega
      have g4 : IntKind.i64.wrap (c : Int) = (c : Int) := IntWalk.i64_in _ (by omega)
      have g5 : IntKind.u64.wrap (c : Int) = (c : Int) := IntWalk.u64_in _ (by omega)
      have g6 : IntKind.i64.wrap ((c : Int) + 1) = (c : Int) + 1 := IntWalk.i64_in _ (by omega)
      have r1 : (c : Int) < (d0.size : Int) := by omega
      have r2 : (m : Int) < (d0.size : Int) := by omega
      obtain ⟨xc, hxc⟩ : ∃ x, dk[c]! = x := ⟨_, rfl⟩
      obtain ⟨xa, hxa⟩ : ∃ x, dk[m]! = x := ⟨_, rfl⟩
      have lc : ∀ n os, Sem.run P (loadCellsFrom ⟨blk, off + c * k, none⟩ 0 k #[]) (grow (wr.drewN n) os) = .ok (enc xc).toArray (grow (wr.drewN n) os) := fun n os => by rw [← hxc]; exact HS.out.ld HR.out hs P c (by omega) n os
      have la : ∀ n os, Sem.run P (loadCellsFrom ⟨blk, off + m * k, none⟩ 0 k #[]) (grow (wr.drewN n) os) = .ok (enc xa).toArray (grow (wr.drewN n) os) := fun n os => by rw [← hxa]; exact HS.out.ld HR.out hs P m (by omega) n os
      have hcg : ∀ n' os', Calls P g (#[.agg (enc xa).toArray, .agg (enc xc).toArray] ++ cb) (grow (wr.drewN n') os') fun e w' => e = .returned (.int .i64 (cf xa xc)) ∧ ∃ q os'', w' = grow ((grow (wr.drewN n') os').drewN q) os'' := fun n' os' => HS.out.cmp HC.out hs xa xc n' os'
      have GR : Hid (∀ n os, SWK enc k w0 blk off dk (grow (wr.drewN n) os)) := fun n os => HS.out.grown n os
      have HC2 := Lib.hid hc; clear hc
      have HXC := Lib.hid hxc; clear hxc
      have HXA := Lib.hid hxa; clear hxa
      by_cases hlv : cf xa xc < 0
      · have HN : Hid (∀ x, c ≤ x → x < m → ltOf cf dk[m]! dk[x]! = true) := by
          intro x h1 h2
          have q : ltOf cf dk[m]! dk[c]! = true := by rw [HXC.out, HXA.out]; exact decide_eq_true hlv
          by_cases e : x = c
          · rw [e]; exact q
          · exact lt_of_lt_le HSW.out q (H1.out c x (by omega) (by omega) (by omega))
        have hbn : (!decide (cf xa xc < 0)) = false := by rw [decide_eq_true hlv]; rfl
        go_wp2_with fail
        go_quiet_grown (first | (go_at_fn g; refine Calls.grown_of (hcg _ _)))
        clear lc la hcg
        go_wp2
        go_roundw
        case rel => exact ⟨i, c, rfl, rfl, by omega, by omega, by omega, GR.out _ _, HLo, HN⟩
        case measure => simp [intOf]; omega
      · have HN : Hid (∀ x, a ≤ x → x < c + 1 → ltOf cf dk[m]! dk[x]! = false) := by
          intro x h1 h2
          have q : ltOf cf dk[m]! dk[c]! = false := by rw [HXC.out, HXA.out]; exact decide_eq_false hlv
          by_cases e : x = c
          · rw [e]; exact q
          · exact HSW.out.ntrans _ _ _ q (H1.out x c h1 (by omega) (by omega))
        have hbn : (!decide (cf xa xc < 0)) = true := by rw [decide_eq_false hlv]; rfl
        go_wp2_with fail
        go_quiet_grown (first | (go_at_fn g; refine Calls.grown_of (hcg _ _)))
        clear lc la hcg
        go_wp2
        go_roundw
        case rel => exact ⟨c + 1, j, by go_num, rfl, by omega, by omega, hjb, GR.out _ _, HN, HHi⟩
        case measure => simp [intOf]; omega
    · have hltz : (j : Int) ≤ (i : Int) := by omega
      obtain rfl : i = j := by omega
      clear hltz
      have nlt : ¬ ((i : Int) < (i : Int)) := by omega
      have FIN : Hid (∀ d' : Array α, (∀ x, d'[x]! = rotF i m (m + 1) (fun y => dk[y]!) x) → SortedIn (ltOf cf) a (m + 1) d') := fun d' hd => ins_down HSW.out a m i dk d' hai hjb H1.out HLo.out HHi.out hd
      go_wp2_with fail
      go_loopw [17] (fun v wr => ∃ (x : Nat) (d : Array α), v = .int .i64 x ∧ i ≤ x ∧ x ≤ m ∧ Hid (SWK enc k w0 blk off d wr) ∧ d.size = d0.size ∧ Hid (∀ y, d[y]! = rotF x m (m + 1) (fun y => dk[y]!) y) ∧ Hid (PermIn a (m + 1) dk d)) (fun v _ => (intOf v).toNat)
      case atStart => exact ⟨m, dk, rfl, hjb, Nat.le_refl _, HS, hs, fun y => (rot_none m _ _ y).symm, permIn_refl _ _ _⟩
      case round =>
        rename_i wq
        clear HS
        obtain ⟨x, d, rfl, hax, hxi, HS, hds, HF, HP⟩ := hrel
        by_cases hp : i < x
        · obtain ⟨y, rfl⟩ : ∃ y, x = y + 1 := ⟨x - 1, by omega⟩
          have hpz : (i : Int) < (y : Int) + 1 := by omega
          have sa := swp_get d (i := y + 1) (j := y) (by omega) (by omega)
          have sp : PermIn a (m + 1) d (swp d (y + 1) y) := swp_permIn d a (m + 1) (y + 1) y (by omega) (by omega) (by omega) (by omega) (by omega)
          have HF2 : Hid (∀ z, (swp d (y + 1) y)[z]! = rotF y m (m + 1) (fun y => dk[y]!) z) := by
            intro z
            rw [sa z, HF.out, HF.out, HF.out]
            exact shift_down m y (by omega) _ z
          have HP2 : Hid (PermIn a (m + 1) dk (swp d (y + 1) y)) := permIn_trans _ _ _ _ _ HP.out sp
          clear sa sp
          obtain ⟨xa, hxa⟩ : ∃ z, d[y + 1]! = z := ⟨_, rfl⟩
          obtain ⟨xb, hxb⟩ : ∃ z, d[y]! = z := ⟨_, rfl⟩
          have la := HS.out.ld1 HR.out hds P (y + 1) (by omega)
          have lb := HS.out.ld1 HR.out hds P y (by omega)
          have s1 := HS.out.st1 HR.out hds P (y + 1) (by omega) (d[y]!)
          have s2 := HS.out.st2 HR.out hds P (y + 1) y (by omega) (by omega) (d[y]!) (d[y + 1]!)
          have sw := HS.out.swapped HR.out (y + 1) y (by omega) (by omega)
          have kA : (enc (d[y + 1]!)).length = k := HR.out.hk _
          have kB : (enc (d[y]!)).length = k := HR.out.hk _
          rw [hxa] at la s2 sw kA
          rw [hxb] at lb s1 s2 sw kB
          clear hxa hxb
          obtain ⟨cA, hcA⟩ : ∃ c, enc xa = c := ⟨_, rfl⟩
          obtain ⟨cB, hcB⟩ : ∃ c, enc xb = c := ⟨_, rfl⟩
          rw [hcA] at la s2 sw kA
          rw [hcB] at lb s1 s2 sw kB
          clear hcA hcB
          have SW := Lib.hid sw; clear sw
          have e1 : IntKind.i64.wrap (y : Int) = (y : Int) := IntWalk.i64_in _ (by omega)
          have p1 : (0 : Int) ≤ (y : Int) + 1 := by omega
          have q1 : ((y : Int) + 1).toNat = y + 1 := by omega
          have r1 : (y : Int) + 1 < (d0.size : Int) := by omega
          have r2 : (y : Int) < (d0.size : Int) := by omega
          go_wp2_with fail
          go_big_region_o
          all_goals go_wp2
          go_roundw
          case rel => exact ⟨y, _, by go_num, by omega, by omega, SW, by rw [swp_size]; exact hds, HF2, HP2⟩
          case measure => simp [intOf]
        · have hpz : (x : Int) ≤ (i : Int) := by omega
          obtain rfl : x = i := by omega
          have hfin := FIN.out d HF.out
          have HFN := Lib.hid hfin; clear hfin
          clear HF FIN
          go_wp2
          (try simp only [Exit.inBlock, Exit.then])
          refine bodyPost_ret (results_none rfl _ _ _) rfl ?_
          exact ⟨rfl, d, HS.out, hds, HP.out, HFN.out⟩
end
end Go.Proofs.Ytgaejaadjmcckaa
