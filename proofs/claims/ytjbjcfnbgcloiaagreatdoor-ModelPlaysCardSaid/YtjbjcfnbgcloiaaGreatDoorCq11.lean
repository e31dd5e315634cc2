/- The document's own sum of bytes. -/
import Derived.Test.YtjbjcfnbgcloiaaGreatDoorCq10
import Derived.Deep.QuietTactic
import Derived.BigQuiet
set_option linter.unusedSimpArgs false
set_option linter.unusedVariables false

set_option linter.unusedSimpArgs false
set_option linter.unusedVariables false
namespace Go.Proofs.YtjbjcfnbgcloiaaGreatDoor
open Go.RowKit Nam YtjbjcfnbgcloiaaGreatDoorW.PrintWords

set_option maxHeartbeats 1000000 in
set_option maxRecDepth 100000 in
theorem rmore_crc (l : List UInt8) (A : Option Addr) (c : Nat) (s0 : Int) (w : World) (hl : l.length ≤ 1000000) (hC : (Kd.int .u8).C w A l.length (byN l)) :
    Calls Tryz.prog 92 #[.int .u32 s0, .slice A l.length c] w fun e w' => e = .returned (.int .u32 (crcC s0 (byN l))) ∧ w = w' := by
  have HC := Lib.hid hC; clear hC
  obtain ⟨n, hn⟩ : ∃ n, l.length = n := ⟨_, rfl⟩
  have HN := Lib.hid hn
  rw [hn] at hl HC ⊢
  clear hn
  obtain ⟨R, hR⟩ : ∃ R, (byN l).foldl byteC (bits .xor .u32 IntKind.u32.max s0) = R := ⟨_, rfl⟩
  have hfin : Hid (crcC s0 (byN l) = bits .xor .u32 IntKind.u32.max R) := by show _ = _; rw [← hR]; rfl
  have HR : Hid (((byN l).drop 0).foldl byteC (bits .xor .u32 IntKind.u32.max s0) = R) := by show _ = _; rw [List.drop_zero]; exact hR
  clear hR
  have hst := xorR IntKind.u32.max s0
  go_enter Tryz.func92, Tryz.ntmps92
  go_wp2_with fail
  go_loop [0, 5] (fun vs vi => ∃ (s : Int) (k : Nat), vs = .int .u32 s ∧ 0 ≤ s ∧ s < 4294967296 ∧ vi = .int .i64 k ∧ k ≤ n ∧ Hid (((byN l).drop k).foldl byteC s = R)) (fun _ vi => n - (intOf vi).toNat)
  case atStart => exact ⟨_, 0, rfl, hst.1, hst.2, rfl, Nat.zero_le _, HR⟩
  case round =>
    clear HR hst
    obtain ⟨s, k, rfl, hs0, hs1, rfl, hk, HR⟩ := hrel
    by_cases hlt : k < n
    · have hltz : (k : Int) < (n : Int) := by omega
      have hkl : k < (byN l).length := by rw [byN_length, HN.out]; exact hlt
      obtain ⟨ad, hA, hcell⟩ := Kd.at_int HC.out (k : Int) (by omega) (by omega)
      subst hA
      rw [Int.toNat_natCast] at hcell
      have hrg := byN_range l (k : Int) (by omega) (by rw [HN.out]; exact hltz)
      obtain ⟨x, hx⟩ : ∃ x, rd (byN l) (k : Int) = x := ⟨_, rfl⟩
      rw [hx] at hcell hrg
      obtain ⟨hx0, hx1⟩ := hrg
      have HR2 : Hid (((byN l).drop (k + 1)).foldl byteC (bitsC 8 (bits .xor .u32 s x)) = R) := by
        show _ = _
        have h := HR.out
        rw [List.drop_eq_getElem_cons hkl, List.foldl_cons] at h
        have e : (byN l)[k] = x := by
          rw [← hx]
          unfold rd
          rw [Int.toNat_natCast, List.getD_eq_getElem?_getD, List.getElem?_eq_getElem hkl, Option.getD_some]
        rw [e] at h
        exact h
      clear HR hx hkl
      have hxr := xorR s x
      obtain ⟨T, hT⟩ : ∃ T, bitsC 8 (bits .xor .u32 s x) = T := ⟨_, rfl⟩
      rw [hT] at HR2
      have HT : Hid (bitsC (8 - 0) (bits .xor .u32 s x) = T) := hT
      clear hT
      go_wp2_with fail
      go_loop [0, 6] (fun vs vi => ∃ (s : Int) (j : Nat), vs = .int .u32 s ∧ 0 ≤ s ∧ s < 4294967296 ∧ vi = .int .i64 j ∧ j ≤ 8 ∧ Hid (bitsC (8 - j) s = T)) (fun _ vi => 8 - (intOf vi).toNat)
      case atStart => exact ⟨_, 0, rfl, hxr.1, hxr.2, rfl, Nat.zero_le _, HT⟩
      case round =>
        clear HT hxr hcell
        obtain ⟨s2, j, rfl, hs20, hs21, rfl, hj, HT⟩ := hrel
        by_cases hj8 : j < 8
        · have hjz : (j : Int) < 8 := by omega
          have hb := bitR s2 ⟨hs20, hs21⟩
          have HT2 : Hid (bitsC (8 - (j + 1)) (bitC s2) = T) := by
            show _ = _
            have h := HT.out
            rw [show 8 - j = (8 - (j + 1)) + 1 by omega, bitsC] at h
            exact h
          clear HT
          unfold bitC at hb HT2
          obtain ⟨q, hq⟩ : ∃ q, (bits .and .u32 s2 1 == 1) = q := ⟨_, rfl⟩
          rw [hq] at hb HT2
          cases q
          · rw [if_neg (by simp)] at hb
            have HT3 : Hid (bitsC (8 - (j + 1)) (s2 / 2) = T) := by have h := HT2.out; rw [if_neg (by simp)] at h; exact h
            clear HT2
            go_wp2_with fail
            go_round
            case rel => exact ⟨_, j + 1, rfl, hb.1, hb.2, by go_num, by omega, HT3⟩
            case measure => simp [intOf]; omega
          · rw [if_pos rfl] at hb
            have HT3 : Hid (bitsC (8 - (j + 1)) (bits .xor .u32 (s2 / 2) 2197175160) = T) := by have h := HT2.out; rw [if_pos rfl] at h; exact h
            clear HT2
            go_wp2_with fail
            go_round
            case rel => exact ⟨_, j + 1, rfl, hb.1, hb.2, by go_num, by omega, HT3⟩
            case measure => simp [intOf]; omega
        · obtain rfl : j = 8 := by omega
          have hs2 : s2 = T := HT.out
          subst hs2
          clear HT
          go_wp2_with fail
          go_round
          case rel => exact ⟨_, k + 1, rfl, hs20, hs21, by go_num, by omega, HR2⟩
          case measure => simp [intOf]; omega
    · obtain rfl : k = n := by omega
      have hs2 : s = R := by
        have h := HR.out
        rw [List.drop_eq_nil_of_le (by rw [byN_length, HN.out]; omega)] at h
        exact h
      subst hs2
      clear HR
      go_wp2_with fail
      go_ret
      exact ⟨by rw [hfin.out]; rfl, rfl⟩

theorem rsum_is (l : List UInt8) (A : Option Addr) (c : Nat) (w : World) (hl : l.length ≤ 1000000) (hC : (Kd.int .u8).C w A l.length (byN l)) :
    Calls Tryz.prog 69 #[.slice A l.length c] w fun e w' => e = .returned (.int .u32 (sumC l)) ∧ w = w' := by
  have HM := Lib.hid (rmore_crc l A c 0 w hl hC)
  clear hC hl
  go_enter Tryz.func69, Tryz.ntmps69
  go_wp2_with fail
  refine HM.out.mono ?_
  rintro e w' ⟨rfl, rfl⟩
  go_wp2_with fail
  go_ret
  exact ⟨rfl, rfl⟩
end Go.Proofs.YtjbjcfnbgcloiaaGreatDoor

/- The document's own model: another row of objects, an object's rows set anew. -/
set_option linter.unusedSimpArgs false
set_option linter.unusedVariables false
namespace Go.Proofs.YtjbjcfnbgcloiaaGreatDoor
open Go.RowKit Nam YtjbjcfnbgcloiaaGreatDoorW.PrintWords Go.Shelf

theorem lies_obj (W : World) (cs : Array Value) (t : TypeId) (fr : Nat × Nat) (n : Nat) : LiesAt (W.alloc (.cells cs t fr)) (.slice (some ⟨W.heap.size, 0, none⟩) n n) n cs.toList := by
  rcases lies_new W cs t fr with ⟨e, _⟩ | ⟨b, o, c, e, _, h⟩
  · cases e
  · injection e with e1 _ _
    injection e1 with e1
    injection e1 with e1 e2 _
    subst e1
    subst e2
    exact .inr ⟨_, 0, n, rfl, Nat.le_refl _, h⟩
theorem run_append_none {P : Program} {w : World} (base : Nat) (t ty e : TypeId) (i : TypeInfo) (size c : Nat) (ht : P.underlying t = some (.slice e)) (hi : P.info? e = some i)
    (v : Value) (n : Nat) (xs : List Value) (hown : w.ownsRow base e size v n xs) :
    (Builtin.append_ #[t, t] ty #[v, .slice none 0 c]).run P w = .ok v w := by
  rcases hown.2 with ⟨rfl, rfl⟩ | ⟨g, cap, cur, rfl, _, _, hnc, _⟩
  · simp [Builtin.append_, run_underlying ht, sizeOf, typeInfo, hi, Builtin.lenOf, Builtin.firstCells]
  · simp [Builtin.append_, run_underlying ht, sizeOf, typeInfo, hi, Builtin.lenOf, Builtin.firstCells, hnc, storeCells]
def LiesAd (w : World) (x : Value) (n : Nat) (cells : List Value) : Prop := (∃ c, x = .slice none 0 c ∧ n = 0 ∧ cells = []) ∨ ∃ ad c, x = .slice (some ad) n c ∧ ∀ j u, cells[j]? = some u → w.cell? (ad.add j) = some u
theorem ap_ad {T E : TypeId} {z : Value} {sz bytes : Nat} (ht : ApT T E z sz bytes) {w : World} {base n m : Nat} {v x : Value} {xs cs : List Value} (hown : w.ownsRow base E sz v n xs) (hx : LiesAd w x m cs) (hl : cs.length = m * sz) (h1 : ∀ u ∈ cs, u.oneCell' = true)
    (hn : n + m ≤ 1000000000) (hbase : base ≤ w.heap.size) (ty : TypeId) :
    ∃ v' w', (Builtin.append_ #[T, T] ty #[v, x]).run Tryz.prog w = .ok v' w' ∧ w'.ownsRow base E sz v' (n + m) (xs ++ cs) ∧ w.grownBy w' v.ownBlock ∧ (v'.ownBlock = v.ownBlock ∨ v'.ownBlock = some w.heap.size) := by
  obtain ⟨i0, hi, hz0, hz1, hz2⟩ := info_parts ht.i
  rcases hx with ⟨c, rfl, rfl, rfl⟩ | ⟨ad, cap, rfl, hc⟩
  · exact ⟨v, w, run_append_none base _ ty _ i0 sz c ht.u hi v _ _ hown, by simpa using hown, ⟨rfl, rfl, rfl, Nat.le_refl _, fun _ _ _ => rfl⟩, .inl rfl⟩
  · obtain ⟨v', w', h1', h2, h3, _, h5⟩ := run_append_own_at (P := Tryz.prog) (w := w) base _ ty _ i0 _ sz bytes ht.u hi hz0 hz1 hz2 ht.zs ht.s0 v _ _ hown ad m cap cs hl
      hc h1 (by unfold maxLen; omega) (by
        have := Nat.mul_le_mul hn ht.b0
        omega) hbase
    exact ⟨v', w', h1', h2, h3, h5⟩
theorem wp_ap_ad {T E : TypeId} {z : Value} {sz bytes : Nat} (ht : ApT T E z sz bytes) {w : World} {o : Oper} {a : Act} {K : Act → World → Prop} {Q : Exit → Act → World → Prop} (s u : Operand)
    (ho : o.op = .call { callee := .builtin .append, args := #[s, u], argTypes := #[T, T] })
    {base n m : Nat} {v x : Value} {xs cs : List Value} (hs : a.eval s = v) (hown : w.ownsRow base E sz v n xs) (hu : a.eval u = x) (hx : LiesAd w x m cs) (hl : cs.length = m * sz) (h1 : ∀ u ∈ cs, u.oneCell' = true)
    (hn : n + m ≤ 1000000000) (hbase : base ≤ w.heap.size)
    (h : ∀ v' w', w'.ownsRow base E sz v' (n + m) (xs ++ cs) → w.grownBy w' v.ownBlock → (v'.ownBlock = v.ownBlock ∨ v'.ownBlock = some w.heap.size) → K (a.put o.dst v') w') : o.wp Tryz.prog a w K Q := by
  obtain ⟨v', w', hr, h2, h3, h4⟩ := ap_ad ht hown hx hl h1 hn hbase o.type
  unfold Oper.wp execOp
  simp only [ho, resolve, invoke, builtin, Sem.run_bind, Sem.run_pure, Result.andThen_ok, List.map_toArray, List.map_cons, List.map_nil, hs, hu, hr]
  exact h v' w' h2 h3 h4
theorem wpList_ap_ad {T E : TypeId} {z : Value} {sz bytes : Nat} (ht : ApT T E z sz bytes) {w : World} {ops : Array Oper} {rest : List Oper} {o : Oper} {a : Act} {Q : Exit → Act → World → Prop} (hgd : o.guard = none) (s u : Operand)
    (ho : o.op = .call { callee := .builtin .append, args := #[s, u], argTypes := #[T, T] })
    {base n m : Nat} {v x : Value} {xs cs : List Value} (hs : a.eval s = v) (hown : w.ownsRow base E sz v n xs) (hu : a.eval u = x) (hx : LiesAd w x m cs) (hl : cs.length = m * sz) (h1 : ∀ u ∈ cs, u.oneCell' = true)
    (hn : n + m ≤ 1000000000) (hbase : base ≤ w.heap.size)
    (h : ∀ v' w', w'.ownsRow base E sz v' (n + m) (xs ++ cs) → w.grownBy w' v.ownBlock → (v'.ownBlock = v.ownBlock ∨ v'.ownBlock = some w.heap.size) → wpList Tryz.prog ops Q rest (a.put o.dst v') w') : wpList Tryz.prog ops Q (o :: rest) a w :=
  wpList_plain hgd fun _ hK => wp_ap_ad ht s u ho hs hown hu hx hl h1 hn hbase fun v' w' h2 h3 h4 => hK _ _ (h v' w' h2 h3 h4)
theorem lies_of_C {w : World} {A : Option Addr} {l : List UInt8} (h : (Kd.int .u8).C w A l.length (byN l)) (c : Nat) : LiesAd w (.slice A l.length c) l.length ((byN l).map (Value.int .u8)) := by
  cases A with
  | none =>
    have h0 : l = [] := by
      rcases Nat.eq_zero_or_pos l.length with h' | h'
      · exact List.length_eq_zero_iff.1 h'
      · obtain ⟨ad, e, _⟩ := h.2.2 h'
        cases e
    subst h0
    exact .inl ⟨c, rfl, rfl, rfl⟩
  | some ad =>
    refine .inr ⟨ad, c, rfl, fun j u hu => ?_⟩
    rw [List.getElem?_map] at hu
    obtain ⟨z, hz, rfl⟩ := Option.map_eq_some_iff.1 hu
    have hj : j < l.length := by
      have := (List.getElem?_eq_some_iff.1 hz).1
      rwa [byN_length] at this
    obtain ⟨ad', e, hcell⟩ := Kd.at_int h (j : Int) (by omega) (by omega)
    injection e with e
    subst e
    rw [Int.toNat_natCast] at hcell
    rw [hcell]
    unfold rd
    rw [Int.toNat_natCast, List.getD_eq_getElem?_getD, hz, Option.getD_some]
theorem rg_set {α : Type} {R : α → List Value → Prop} {ps : List α} {cs : List Value} (h : Reps R 4 ps cs) {i : Nat} {x p : α} (hi : ps[i]? = some p) {a b c d c' d' : Value} (hc : (cs.drop (i * 4)).take 4 = [a, b, c, d]) (hx : R x [a, b, c', d']) : Reps R 4 (ps.set i x) ((cs.set (i * 4 + 2) c').set (i * 4 + 3) d') := by
  have hil : i < ps.length := (List.getElem?_eq_some_iff.1 hi).1
  have hl := h.1
  refine ⟨by simp [hl], fun j q hq => ?_⟩
  rw [List.getElem?_set] at hq
  by_cases e : i = j
  · subst e
    rw [if_pos rfl, if_pos hil] at hq
    injection hq with hq
    subst hq
    have e2 : ((((cs.set (i * 4 + 2) c').set (i * 4 + 3) d')).drop (i * 4)).take 4 = [a, b, c', d'] := by
      have hg : ∀ t, t < 4 → ((cs.drop (i * 4)).take 4)[t]? = cs[i * 4 + t]? := fun t ht => by
        rw [List.getElem?_take, if_pos ht, List.getElem?_drop]
      rw [hc] at hg
      apply List.ext_getElem?
      intro t
      rw [List.getElem?_take]
      by_cases ht : t < 4
      · rw [if_pos ht, List.getElem?_drop, List.getElem?_set, List.getElem?_set]
        have h0 := hg 0 (by omega)
        have h1 := hg 1 (by omega)
        have : t = 0 ∨ t = 1 ∨ t = 2 ∨ t = 3 := by omega
        rcases this with rfl | rfl | rfl | rfl
        · rw [if_neg (by omega), if_neg (by omega), ← h0]; rfl
        · rw [if_neg (by omega), if_neg (by omega), ← h1]; rfl
        · rw [if_neg (by omega), if_pos rfl, if_pos (by omega)]; rfl
        · rw [if_pos rfl, if_pos (by rw [List.length_set]; omega)]; rfl
      · rw [if_neg ht]
        rw [List.getElem?_eq_none (by simp; omega)]
    rw [e2]
    exact hx
  · rw [if_neg e] at hq
    have h2 := h.2 j q hq
    have e2 : ((((cs.set (i * 4 + 2) c').set (i * 4 + 3) d')).drop (j * 4)).take 4 = (cs.drop (j * 4)).take 4 := by
      apply List.ext_getElem?
      intro t
      rw [List.getElem?_take, List.getElem?_take]
      by_cases ht : t < 4
      · rw [if_pos ht, if_pos ht, List.getElem?_drop, List.getElem?_drop, List.getElem?_set, List.getElem?_set, if_neg (by omega), if_neg (by omega)]
      · rw [if_neg ht, if_neg ht]
    rw [e2]
    exact h2
theorem dat_own {w : World} {base : Nat} {v : Value} {y : Kp} (ho : w.ownsRow base 5 1 v y.dt.length ((byN y.dt).map (Value.int .u8))) {F : Nat → Prop} (hF : ∀ k, v.ownBlock = some k → F k) : DatE w F y [v] := by
  obtain ⟨A', c', rfl, hle, hR⟩ := own_reads_of_le (enc := Value.int .u8) (d := (0 : Int)) ho
  refine ⟨A', c', rfl, hle, fun w2 hk => ?_⟩
  obtain ⟨A2, c2, e2, _, hR2⟩ := own_reads_of_le (enc := Value.int .u8) (d := (0 : Int)) (own_move ho (fun k hk' => hk k (hF k hk')))
  injection e2 with e3 _ _
  subst e3
  exact Kd.C_of_reads (h1 := fun _ => rfl) hR2

theorem RefM.remade {w V : World} {g b0 : Nat} {B B' : List (List UInt8)} {L L' : List Ob} {Q F F' : Nat → Prop} (h : RefM w g B L b0 Q F) (hmv : Moved Q w V) (hb0 : b0 ≤ w.heap.size) {vb vl : Value} {news : List Value}
    (hg : V.heap[g]? = some (.cells #[vb, vl] 62 (0, 0))) (hB : RowG StrE 1 V F' vb B') (ho : V.ownsRow b0 71 4 vl L'.length news) (hr : Reps (ObE V F') 4 L' news)
    (hvl : ∀ k, vl.ownBlock = some k → Q k ∨ w.heap.size ≤ k) (hF : ∀ k, F' k → F k ∨ (w.heap.size ≤ k ∧ IsC V k ∧ vl.ownBlock ≠ some k)) :
    RefM V g B' L' b0 (fun k => k = g ∨ vl.ownBlock = some k) F' := by
  have hFc : ∀ k, F k → IsC V k := fun k hk => by
    obtain ⟨a, b, c, e⟩ := h.ic k (.inr hk)
    exact ⟨a, b, c, (hmv.block k (isC_lt ⟨a, b, c, e⟩) (fun q => h.ap k q hk)).trans e⟩
  have hFlt : ∀ k, F k → k < w.heap.size := fun k hk => isC_lt (h.ic k (.inr hk))
  have hglt : g < w.heap.size := isC_lt (h.ic g (.inl h.qg))
  refine ⟨fun k hk => ?_, fun k hk => ?_, fun k hq hf => ?_, .inl rfl, vb, vl, news, hg, hB, ho, hr, fun k hk => .inr hk⟩
  · rcases hk with (rfl | hk) | hk
    · exact ⟨_, _, _, hg⟩
    · obtain ⟨cells, hc⟩ := own_typed ho k hk
      exact ⟨_, _, _, hc⟩
    · rcases hF k hk with hf | ⟨_, hf, _⟩
      · exact hFc k hf
      · exact hf
  · rcases hk with rfl | hk
    · exact h.qb _ h.qg
    · rcases hvl k hk with h1 | h1
      · exact h.qb k h1
      · omega
  · rcases hF k hf with hf | ⟨h1, _, h3⟩
    · rcases hq with rfl | hq
      · exact h.ap _ h.qg hf
      · rcases hvl k hq with h2 | h2
        · exact h.ap k h2 hf
        · have := hFlt k hf
          omega
    · rcases hq with rfl | hq
      · omega
      · exact h3 hq
theorem RefM.ic_sub {w : World} {g b0 : Nat} {B : List (List UInt8)} {L : List Ob} {Q Q' F : Nat → Prop} (h : RefM w g B L b0 Q F) (hq : ∀ k, Q' k ↔ Q k) : RefM w g B L b0 Q' F := by
  obtain ⟨vb, vl, news, h1, h2, h3, h4, h5⟩ := h.ex
  exact ⟨fun k hk => h.ic k (hk.imp_left (hq k).1), fun k hk => h.qb k ((hq k).1 hk), fun k hk => h.ap k ((hq k).1 hk), (hq g).2 h.qg, vb, vl, news, h1, h2, h3, h4, fun k hk => (hq k).2 (h5 k hk)⟩
theorem moved_grown {Q : Nat → Prop} {w V : World} {row : Option Nat} (hg : w.grownBy V row) (h : ∀ k, row = some k → Q k) : Moved Q w V := ⟨hg.os, hg.tape, hg.output, hg.size, fun k hk hq => hg.block k hk (fun e => hq (h k e.symm))⟩
theorem moved_set {Q : Nat → Prop} (w : World) {g : Nat} (hq : Q g) (i : Nat) (u : Value) : Moved Q w (w.setCell ⟨g, i, none⟩ u) := by
  have ho := (Only.refl 0 (g + 1) w).put (g := g) i u (Nat.zero_le _) (.inl (Nat.lt_succ_self _))
  exact ⟨ho.os, ho.tape, ho.output, ho.size, fun k hk hn => Below.heap_setCell w ⟨g, i, none⟩ u k (fun e => hn (e ▸ hq))⟩
theorem RefM.addO {w V0 w4 : World} {g b0 : Nat} {B : List (List UInt8)} {L : List Ob} {Q F : Nat → Prop} (h : RefM w g B L b0 Q F) (hb0 : b0 ≤ w.heap.size) {vb vl v4 : Value} {news : List Value} {b k : List UInt8}
    (k1 : w.heap[g]? = some (.cells #[vb, vl] 62 (0, 0))) (k2 : RowG StrE 1 w F vb B) (k3 : w.ownsRow b0 71 4 vl L.length news) (k4 : Reps (ObE w F) 4 L news) (k5 : ∀ k, vl.ownBlock = some k → Q k)
    (hV : Below w.heap.size w V0) (own4 : w4.ownsRow b0 71 4 v4 (L.length + 1) (news ++ [.string (mkS b), .string (mkS k), .slice none 0 0, .slice none 0 0])) (hgr : V0.grownBy w4 vl.ownBlock) (hob : v4.ownBlock = vl.ownBlock ∨ v4.ownBlock = some V0.heap.size) :
    Moved Q w (w4.setCell ⟨g, 1, none⟩ v4) ∧ RefM (w4.setCell ⟨g, 1, none⟩ v4) g B (L ++ [⟨b, k, []⟩]) b0 (fun j => j = g ∨ v4.ownBlock = some j) F ∧ (∀ j, v4.ownBlock = some j → Q j ∨ V0.heap.size ≤ j) ∧ ∀ j, w.heap.size ≤ j → j < V0.heap.size → (w4.setCell ⟨g, 1, none⟩ v4).heap[j]? = V0.heap[j]? := by
  have hgl : g < w.heap.size := isC_lt (h.ic g (.inl h.qg))
  have hNe : some g ≠ vl.ownBlock := own_ne k3 k1 (by decide)
  have hmv : Moved Q w (w4.setCell ⟨g, 1, none⟩ v4) := ((Moved.of_below (Q := Q) hV).trans (moved_grown (Q := Q) hgr k5) (fun i hi => .inl hi)).trans (moved_set (Q := Q) w4 h.qg 1 v4) (fun i hi => .inl hi)
  have hk4 := blk_grown (blk_below k1 hV) hgr hNe
  have hg : (w4.setCell ⟨g, 1, none⟩ v4).heap[g]? = some (.cells #[vb, v4] 62 (0, 0)) := blk_set hk4 1 v4
  have hFK : FKept F w (w4.setCell ⟨g, 1, none⟩ v4) := fun j hj => hmv.block j (isC_lt (h.ic j (.inr hj))) (fun q => h.ap j q hj)
  have hne4 : some g ≠ v4.ownBlock := fun e => by
    rcases hob with h1 | h1
    · exact hNe (e.trans h1)
    · rw [h1] at e
      injection e with e
      have := hV.size
      omega
  have hvl : ∀ j, v4.ownBlock = some j → Q j ∨ V0.heap.size ≤ j := fun j hj => by
    rcases hob with h1 | h1
    · exact .inl (k5 j (h1 ▸ hj))
    · rw [h1] at hj
      injection hj with hj
      exact .inr (by omega)
  refine ⟨hmv, h.remade hmv hb0 hg (k2.kept str_stays hFK) (by rw [List.length_append]; exact own_setCell own4 hne4 v4) (rg_app (k4.imp_ fun _ _ hp => ob_stays.kept hp hFK) (reps_sing ⟨_, _, rfl, rowG_nil _ _ _ _, rowG_nil _ _ _ _⟩ rfl)) (fun j hj => (hvl j hj).imp_right fun e => Nat.le_trans hV.size e) (fun j hj => .inl hj), hvl, fun j hj hj2 => ?_⟩
  rw [Below.heap_setCell w4 ⟨g, 1, none⟩ v4 j (fun e => by subst e; omega)]
  exact hgr.block j hj2 (fun e => by have := isC_lt (h.ic j (.inl (k5 j e.symm))); omega)
theorem RefM.setO {wc wb wd : World} {g b0 gl cl i : Nat} {B : List (List UInt8)} {L : List Ob} {Q F : Nat → Prop} (h : RefM wc g B L b0 Q F) (hb0 : b0 ≤ wc.heap.size) {vb vs ds v2 v5 : Value} {news nv nd : List Value} {o : Ob} {rs' : List Kp}
    (k1 : wc.heap[g]? = some (.cells #[vb, .slice (some ⟨gl, 0, none⟩) L.length cl] 62 (0, 0))) (k2 : RowG StrE 1 wc F vb B) (k3 : wc.ownsRow b0 71 4 (.slice (some ⟨gl, 0, none⟩) L.length cl) L.length news) (k4 : Reps (ObE wc F) 4 L news) (k5 : ∀ k, (Value.slice (some ⟨gl, 0, none⟩) L.length cl).ownBlock = some k → Q k)
    (hob : L[i]? = some o) (e1 : (news.drop (i * 4)).take 4 = [.string (mkS o.bk), .string (mkS o.ky), vs, ds])
    (hb : Below wc.heap.size wc wb) (hd : Below (wb.setCell ⟨gl, i * 4 + 2, none⟩ v2).heap.size (wb.setCell ⟨gl, i * 4 + 2, none⟩ v2) wd)
    (ov : wb.ownsRow wc.heap.size 38 4 v2 rs'.length nv) (rv : Reps (VerE wb F) 4 rs' nv)
    (od : wd.ownsRow wc.heap.size 30 1 v5 rs'.length nd) {Fb : Nat → Prop} (hFb : ∀ k, Fb k → wc.heap.size ≤ k ∧ IsC wd k) (rd : Reps (DatE wd (fun k => F k ∨ Fb k)) 1 rs' nd) :
    Moved Q wc (wd.setCell ⟨gl, i * 4 + 3, none⟩ v5) ∧ RefM (wd.setCell ⟨gl, i * 4 + 3, none⟩ v5) g B (L.set i ⟨o.bk, o.ky, rs'⟩) b0 (fun j => j = g ∨ j = gl) (fun k => (F k ∨ Fb k) ∨ v2.ownBlock = some k ∨ v5.ownBlock = some k) := by
  have hqgl : Q gl := k5 gl rfl
  have hgll : gl < wc.heap.size := isC_lt (h.ic gl (.inl hqgl))
  have hggl : g ≠ gl := fun e => own_ne k3 k1 (by decide) (by rw [e]; rfl)
  have hs1 : (wb.setCell ⟨gl, i * 4 + 2, none⟩ v2).heap.size = wb.heap.size := by simp
  have hm1 : Moved Q wc (wb.setCell ⟨gl, i * 4 + 2, none⟩ v2) := (Moved.of_below (Q := Q) hb).trans (moved_set (Q := Q) wb hqgl _ v2) (fun _ hi => .inl hi)
  have hm2 : Moved Q wc wd := hm1.trans (Moved.of_below (Q := Q) hd) (fun _ hi => .inl hi)
  have hmv : Moved Q wc (wd.setCell ⟨gl, i * 4 + 3, none⟩ v5) := hm2.trans (moved_set (Q := Q) wd hqgl _ v5) (fun _ hi => .inl hi)
  have ho2 := pw_own_below (pw_own_below k3 hb |>.stored (i * 4 + 2) v2).1 hd
  have ho3 := (ho2.stored (i * 4 + 3) v5).1
  have hne : ∀ {W : World} {T : TypeId} {sz n : Nat} {v : Value} {xs : List Value}, W.ownsRow wc.heap.size T sz v n xs → some gl ≠ v.ownBlock := fun hx e => by
    have := own_ge hx gl e.symm
    omega
  have ov1 := pw_own_below (own_setCell ov (p := ⟨gl, i * 4 + 2, none⟩) (hne ov) v2) hd
  have ov2 := own_setCell ov1 (p := ⟨gl, i * 4 + 3, none⟩) (hne ov1) v5
  have od2 := own_setCell od (p := ⟨gl, i * 4 + 3, none⟩) (hne od) v5
  have hgV : (wd.setCell ⟨gl, i * 4 + 3, none⟩ v5).heap[g]? = some (.cells #[vb, .slice (some ⟨gl, 0, none⟩) L.length cl] 62 (0, 0)) := by
    rw [Below.heap_setCell wd ⟨gl, i * 4 + 3, none⟩ v5 g hggl, hd.block g (by rw [hs1]; exact Nat.lt_of_lt_of_le (blk_lt k1) hb.size), Below.heap_setCell wb ⟨gl, i * 4 + 2, none⟩ v2 g hggl]
    exact blk_below k1 hb
  have hFK : FKept F wc (wd.setCell ⟨gl, i * 4 + 3, none⟩ v5) := fun j hj => hmv.block j (isC_lt (h.ic j (.inr hj))) (fun q => h.ap j q hj)
  have hds : FKept (fun k => F k ∨ Fb k) wd (wd.setCell ⟨gl, i * 4 + 3, none⟩ v5) := fun j hj => Below.heap_setCell wd ⟨gl, i * 4 + 3, none⟩ v5 j (fun e => by
    rw [e] at hj
    rcases hj with hj | hj
    · exact h.ap gl hqgl hj
    · have := (hFb gl hj).1
      omega)
  have hsz : wd.heap.size = (wd.setCell ⟨gl, i * 4 + 3, none⟩ v5).heap.size := by simp
  have hres : RefM (wd.setCell ⟨gl, i * 4 + 3, none⟩ v5) g B (L.set i ⟨o.bk, o.ky, rs'⟩) b0 (fun j => j = g ∨ (Value.slice (some ⟨gl, 0, none⟩) L.length cl).ownBlock = some j) (fun k => (F k ∨ Fb k) ∨ v2.ownBlock = some k ∨ v5.ownBlock = some k) := by
    refine h.remade hmv hb0 (vl := .slice (some ⟨gl, 0, none⟩) L.length cl) hgV ((k2.kept str_stays hFK).mono str_stays fun _ hk => .inl (.inl hk)) (by rw [List.length_set]; exact ho3) ?_ (fun k hk => .inl (k5 k hk)) (fun k hk => ?_)
    · refine rg_set ((k4.imp_ fun _ _ hp => ob_stays.kept hp hFK).imp_ fun _ _ hp => ob_stays.mono hp fun _ hk => .inl (.inl hk)) hob e1 ⟨v2, v5, rfl, ?_, ?_⟩
      · exact rowG_own ov2 (rv.imp_ fun _ _ hp => hp) (fun k hk => .inr (.inl hk))
      · exact rowG_own od2 (rd.imp_ fun _ _ hp => dat_stays.mono (dat_stays.kept hp hds) fun _ hk => .inl hk) (fun k hk => .inr (.inr hk))
    · rcases hk with (hk | hk) | hk | hk
      · exact .inl hk
      · obtain ⟨f1, a, b, c, f2⟩ := hFb k hk
        refine .inr ⟨f1, ⟨a, b, c, (hds k (.inr hk)).trans f2⟩, fun e => ?_⟩
        have e' : gl = k := by
          have : some gl = some k := e
          injection this
        omega
      · obtain ⟨cells, hc⟩ := own_typed ov2 k hk
        have := own_ge ov2 k hk
        refine .inr ⟨this, ⟨_, _, _, hc⟩, fun e => ?_⟩
        have e' : gl = k := by
          have : some gl = some k := e
          injection this
        omega
      · obtain ⟨cells, hc⟩ := own_typed od2 k hk
        have := own_ge od2 k hk
        refine .inr ⟨this, ⟨_, _, _, hc⟩, fun e => ?_⟩
        have e' : gl = k := by
          have : some gl = some k := e
          injection this
        omega
  refine ⟨hmv, hres.ic_sub ?_⟩
  intro j
  constructor
  · rintro (e | e)
    · exact .inl e
    · exact .inr (by subst e; rfl)
  · rintro (e | e)
    · exact .inl e
    · have : some gl = some j := e
      injection this with this
      exact .inr this.symm
def atL (L : List Ob) (b k : List UInt8) : List Ob × Nat := match L.findIdx? (atP b k) with
  | some j => (L, j)
  | none => (L ++ [⟨b, k, []⟩], L.length)
def rsOf (L : List Ob) (b k : List UInt8) : List Kp := match L.findIdx? (atP b k) with
  | some j => ((L[j]?).map Ob.rs).getD []
  | none => []
theorem at_obj (L : List Ob) (b k : List UInt8) : (atL L b k).1[(atL L b k).2]? = some ⟨b, k, rsOf L b k⟩ := by
  unfold atL rsOf
  cases h : L.findIdx? (atP b k) with
  | none => simp
  | some j =>
    rw [List.findIdx?_eq_some_iff_getElem] at h
    obtain ⟨hj, hp, _⟩ := h
    unfold atP at hp
    simp only [Bool.and_eq_true, decide_eq_true_eq] at hp
    obtain ⟨h1, h2⟩ := hp
    simp only [List.getElem?_eq_getElem hj, Option.map_some, Option.getD_some]
    congr 1
    cases hO : L[j] with
    | mk x1 x2 x3 =>
      rw [hO] at h1 h2
      simp only at h1 h2
      rw [h1, h2]
theorem atL_len (L : List Ob) (b k : List UInt8) : (atL L b k).1.length ≤ L.length + 1 := by
  unfold atL
  cases h : L.findIdx? (atP b k) with
  | none => simp
  | some j => simp
theorem rsOf_len {L : List Ob} (h : ∀ o ∈ L, o.rs.length ≤ 64) (b k : List UInt8) : (rsOf L b k).length ≤ 64 := by
  unfold rsOf
  cases hf : L.findIdx? (atP b k) with
  | none => simp
  | some j =>
    cases hj : L[j]? with
    | none => simp [hj]
    | some o => simpa [hj] using h o (List.mem_of_getElem? hj)
def rMoreL (L : List Ob) (b k : List UInt8) (y : Kp) : List Ob := if moreE (rsOf L b k) y = 0 then (atL L b k).1.set (atL L b k).2 ⟨b, k, rsOf L b k ++ [y]⟩ else (atL L b k).1
end Go.Proofs.YtjbjcfnbgcloiaaGreatDoor

/- The document's own model: a version more. -/
set_option linter.unusedSimpArgs false
set_option linter.unusedVariables false
namespace Go.Proofs.YtjbjcfnbgcloiaaGreatDoor
open Go.RowKit Nam YtjbjcfnbgcloiaaGreatDoorW.PrintWords Go.Shelf

def verOk (er : Int) (y : Kp) : Value := .agg (if er = 0 then #[.int .i64 y.id, .bool y.mark, .int .i64 y.sz, .int .u32 y.sum] else #[.int .i64 0, .bool false, .int .i64 0, .int .u32 0])
set_option maxHeartbeats 2000000 in
set_option maxRecDepth 100000 in
theorem rmore_is (w : World) (g : Nat) (B : List (List UInt8)) (L : List Ob) (b0 : Nat) (Q F : Nat → Prop) (b k : List UInt8) (y : Kp) (A : Option Addr) (c : Nat) (hL : L.length ≤ 1000) (hrs : ∀ o ∈ L, o.rs.length ≤ 64) (hy : y.dt.length ≤ 1000000) (hb0 : b0 ≤ w.heap.size) (hm : RefM w g B L b0 Q F) (hC : ∀ V, Moved Q w V → (Kd.int .u8).C V A y.dt.length (byN y.dt)) :
    Calls Tryz.prog 68 #[.pointer (some ⟨g, 0, none⟩), .string (mkS b), .string (mkS k), .agg #[.int .i64 y.id, .bool y.mark, .int .i64 y.sz, .int .u32 y.sum], .slice A y.dt.length c] w fun e w' =>
      e = .returned (.tuple #[verOk (moreE (rsOf L b k) y) y, .int .i64 (moreE (rsOf L b k) y)]) ∧
      Moved Q w w' ∧ ∃ Q' F', RefM w' g B (rMoreL L b k y) b0 Q' F' ∧ (∀ j, Q' j → Q j ∨ w.heap.size ≤ j) ∧ ∀ j, F' j → F j ∨ w.heap.size ≤ j := by
  obtain ⟨yi, ym, ys, yu, yd⟩ := y
  obtain ⟨W1, hW1⟩ : ∃ W1, w.alloc (.cells #[.int .i64 yi, .bool ym, .int .i64 ys, .int .u32 yu] 38) = W1 := ⟨_, rfl⟩
  have hb1 : Below w.heap.size w W1 := by rw [← hW1]; exact (Below.refl _ _).alloc (Nat.le_refl _) _
  have HAt : Hid (∀ V, Below w.heap.size w V → Calls Tryz.prog 71 #[.pointer (some ⟨g, 0, none⟩), .string (mkS b), .string (mkS k)] V fun e w' => e = .returned (.int .i64 (atI L b k)) ∧ Below w.heap.size w w' ∧ Below V.heap.size V w') := fun V hV =>
    (rat_is V g B L b0 Q F b k (by omega) (hm.below hV)).mono fun e w' ⟨he, h2⟩ => ⟨he, hV.trans (h2.mono hV.size), h2⟩
  obtain ⟨W2, hW2⟩ : ∃ W2, W1.alloc (.cells #[.int .i64 0, .bool false, .int .i64 0, .int .u32 0] 38) = W2 := ⟨_, rfl⟩
  have s1 : W1.heap.size = w.heap.size + 1 := by rw [← hW1]; simp
  have s2 : W2.heap.size = w.heap.size + 2 := by rw [← hW2]; simp [s1]
  have hb2 : Below w.heap.size w W2 := by rw [← hW2]; exact hb1.alloc hb1.size _
  have hv2 : W2.heap[w.heap.size]? = some (.cells #[.int .i64 yi, .bool ym, .int .i64 ys, .int .u32 yu] 38 (0, 0)) := by
    have h : W1.heap[w.heap.size]? = some (.cells #[.int .i64 yi, .bool ym, .int .i64 ys, .int .u32 yu] 38 (0, 0)) := by rw [← hW1]; exact blk_new w _
    rw [← hW2]
    exact blk_below h ((Below.refl _ _).alloc (Nat.le_refl _) _)
  have hr2 : W2.heap[w.heap.size + 1]? = some (.cells #[.int .i64 0, .bool false, .int .i64 0, .int .u32 0] 38 (0, 0)) := by rw [← hW2, ← s1]; exact blk_new W1 _
  have HM := Lib.hid hm
  have HC := Lib.hid hC
  have HB2 := Lib.hid hb2
  clear hm hC hb1 hb2
  go_enter Tryz.func68, Tryz.ntmps68
  go_wp2_with fail
  refine (HAt.out _ HB2.out).mono ?_
  rintro e w3 ⟨rfl, hb3, hb3b⟩
  have HV3 := Lib.hid (And.intro (blk_below hv2 hb3b) (blk_below hr2 hb3b))
  have hs3 : w.heap.size + 2 ≤ w3.heap.size := by rw [← s2]; exact hb3b.size
  clear HAt hW1 hW2 hb3b hv2 hr2
  obtain ⟨ai, hai⟩ : ∃ ai, atI L b k = ai := ⟨_, rfl⟩
  rw [hai]
  have HB3 := Lib.hid hb3
  go_upto_if 20 with (fail)
  go_cut [12] (fun vi wx => ∃ (i : Nat), vi = .int .i64 i ∧ Hid (i = (atL L b k).2 ∧ Moved Q w wx ∧ wx.heap[w.heap.size]? = some (.cells #[.int .i64 yi, .bool ym, .int .i64 ys, .int .u32 yu] 38 (0, 0)) ∧ wx.heap[w.heap.size + 1]? = some (.cells #[.int .i64 0, .bool false, .int .i64 0, .int .u32 0] 38 (0, 0)) ∧ ∃ Q1, RefM wx g B (atL L b k).1 b0 Q1 F ∧ ∀ j, Q1 j → Q j ∨ w.heap.size + 2 ≤ j))
  case first =>
    rcases at_spec L b k with ⟨h1, h2⟩ | ⟨j, o, h1, h2, h3⟩
    · rw [hai] at h1
      subst h1
      have hal : atL L b k = (L ++ [⟨b, k, []⟩], L.length) := by
        have h := (List.findIdx?_eq_none_iff (p := atP b k) (xs := L)).2 h2
        unfold atL
        rw [h]
      obtain ⟨vb, vl, news, k1, k2, k3, k4, k5⟩ := HM.out.ex
      obtain ⟨c2, c3, rfl⟩ := own_slice k3
      have hk3 := blk_below k1 HB3.out
      have g1 : w3.cell? ⟨g, 1, none⟩ = some (.slice c2 L.length c3) := blk_cell hk3 1
      have z1 := blk_frozen hk3 1
      have HO3 : Hid (∀ o, (w3.alloc o).ownsRow b0 71 4 (.slice c2 L.length c3) L.length news) := fun o => pw_own_below k3 (HB3.out.alloc HB3.out.size o)
      have HK3 : Hid (∀ o, (w3.alloc o).heap[g]? = some (.cells #[vb, .slice c2 L.length c3] 62 (0, 0))) := fun o => blk_below k1 (HB3.out.alloc HB3.out.size o)
      have HNe : Hid (some g ≠ (Value.slice c2 L.length c3).ownBlock) := own_ne k3 k1 (by decide)
      have hbse : ∀ o, b0 ≤ (w3.alloc o).heap.size := fun o => Nat.le_trans hb0 (HB3.out.alloc HB3.out.size o).size
      have HX := Lib.hid (And.intro k1 (And.intro k2 (And.intro k3 (And.intro k4 k5))))
      clear k1 k2 k3 k4 k5 hk3 h2
      go_wp2_with (at_builtin; refine wpList_ap_lies apO (by rfl) (.tmp 25) (.tmp 29) (by rfl) (by rfl) (HO3.out _) (by rfl) (lies_obj w3 #[.string (mkS b), .string (mkS k), .slice none 0 0, .slice none 0 0] _ _ 1) (by rfl) (by simp [Value.oneCell']) (by omega) (hbse _) ?_; intro v4 w4 hown4 hgr4 hob4; obtain ⟨p4, c4, rfl⟩ := own_slice hown4; have hk4 := blk_grown (HK3.out _) hgr4 HNe.out; have g4 : w4.cell? ⟨g, 1, none⟩ = _ := blk_cell hk4 1; have z4 := blk_frozen hk4 1; have H4 := Lib.hid (And.intro hown4 (And.intro hgr4 (And.intro hob4 hk4))); clear hown4 hgr4 hob4 hk4)
      obtain ⟨m1, m2, m3, m4⟩ := HM.out.addO (b := b) (k := k) hb0 HX.out.1 HX.out.2.1 HX.out.2.2.1 HX.out.2.2.2.1 HX.out.2.2.2.2 (HB3.out.alloc HB3.out.size _) H4.out.1 H4.out.2.1 H4.out.2.2.1
      go_meet
      case rel =>
        refine ⟨L.length, rfl, by rw [hal], m1, (m4 _ (Nat.le_refl _) (by simp; omega)).trans ?_, (m4 _ (by omega) (by simp; omega)).trans ?_, _, by rw [hal]; exact m2, fun j hj => ?_⟩
        · exact blk_below HV3.out.1 ((Below.refl _ _).alloc (Nat.le_refl _) _)
        · exact blk_below HV3.out.2 ((Below.refl _ _).alloc (Nat.le_refl _) _)
        · rcases hj with rfl | hj
          · exact .inl HM.out.qg
          · exact (m3 j hj).imp_right fun e => by simp at e; omega
    · rw [hai] at h1
      subst h1
      have hal : atL L b k = (L, j) := by
        have h : L.findIdx? (atP b k) = some j := by
          cases hf : L.findIdx? (atP b k) with
          | none =>
            unfold atI at hai
            rw [hf] at hai
            have : (-1 : Int) = (j : Int) := hai
            omega
          | some j' =>
            unfold atI at hai
            rw [hf] at hai
            have : (j' : Int) = (j : Int) := hai
            rw [show j' = j by omega]
        unfold atL
        rw [h]
      have hjz : ¬ (j : Int) < 0 := by omega
      clear h2 h3
      go_wp2_with fail
      go_meet
      case rel => exact ⟨j, rfl, by rw [hal], Moved.of_below HB3.out, HV3.out.1, HV3.out.2, Q, by rw [hal]; exact HM.out.below HB3.out, fun j hj => .inl hj⟩
  case rest =>
    clear HV3 hs3 hai HB3 HB2 s1 s2 hb3
    obtain ⟨i, rfl, hcut⟩ := hcut
    obtain ⟨hi, hmv, hvb, hrb, Q1, hR1, hQ1⟩ := hcut.out
    clear hcut
    obtain ⟨L1, hL1⟩ : ∃ L1, (atL L b k).1 = L1 := ⟨_, rfl⟩
    obtain ⟨rs, hrsv⟩ : ∃ rs, rsOf L b k = rs := ⟨_, rfl⟩
    have hob := at_obj L b k
    rw [← hi, hL1, hrsv] at hob
    have hrl : rs.length ≤ 64 := by rw [← hrsv]; exact rsOf_len hrs b k
    have hll : L1.length ≤ 1001 := by rw [← hL1]; have := atL_len L b k; omega
    have hE : rMoreL L b k ⟨yi, ym, ys, yu, yd⟩ = if moreE rs ⟨yi, ym, ys, yu, yd⟩ = 0 then L1.set i ⟨b, k, rs ++ [⟨yi, ym, ys, yu, yd⟩]⟩ else L1 := by
      unfold rMoreL
      rw [hrsv, hL1, ← hi]
    rw [hL1] at hR1
    have HRV := Lib.hid hrsv
    have HE2 := Lib.hid hE
    obtain ⟨vb, vl, news, k1, k2, k3, k4, k5⟩ := hR1.ex
    have hil : i < L1.length := (List.getElem?_eq_some_iff.1 hob).1
    obtain ⟨gl, cl, rfl, _⟩ := k3.form (by omega)
    obtain ⟨vs, ds, e1, e2, e3⟩ := k4.2 i _ hob
    obtain ⟨vp, vc, rfl, hvc⟩ := e2.slice
    obtain ⟨dp, dc, rfl, hdc⟩ := e3.slice
    have hcell : ∀ t u, t < 4 → [Value.string (mkS b), .string (mkS k), .slice vp rs.length vc, .slice dp rs.length dc][t]? = some u → wc.cell? ⟨gl, i * 4 + t, none⟩ = some u := fun t u ht hu => by
      have := k3.cells (g := gl) rfl (i * 4 + t) u
      rw [add_plain] at this
      refine this ?_
      rw [← e1, List.getElem?_take, if_pos ht, List.getElem?_drop] at hu
      exact hu
    have c2 := hcell 2 _ (by omega) rfl
    have c3 := hcell 3 _ (by omega) rfl
    have g1 : wc.cell? ⟨g, 1, none⟩ = some (.slice (some ⟨gl, 0, none⟩) L1.length cl) := blk_cell k1 1
    have hilz : (i : Int) < (L1.length : Int) := by omega
    obtain ⟨v0, v1, v2, v3⟩ : wc.cell? ⟨w.heap.size, 0, none⟩ = some (.int .i64 yi) ∧ wc.cell? ⟨w.heap.size, 1, none⟩ = some (.bool ym) ∧ wc.cell? ⟨w.heap.size, 2, none⟩ = some (.int .i64 ys) ∧ wc.cell? ⟨w.heap.size, 3, none⟩ = some (.int .u32 yu) := ⟨blk_cell hvb 0, blk_cell hvb 1, blk_cell hvb 2, blk_cell hvb 3⟩
    obtain ⟨r0, r1, r2, r3⟩ : wc.cell? ⟨w.heap.size + 1, 0, none⟩ = some (.int .i64 0) ∧ wc.cell? ⟨w.heap.size + 1, 1, none⟩ = some (.bool false) ∧ wc.cell? ⟨w.heap.size + 1, 2, none⟩ = some (.int .i64 0) ∧ wc.cell? ⟨w.heap.size + 1, 3, none⟩ = some (.int .u32 0) := ⟨blk_cell hrb 0, blk_cell hrb 1, blk_cell hrb 2, blk_cell hrb 3⟩
    have HVb := Lib.hid hvb
    have HRb := Lib.hid hrb
    have HR1 := Lib.hid hR1
    have HX := Lib.hid (And.intro k1 (And.intro k2 (And.intro k3 (And.intro k4 k5))))
    have HE := Lib.hid (And.intro e1 (And.intro e2 e3))
    have HMv := Lib.hid hmv
    have HQ1 := Lib.hid hQ1
    have HOb := Lib.hid hob
    clear hcell k1 k2 k3 k4 k5 e1 e2 e3 hvb hrb hR1 hmv hQ1 hob hL1 hrsv hE hi
    have HErr : Hid (∀ (V : World) (er : Int) (e : Ending), moreE rs ⟨yi, ym, ys, yu, yd⟩ = er → er ≠ 0 → Only (w.heap.size + 1) (w.heap.size + 2) wc V → e = .returned (.tuple #[.agg #[.int .i64 0, .bool false, .int .i64 0, .int .u32 0], .int .i64 er]) →
        (e = .returned (.tuple #[verOk (moreE (rsOf L b k) ⟨yi, ym, ys, yu, yd⟩) ⟨yi, ym, ys, yu, yd⟩, .int .i64 (moreE (rsOf L b k) ⟨yi, ym, ys, yu, yd⟩)]) ∧
      Moved Q w V ∧ ∃ Q' F', RefM V g B (rMoreL L b k ⟨yi, ym, ys, yu, yd⟩) b0 Q' F' ∧ (∀ j, Q' j → Q j ∨ w.heap.size ≤ j) ∧ ∀ j, F' j → F j ∨ w.heap.size ≤ j)) := fun V er e h1 h2 h3 h4 => by
      have hvo : verOk er ⟨yi, ym, ys, yu, yd⟩ = .agg #[.int .i64 0, .bool false, .int .i64 0, .int .u32 0] := by unfold verOk; rw [if_neg h2]
      rw [HE2.out, HRV.out, h1, if_neg h2, hvo]
      have hv := HMv.out
      have hr := HR1.out
      refine ⟨h4, ⟨h3.os.trans hv.os, h3.tape.trans hv.tape, h3.output.trans hv.output, Nat.le_trans hv.size h3.size, fun j hj hq => (h3.block j (Nat.lt_of_lt_of_le hj hv.size) (.inl (by omega))).trans (hv.block j hj hq)⟩, Q1, F, hr.kept (fun j hj => h3.block j (isC_lt (hr.ic j hj)) ?_) h3.size, fun j hj => (HQ1.out j hj).imp_right fun e => by omega, fun j hj => .inl hj⟩
      rcases hj with hj | hj
      · rcases HQ1.out j hj with hq | hq
        · have := isC_lt (HM.out.ic j (.inl hq))
          exact .inl (by omega)
        · exact .inr hq
      · have := isC_lt (HM.out.ic j (.inr hj))
        exact .inl (by omega)
    have HO1 : Hid (∀ m, Only (w.heap.size + 1) (w.heap.size + 2) wc ((wc.drewN m).setRow (w.heap.size + 1) #[.int .i64 0, .bool false, .int .i64 0, .int .u32 0])) := fun m => ((Only.refl _ _ _).of_below (pw_below_drewN (Below.refl _ _) m)).row _ (Nat.le_refl _) (.inl (by omega))
    have HO0 : Hid (Only (w.heap.size + 1) (w.heap.size + 2) wc (wc.setRow (w.heap.size + 1) #[.int .i64 0, .bool false, .int .i64 0, .int .u32 0])) := (Only.refl _ _ _).row _ (Nat.le_refl _) (.inl (by omega))
    by_cases h64 : 64 ≤ rs.length
    · have hmE : moreE rs ⟨yi, ym, ys, yu, yd⟩ = 18 := if_pos h64
      have h64z : (64 : Int) ≤ (rs.length : Int) := by omega
      have HmE := Lib.hid hmE
      clear hmE
      go_wp2_with (refine wpList_store_row rfl 38 (.tmp 10) (.tmp 52) rfl (w.heap.size + 1) #[.int .i64 0, .bool false, .int .i64 0, .int .u32 0] rfl rfl 38 _ HRb.out (by kernel_rfl) rfl (by simp [Value.oneCell']) ?_)
      refine bodyPost_ret (results_ct rfl _ _ (w.heap.size + 1) 38 #[.int .i64 0, .bool false, .int .i64 0, .int .u32 0] (0, 0) _ rfl (setRow_heap _ _ _ _ _ _ HRb.out) Tryz.underlying38 rfl (by kernel_rfl)) rfl ?_
      exact HErr.out _ 18 _ HmE.out (by decide) HO0.out rfl
    have h64z : (rs.length : Int) < (64 : Int) := by omega
    have hE : moreE rs ⟨yi, ym, ys, yu, yd⟩ = if yi < 1 ∨ 2147483647 < yi then 1 else match rs.getLast? with
      | some y => if yi ≤ y.id then 1 else 0
      | none => 0 := by unfold moreE; rw [if_neg h64]; rfl
    by_cases h1 : yi < 1
    · have HmE : Hid (moreE rs ⟨yi, ym, ys, yu, yd⟩ = 1) := by show _ = _; rw [hE, if_pos (.inl h1)]
      have d1 : decide (yi < 1) = true := decide_eq_true h1
      clear hE h1 h64
      go_wp2_with fail
      go_quiet (fail)
      go_wp2_with (refine wpList_store_row rfl 38 (.tmp 10) (.tmp 79) rfl (w.heap.size + 1) #[.int .i64 0, .bool false, .int .i64 0, .int .u32 0] rfl rfl 38 _ HRb.out (by kernel_rfl) rfl (by simp [Value.oneCell']) ?_)
      refine bodyPost_ret (results_ct rfl _ _ (w.heap.size + 1) 38 #[.int .i64 0, .bool false, .int .i64 0, .int .u32 0] (0, 0) _ rfl (setRow_heap _ _ _ _ _ _ HRb.out) Tryz.underlying38 rfl (by kernel_rfl)) rfl ?_
      exact HErr.out _ 1 _ HmE.out (by decide) (HO1.out _) rfl
    have d1 : decide (yi < 1) = false := decide_eq_false h1
    by_cases h2 : 2147483647 < yi
    · have HmE : Hid (moreE rs ⟨yi, ym, ys, yu, yd⟩ = 1) := by show _ = _; rw [hE, if_pos (.inr h2)]
      have d2 : decide (2147483647 < yi) = true := decide_eq_true h2
      clear hE h1 h2 h64
      go_wp2_with fail
      go_quiet (fail)
      go_wp2_with (refine wpList_store_row rfl 38 (.tmp 10) (.tmp 79) rfl (w.heap.size + 1) #[.int .i64 0, .bool false, .int .i64 0, .int .u32 0] rfl rfl 38 _ HRb.out (by kernel_rfl) rfl (by simp [Value.oneCell']) ?_)
      refine bodyPost_ret (results_ct rfl _ _ (w.heap.size + 1) 38 #[.int .i64 0, .bool false, .int .i64 0, .int .u32 0] (0, 0) _ rfl (setRow_heap _ _ _ _ _ _ HRb.out) Tryz.underlying38 rfl (by kernel_rfl)) rfl ?_
      exact HErr.out _ 1 _ HmE.out (by decide) (HO1.out _) rfl
    have d2 : decide (2147483647 < yi) = false := decide_eq_false h2
    have hE2 : moreE rs ⟨yi, ym, ys, yu, yd⟩ = match rs.getLast? with
      | some y => if yi ≤ y.id then 1 else 0
      | none => 0 := by rw [hE, if_neg (by omega)]
    clear hE h1 h2 h64
    cases hl : rs.getLast? with
    | none =>
      have hnil : rs = [] := List.getLast?_eq_none_iff.1 hl
      subst hnil
      have HmE : Hid (moreE [] ⟨yi, ym, ys, yu, yd⟩ = 0) := hE2
      clear hE2 hl
      obtain ⟨nv, hnv, rnv⟩ := HE.out.2.1
      obtain ⟨nd, hnd, rnd⟩ := HE.out.2.2
      have hnvl : nv.length = 0 * 4 := rnv.1
      have HLv : Hid (∀ V, Below wc.heap.size wc V → LiesAt V (.slice vp 0 vc) 0 nv) := fun V hV => hnv.lies.below hV
      have HOv : Hid (∀ u ∈ nv, u.oneCell' = true) := rg_ones rnv (by decide) (fun p c hp u hu => by rw [show c = _ from hp] at hu; simp at hu; rcases hu with rfl | rfl | rfl | rfl <;> rfl)
      have HRv := Lib.hid rnv
      have HNd := Lib.hid (And.intro hnd rnd)
      have HFg : Hid (∀ V, Below wc.heap.size wc V → V.frozen? ⟨gl, i * 4 + 2, none⟩ = false) := fun V hV => (pw_own_below HX.out.2.2.1 hV).frozenAt _
      clear hnv hnd rnv rnd
      go_wp2_with fail
      go_quiet (fail)
      go_wp2_with fail
      go_upto_region 11 with (fail)
      go_cut [14] (fun vn wx => vn = .int .i64 0 ∧ ∃ (wb : World) (p2 : Option Addr) (q2 : Nat), wx = wb.setCell ⟨gl, i * 4 + 2, none⟩ (.slice p2 (0 + 1) q2) ∧ Hid (Below wc.heap.size wc wb) ∧ Hid (wb.ownsRow wc.heap.size 38 4 (.slice p2 (0 + 1) q2) (0 + 1) (nv ++ [.int .i64 yi, .bool ym, .int .i64 ys, .int .u32 yu])))
      case first =>
        have HB5 : Hid (Below wc.heap.size wc (wc.drewN (nq + 1))) := pw_below_drewN (Below.refl _ _) (nq + 1)
        have c2a : ∀ o, (wc.alloc o).cell? ⟨gl, i * 4 + 2, none⟩ = some (.slice vp 0 vc) := fun o => pw_cell_below ((Below.refl _ _).alloc (Nat.le_refl _) o) c2
        have v0a : ∀ o, (wc.alloc o).cell? ⟨w.heap.size, 0, none⟩ = some (.int .i64 yi) := fun o => pw_cell_below ((Below.refl _ _).alloc (Nat.le_refl _) o) v0
        have v1a : ∀ o, (wc.alloc o).cell? ⟨w.heap.size, 1, none⟩ = some (.bool ym) := fun o => pw_cell_below ((Below.refl _ _).alloc (Nat.le_refl _) o) v1
        have v2a : ∀ o, (wc.alloc o).cell? ⟨w.heap.size, 2, none⟩ = some (.int .i64 ys) := fun o => pw_cell_below ((Below.refl _ _).alloc (Nat.le_refl _) o) v2
        have v3a : ∀ o, (wc.alloc o).cell? ⟨w.heap.size, 3, none⟩ = some (.int .u32 yu) := fun o => pw_cell_below ((Below.refl _ _).alloc (Nat.le_refl _) o) v3
        have c2c : ∀ o, ((wc.drewN (nq + 1)).alloc o).cell? ⟨gl, i * 4 + 2, none⟩ = some (.slice vp 0 vc) := fun o => pw_cell_below (HB5.out.alloc HB5.out.size o) c2
        go_region_law
          (first
          | (refine step_ap_lies (base := wc.heap.size) (n := 0) (m := 0) (xs := []) (cs := nv) apV (by rfl) (.const (.slice none 0 0)) (.tmp 84) (by rfl) (by rfl) (own_nil _ _ _ _) (by rfl) (HLv.out _ (by first | exact HB5.out | exact HB5.out.alloc HB5.out.size _)) hnvl HOv.out (by omega) (by first | exact HB5.out.size | exact (HB5.out.alloc HB5.out.size _).size) ?_; intro u1 wa hown1 hgr1 _; have HO1 := Lib.hid hown1; have HBa : Hid (Below wc.heap.size wc wa) := Below.grown (by first | exact HB5.out | exact HB5.out.alloc HB5.out.size _) hgr1 (by first | exact HB5.out.size | exact (HB5.out.alloc HB5.out.size _).size) (fun k hk => by cases hk); have HG1 := Lib.hid hgr1; clear hown1 hgr1; have c2b := pw_cell_below HBa.out c2; have v0b := pw_cell_below HBa.out v0; have v1b := pw_cell_below HBa.out v1; have v2b := pw_cell_below HBa.out v2; have v3b := pw_cell_below HBa.out v3)
          | (refine step_ap_lies (base := wc.heap.size) (n := 0 + 0) (m := 1) (xs := [] ++ nv) (cs := [.int .i64 yi, .bool ym, .int .i64 ys, .int .u32 yu]) apV (by rfl) (.tmp 85) (.tmp 87) (by rfl) (by rfl) (pw_own_below HO1.out ((Below.refl _ _).alloc (Nat.le_refl _) _)) (by rfl) (lies_obj wa #[.int .i64 yi, .bool ym, .int .i64 ys, .int .u32 yu] _ _ 1) (by rfl) (by simp [Value.oneCell']) (by omega) (HBa.out.alloc HBa.out.size _).size ?_; intro u2 wb hown2 hgr2 _; rw [Nat.zero_add, List.nil_append] at hown2; obtain ⟨p2, q2, rfl⟩ := own_slice hown2; have HO2 := Lib.hid hown2; have HBb : Hid (Below wc.heap.size wc wb) := (HBa.out.alloc HBa.out.size _).grown hgr2 (HBa.out.alloc HBa.out.size _).size (fun k hk => own_ge HO1.out k hk); clear hown2 hgr2; have cbb := pw_cell_below HBb.out c2; have fbb := HFg.out _ HBb.out)
          | (refine step_ap_lies (base := wc.heap.size) (n := 0 + 0) (m := 1) (xs := [] ++ nv) (cs := [.int .i64 yi, .bool ym, .int .i64 ys, .int .u32 yu]) apV (by rfl) (.tmp 85) (.tmp 87) (by rfl) (by rfl) HO1.out (by rfl) ((lies_obj (wc.drewN (nq + 1)) #[.int .i64 yi, .bool ym, .int .i64 ys, .int .u32 yu] _ _ 1).grown HG1.out (fun _ _ _ _ h => by cases h)) (by rfl) (by simp [Value.oneCell']) (by omega) HBa.out.size ?_; intro u2 wb hown2 hgr2 _; rw [Nat.zero_add, List.nil_append] at hown2; obtain ⟨p2, q2, rfl⟩ := own_slice hown2; have HO2 := Lib.hid hown2; have HBb : Hid (Below wc.heap.size wc wb) := HBa.out.grown hgr2 HBa.out.size (fun k hk => own_ge HO1.out k hk); clear hown2 hgr2; have cbb := pw_cell_below HBb.out c2; have fbb := HFg.out _ HBb.out)
          | fail)
        all_goals
          go_wp2_with fail
          go_meet
          exact ⟨rfl, wb, p2, q2, rfl, HBb, HO2⟩
      case rest =>
        obtain ⟨rfl, wb, p2, q2, rfl, HBb, HO2⟩ := hcut
        obtain ⟨W6, hW6⟩ : ∃ W6, wb.setCell ⟨gl, i * 4 + 2, none⟩ (.slice p2 (0 + 1) q2) = W6 := ⟨_, rfl⟩
        have hq1 : Q1 gl := HX.out.2.2.2.2 gl rfl
        have hgl : gl < wc.heap.size := isC_lt (HR1.out.ic gl (.inl hq1))
        have hglv : gl ≠ w.heap.size ∧ gl ≠ w.heap.size + 1 := by
          rcases HQ1.out gl hq1 with hq | hq
          · have := isC_lt (HM.out.ic gl (.inl hq))
            omega
          · omega
        have hws : w.heap.size + 2 ≤ wc.heap.size := blk_lt HRb.out
        have ho6 : W6.ownsRow b0 71 4 (.slice (some ⟨gl, 0, none⟩) L1.length cl) L1.length (news.set (i * 4 + 2) (.slice p2 (0 + 1) q2)) := by
          rw [← hW6]
          exact ((pw_own_below HX.out.2.2.1 HBb.out).stored _ _).1
        have n3 : news[i * 4 + 3]? = some (.slice dp 0 dc) := by
          have h := congrArg (fun l : List Value => l[3]?) HE.out.1
          simpa [List.getElem?_take, List.getElem?_drop] using h
        have c3w : W6.cell? ⟨gl, i * 4 + 3, none⟩ = some (.slice dp 0 dc) := by
          rw [ho6.cellAt _ (by omega), List.getElem?_set, if_neg (by omega)]
          exact n3
        have HFr : Hid (∀ V, Below W6.heap.size W6 V → V.frozen? ⟨gl, i * 4 + 3, none⟩ = false) := fun V hV => (pw_own_below ho6 hV).frozenAt _
        have hs6 : W6.heap.size = wb.heap.size := by rw [← hW6]; simp
        have hmv6 : Moved Q1 wc W6 := by
          rw [← hW6]
          exact (Moved.of_below (Q := Q1) HBb.out).trans (moved_set (Q := Q1) wb hq1 _ _) (fun _ hi => .inl hi)
        have HFK : Hid (FKept F wc W6) := fun j hj => hmv6.block j (isC_lt (HR1.out.ic j (.inr hj))) (fun q => HR1.out.ap j q hj)
        have hF6 : ∀ j, F j → j < W6.heap.size := fun j hj => Nat.lt_of_lt_of_le (isC_lt (HR1.out.ic j (.inr hj))) hmv6.size
        have HFV : Hid (∀ V, Below W6.heap.size W6 V → FKept F wc V) := fun V hV => HFK.out.trans (fun j hj => hV.block j (hF6 j hj))
        have HLd : Hid (∀ V, Below W6.heap.size W6 V → LiesAt V (.slice dp 0 dc) 0 nd) := fun V hV => (HNd.out.1.kept (HFV.out V hV)).lies
        have HLy : Hid (∀ V, Below W6.heap.size W6 V → LiesAd V (.slice A yd.length c) yd.length ((byN yd).map (Value.int .u8))) := fun V hV =>
          lies_of_C (HC.out V ((HMv.out.trans hmv6 (fun j hj => (HQ1.out j hj).imp_right fun e => by omega)).trans (Moved.of_below (Q := Q) hV) (fun _ hi => .inl hi))) c
        have hndl : nd.length = 0 * 1 := HNd.out.2.1
        have HOd : Hid (∀ u ∈ nd, u.oneCell' = true) := rg_ones HNd.out.2 (by decide) (fun p c hp u hu => by
          obtain ⟨a1, a2, a3, _⟩ := hp
          rw [a3, List.mem_singleton] at hu
          subst hu
          rfl)
        have HOy : Hid (∀ u ∈ (byN yd).map (Value.int .u8), u.oneCell' = true) := fun u hu => by
          obtain ⟨a1, _, rfl⟩ := List.mem_map.1 hu
          rfl
        have HV6 : Hid (∀ V, Below W6.heap.size W6 V → V.heap[w.heap.size]? = some (.cells #[.int .i64 yi, .bool ym, .int .i64 ys, .int .u32 yu] 38 (0, 0)) ∧ V.heap[w.heap.size + 1]? = some (.cells #[.int .i64 0, .bool false, .int .i64 0, .int .u32 0] 38 (0, 0))) := fun V hV => by
          have hbs := HBb.out.size
          have f1 : W6.heap[w.heap.size]? = some (.cells #[.int .i64 yi, .bool ym, .int .i64 ys, .int .u32 yu] 38 (0, 0)) := by rw [← hW6]; exact (Below.heap_setCell wb ⟨gl, i * 4 + 2, none⟩ _ w.heap.size hglv.1.symm).trans (blk_below HVb.out HBb.out)
          have f2 : W6.heap[w.heap.size + 1]? = some (.cells #[.int .i64 0, .bool false, .int .i64 0, .int .u32 0] 38 (0, 0)) := by rw [← hW6]; exact (Below.heap_setCell wb ⟨gl, i * 4 + 2, none⟩ _ (w.heap.size + 1) hglv.2.symm).trans (blk_below HRb.out HBb.out)
          exact ⟨blk_below f1 hV, blk_below f2 hV⟩
        have hbse : wc.heap.size ≤ W6.heap.size := hmv6.size
        have HRf : Hid (∀ V, Below W6.heap.size W6 V → ∀ u, (V.setCell ⟨gl, i * 4 + 3, none⟩ u).heap[w.heap.size + 1]? = some (.cells #[.int .i64 0, .bool false, .int .i64 0, .int .u32 0] 38 (0, 0))) := fun V hV u => (Below.heap_setCell V ⟨gl, i * 4 + 3, none⟩ u (w.heap.size + 1) hglv.2.symm).trans (HV6.out V hV).2
        have HEnd : Hid (∀ (wd : World) (p5 : Option Addr) (q5 : Nat) (p4 : Option Addr) (q4 : Nat), Below W6.heap.size W6 wd → wd.ownsRow W6.heap.size 30 1 (.slice p5 (0 + 1) q5) (0 + 1) (nd ++ [.slice p4 yd.length q4]) → wd.ownsRow W6.heap.size 5 1 (.slice p4 yd.length q4) yd.length ((byN yd).map (Value.int .u8)) → ∀ e : Ending, e = .returned (.tuple #[.agg #[.int .i64 yi, .bool ym, .int .i64 ys, .int .u32 yu], .int .i64 0]) →
            (e = .returned (.tuple #[verOk (moreE (rsOf L b k) ⟨yi, ym, ys, yu, yd⟩) ⟨yi, ym, ys, yu, yd⟩, .int .i64 (moreE (rsOf L b k) ⟨yi, ym, ys, yu, yd⟩)]) ∧
            Moved Q w ((wd.setCell ⟨gl, i * 4 + 3, none⟩ (.slice p5 (0 + 1) q5)).setRow (w.heap.size + 1) #[.int .i64 yi, .bool ym, .int .i64 ys, .int .u32 yu]) ∧ ∃ Q' F', RefM ((wd.setCell ⟨gl, i * 4 + 3, none⟩ (.slice p5 (0 + 1) q5)).setRow (w.heap.size + 1) #[.int .i64 yi, .bool ym, .int .i64 ys, .int .u32 yu]) g B (rMoreL L b k ⟨yi, ym, ys, yu, yd⟩) b0 Q' F' ∧ (∀ j, Q' j → Q j ∨ w.heap.size ≤ j) ∧ ∀ j, F' j → F j ∨ w.heap.size ≤ j)) := fun wd p5 q5 p4 q4 hbd ho5 ho4 e he => by
          have hvo : verOk 0 ⟨yi, ym, ys, yu, yd⟩ = .agg #[.int .i64 yi, .bool ym, .int .i64 ys, .int .u32 yu] := rfl
          rw [HE2.out, HRV.out, HmE.out, if_pos rfl, hvo]
          have hlen : ([] ++ [(⟨yi, ym, ys, yu, yd⟩ : Kp)]).length = 0 + 1 := by simp
          obtain ⟨m1, m2⟩ := HR1.out.setO (i := i) (rs' := [] ++ [⟨yi, ym, ys, yu, yd⟩]) (v2 := .slice p2 (0 + 1) q2) (v5 := .slice p5 (0 + 1) q5) (Fb := fun k => (Value.slice p4 yd.length q4).ownBlock = some k) (Nat.le_trans hb0 HMv.out.size) HX.out.1 HX.out.2.1 HX.out.2.2.1 HX.out.2.2.2.1 HX.out.2.2.2.2 HOb.out HE.out.1 HBb.out (by rw [hW6]; exact hbd) (by rw [hlen]; exact HO2.out) (rg_app (HRv.out.imp_ fun _ _ h => h) (reps_sing rfl rfl)) (by rw [hlen]; exact own_weaken ho5 hbse)
            (fun k hk => ⟨Nat.le_trans hbse (own_ge ho4 k hk), by obtain ⟨cells, hc⟩ := own_typed ho4 k hk; exact ⟨_, _, _, hc⟩⟩) (rg_app ((HNd.out.2.imp_ fun _ _ hp => dat_stays.kept hp (HFV.out wd hbd)).imp_ fun _ _ hp => dat_stays.mono hp fun _ hk => .inl hk) (reps_sing (dat_own ho4 fun k hk => .inr hk) rfl))
          have h3 : Only (w.heap.size + 1) (w.heap.size + 2) (wd.setCell ⟨gl, i * 4 + 3, none⟩ (.slice p5 (0 + 1) q5)) ((wd.setCell ⟨gl, i * 4 + 3, none⟩ (.slice p5 (0 + 1) q5)).setRow (w.heap.size + 1) #[.int .i64 yi, .bool ym, .int .i64 ys, .int .u32 yu]) := (Only.refl _ _ _).row _ (Nat.le_refl _) (.inl (by omega))
          have hv := HMv.out.trans m1 (fun j hj => (HQ1.out j hj).imp_right fun e => by omega)
          refine ⟨he, ⟨h3.os.trans hv.os, h3.tape.trans hv.tape, h3.output.trans hv.output, Nat.le_trans hv.size h3.size, fun j hj hq => (h3.block j (Nat.lt_of_lt_of_le hj hv.size) (.inl (by omega))).trans (hv.block j hj hq)⟩, _, _, m2.kept (fun j hj => h3.block j (isC_lt (m2.ic j hj)) ?_) h3.size, fun j hj => ?_, fun j hj => ?_⟩
          · rcases hj with (rfl | rfl) | (hj | hj) | hj | hj
            · have := isC_lt (HM.out.ic _ (.inl HM.out.qg))
              exact .inl (by omega)
            · rcases HQ1.out _ hq1 with hq | hq
              · have := isC_lt (HM.out.ic _ (.inl hq))
                exact .inl (by omega)
              · exact .inr hq
            · have := isC_lt (HM.out.ic j (.inr hj))
              exact .inl (by omega)
            · have := own_ge ho4 j hj
              exact .inr (by omega)
            · have := own_ge HO2.out j hj
              exact .inr (by omega)
            · have := own_ge ho5 j hj
              exact .inr (by omega)
          · rcases hj with rfl | rfl
            · exact .inl HM.out.qg
            · exact (HQ1.out _ hq1).imp_right fun e => by omega
          · rcases hj with (hj | hj) | hj | hj
            · exact .inl hj
            · have := own_ge ho4 j hj
              exact .inr (by omega)
            · have := own_ge HO2.out j hj
              exact .inr (by omega)
            · have := own_ge ho5 j hj
              exact .inr (by omega)
        have HW6 := Lib.hid hW6
        have Hmv6 := Lib.hid hmv6
        have Ho6 := Lib.hid ho6
        have hgv := hglv.1
        have hgr' := hglv.2
        rw [hW6]
        clear hW6 hmv6 ho6 n3 hF6 hglv hq1 hgl hws
        go_wp2_with (first
          | (at_builtin; refine wpList_ap_lies (base := W6.heap.size) (n := 0) (m := 0) (xs := []) (cs := nd) apD (by rfl) (.const (.slice none 0 0)) (.tmp 95) (by rfl) (by rfl) (own_nil _ _ _ _) (by rfl) (HLd.out _ (Below.refl _ _)) hndl HOd.out (by omega) (Nat.le_refl _) ?_; intro u1 wa hown1 hgr1 _; have HO1 := Lib.hid hown1; have HBa : Hid (Below W6.heap.size W6 wa) := Below.grown (Below.refl _ _) hgr1 (Nat.le_refl _) (fun k hk => by cases hk); clear hown1 hgr1)
          | (at_builtin; refine wpList_ap_ad (base := W6.heap.size) (n := 0) (m := yd.length) (xs := []) (cs := (byN yd).map (Value.int .u8)) apB (by rfl) (.const (.slice none 0 0)) (.tmp 97) (by rfl) (by rfl) (own_nil _ _ _ _) (by rfl) (HLy.out _ HBa.out) (by rw [List.length_map, byN_length, Nat.mul_one]) HOy.out (by omega) HBa.out.size ?_; intro u4 wy hown4 hgr4 _; rw [Nat.zero_add, List.nil_append] at hown4; obtain ⟨p4, q4, rfl⟩ := own_slice hown4; have HO4 := Lib.hid hown4; have hby : Below wa.heap.size wa wy := Below.grown (Below.refl _ _) hgr4 (Nat.le_refl _) (fun k hk => by cases hk); have HBy : Hid (Below W6.heap.size W6 wy) := HBa.out.trans (hby.mono HBa.out.size); have HO1y := Lib.hid (pw_own_below HO1.out hby); clear hown4 hgr4 hby)
          | (at_builtin; refine wpList_ap_lies (base := W6.heap.size) (n := 0 + 0) (m := 1) (xs := [] ++ nd) (cs := [.slice p4 yd.length q4]) apD (by rfl) (.tmp 96) (.tmp 99) (by rfl) (by rfl) (pw_own_below HO1y.out ((Below.refl _ _).alloc (Nat.le_refl _) _)) (by rfl) (lies_obj wy #[.slice p4 yd.length q4] _ _ 1) (by rfl) (by simp [Value.oneCell']) (by omega) (HBy.out.alloc HBy.out.size _).size ?_; intro u5 wd hown5 hgr5 _; rw [Nat.zero_add, List.nil_append] at hown5; obtain ⟨p5, q5, rfl⟩ := own_slice hown5; have HO5 := Lib.hid hown5; have HBd : Hid (Below W6.heap.size W6 wd) := (HBy.out.alloc HBy.out.size _).grown hgr5 (HBy.out.alloc HBy.out.size _).size (fun k hk => own_ge HO1y.out k hk); have HO4d := Lib.hid (own_other (pw_own_below HO4.out ((Below.refl _ _).alloc (Nat.le_refl _) _)) hgr5 (own_type_ne HO4.out HO1y.out (by decide))); clear hown5 hgr5; have cdd := pw_cell_below HBd.out c3w; have fdd := HFr.out _ HBd.out; have hvd := (HV6.out _ HBd.out).1; have vd0 : wd.cell? ⟨w.heap.size, 0, none⟩ = some (.int .i64 yi) := blk_cell hvd 0; have vd1 : wd.cell? ⟨w.heap.size, 1, none⟩ = some (.bool ym) := blk_cell hvd 1; have vd2 : wd.cell? ⟨w.heap.size, 2, none⟩ = some (.int .i64 ys) := blk_cell hvd 2; have vd3 : wd.cell? ⟨w.heap.size, 3, none⟩ = some (.int .u32 yu) := blk_cell hvd 3; clear hvd)
          | (refine wpList_store_row rfl 38 (.tmp 10) (.tmp 103) rfl (w.heap.size + 1) #[.int .i64 yi, .bool ym, .int .i64 ys, .int .u32 yu] rfl rfl 38 _ (HRf.out _ HBd.out _) (by kernel_rfl) rfl (by simp [Value.oneCell']) ?_)
          | fail)
        refine bodyPost_ret (results_ct rfl _ _ (w.heap.size + 1) 38 #[.int .i64 yi, .bool ym, .int .i64 ys, .int .u32 yu] (0, 0) _ rfl (setRow_heap _ _ _ _ _ _ (HRf.out _ HBd.out _)) Tryz.underlying38 rfl (by kernel_rfl)) rfl ?_
        exact HEnd.out wd p5 q5 p4 q4 HBd.out HO5.out HO4d.out _ (by rfl)
    | some z =>
      rw [hl] at hE2
      have hne : rs ≠ [] := fun e => by rw [e] at hl; cases hl
      have hpos := List.length_pos_iff.2 hne
      obtain ⟨m1, hm1⟩ : ∃ m1, rs.length = m1 + 1 := ⟨rs.length - 1, by omega⟩
      have hz2 : rs[m1]? = some z := by rw [List.getLast?_eq_getElem?, hm1] at hl; exact hl
      obtain ⟨gv, cv, csv, ev, _, hpv, hcv⟩ := HE.out.2.1.at_ m1 hz2
      injection ev with ev _ ev3
      subst ev
      subst ev3
      have y0 := hcv 0 (.int .i64 z.id) (by omega) (by rw [hpv]; rfl)
      rw [Nat.add_zero] at y0
      have wm : IntKind.i64.wrap ((rs.length : Int) - 1) = (m1 : Int) := by rw [IntWalk.i64_in _ (by omega)]; omega
      have nn : (m1 : Int) < (rs.length : Int) := by omega
      have n0 : (0 : Int) ≤ (m1 : Int) := by omega
      have hm0 : (0 : Int) < (rs.length : Int) := by omega
      have hm0n : 0 < rs.length := hpos
      clear hcv hpv hz2 hl hne hm1
      by_cases h3 : yi ≤ z.id
      · have HmE : Hid (moreE rs ⟨yi, ym, ys, yu, yd⟩ = 1) := by show _ = _; rw [hE2]; exact if_pos h3
        have d3 : decide (yi ≤ z.id) = true := decide_eq_true h3
        clear hE2 h3
        go_wp2_with fail
        go_quiet (fail)
        go_wp2_with (refine wpList_store_row rfl 38 (.tmp 10) (.tmp 79) rfl (w.heap.size + 1) #[.int .i64 0, .bool false, .int .i64 0, .int .u32 0] rfl rfl 38 _ HRb.out (by kernel_rfl) rfl (by simp [Value.oneCell']) ?_)
        refine bodyPost_ret (results_ct rfl _ _ (w.heap.size + 1) 38 #[.int .i64 0, .bool false, .int .i64 0, .int .u32 0] (0, 0) _ rfl (setRow_heap _ _ _ _ _ _ HRb.out) Tryz.underlying38 rfl (by kernel_rfl)) rfl ?_
        exact HErr.out _ 1 _ HmE.out (by decide) (HO1.out _) rfl
      · have HmE : Hid (moreE rs ⟨yi, ym, ys, yu, yd⟩ = 0) := by show _ = _; rw [hE2]; exact if_neg h3
        have d3 : decide (yi ≤ z.id) = false := decide_eq_false h3
        clear hE2 h3
        obtain ⟨nv, hnv, rnv⟩ := HE.out.2.1
        obtain ⟨nd, hnd, rnd⟩ := HE.out.2.2
        have hnvl : nv.length = rs.length * 4 := rnv.1
        have HLv : Hid (∀ V, Below wc.heap.size wc V → LiesAt V (.slice (some ⟨gv, 0, none⟩) rs.length vc) rs.length nv) := fun V hV => hnv.lies.below hV
        have HOv : Hid (∀ u ∈ nv, u.oneCell' = true) := rg_ones rnv (by decide) (fun p c hp u hu => by rw [show c = _ from hp] at hu; simp at hu; rcases hu with rfl | rfl | rfl | rfl <;> rfl)
        have HRv := Lib.hid rnv
        have HNd := Lib.hid (And.intro hnd rnd)
        have HFg : Hid (∀ V, Below wc.heap.size wc V → V.frozen? ⟨gl, i * 4 + 2, none⟩ = false) := fun V hV => (pw_own_below HX.out.2.2.1 hV).frozenAt _
        clear hnv hnd rnv rnd
        go_wp2_with fail
        go_quiet (fail)
        go_upto_region 11 with (fail)
        go_cut [14] (fun vn wx => vn = .int .i64 rs.length ∧ ∃ (wb : World) (p2 : Option Addr) (q2 : Nat), wx = wb.setCell ⟨gl, i * 4 + 2, none⟩ (.slice p2 (rs.length + 1) q2) ∧ Hid (Below wc.heap.size wc wb) ∧ Hid (wb.ownsRow wc.heap.size 38 4 (.slice p2 (rs.length + 1) q2) (rs.length + 1) (nv ++ [.int .i64 yi, .bool ym, .int .i64 ys, .int .u32 yu])))
        case first =>
          have HB5 : Hid (Below wc.heap.size wc (wc.drewN (nq + 1))) := pw_below_drewN (Below.refl _ _) (nq + 1)
          have c2a : ∀ o, (wc.alloc o).cell? ⟨gl, i * 4 + 2, none⟩ = some (.slice (some ⟨gv, 0, none⟩) rs.length vc) := fun o => pw_cell_below ((Below.refl _ _).alloc (Nat.le_refl _) o) c2
          have v0a : ∀ o, (wc.alloc o).cell? ⟨w.heap.size, 0, none⟩ = some (.int .i64 yi) := fun o => pw_cell_below ((Below.refl _ _).alloc (Nat.le_refl _) o) v0
          have v1a : ∀ o, (wc.alloc o).cell? ⟨w.heap.size, 1, none⟩ = some (.bool ym) := fun o => pw_cell_below ((Below.refl _ _).alloc (Nat.le_refl _) o) v1
          have v2a : ∀ o, (wc.alloc o).cell? ⟨w.heap.size, 2, none⟩ = some (.int .i64 ys) := fun o => pw_cell_below ((Below.refl _ _).alloc (Nat.le_refl _) o) v2
          have v3a : ∀ o, (wc.alloc o).cell? ⟨w.heap.size, 3, none⟩ = some (.int .u32 yu) := fun o => pw_cell_below ((Below.refl _ _).alloc (Nat.le_refl _) o) v3
          have c2c : ∀ o, ((wc.drewN (nq + 1)).alloc o).cell? ⟨gl, i * 4 + 2, none⟩ = some (.slice (some ⟨gv, 0, none⟩) rs.length vc) := fun o => pw_cell_below (HB5.out.alloc HB5.out.size o) c2
          go_region_law
            (first
            | (refine step_ap_lies (base := wc.heap.size) (n := 0) (m := rs.length) (xs := []) (cs := nv) apV (by rfl) (.const (.slice none 0 0)) (.tmp 84) (by rfl) (by rfl) (own_nil _ _ _ _) (by rfl) (HLv.out _ (by first | exact HB5.out | exact HB5.out.alloc HB5.out.size _)) hnvl HOv.out (by omega) (by first | exact HB5.out.size | exact (HB5.out.alloc HB5.out.size _).size) ?_; intro u1 wa hown1 hgr1 _; have HO1 := Lib.hid hown1; have HBa : Hid (Below wc.heap.size wc wa) := Below.grown (by first | exact HB5.out | exact HB5.out.alloc HB5.out.size _) hgr1 (by first | exact HB5.out.size | exact (HB5.out.alloc HB5.out.size _).size) (fun k hk => by cases hk); have HG1 := Lib.hid hgr1; clear hown1 hgr1; have c2b := pw_cell_below HBa.out c2; have v0b := pw_cell_below HBa.out v0; have v1b := pw_cell_below HBa.out v1; have v2b := pw_cell_below HBa.out v2; have v3b := pw_cell_below HBa.out v3)
            | (refine step_ap_lies (base := wc.heap.size) (n := 0 + rs.length) (m := 1) (xs := [] ++ nv) (cs := [.int .i64 yi, .bool ym, .int .i64 ys, .int .u32 yu]) apV (by rfl) (.tmp 85) (.tmp 87) (by rfl) (by rfl) (pw_own_below HO1.out ((Below.refl _ _).alloc (Nat.le_refl _) _)) (by rfl) (lies_obj wa #[.int .i64 yi, .bool ym, .int .i64 ys, .int .u32 yu] _ _ 1) (by rfl) (by simp [Value.oneCell']) (by omega) (HBa.out.alloc HBa.out.size _).size ?_; intro u2 wb hown2 hgr2 _; rw [Nat.zero_add, List.nil_append] at hown2; obtain ⟨p2, q2, rfl⟩ := own_slice hown2; have HO2 := Lib.hid hown2; have HBb : Hid (Below wc.heap.size wc wb) := (HBa.out.alloc HBa.out.size _).grown hgr2 (HBa.out.alloc HBa.out.size _).size (fun k hk => own_ge HO1.out k hk); clear hown2 hgr2; have cbb := pw_cell_below HBb.out c2; have fbb := HFg.out _ HBb.out)
            | (refine step_ap_lies (base := wc.heap.size) (n := 0 + rs.length) (m := 1) (xs := [] ++ nv) (cs := [.int .i64 yi, .bool ym, .int .i64 ys, .int .u32 yu]) apV (by rfl) (.tmp 85) (.tmp 87) (by rfl) (by rfl) HO1.out (by rfl) ((lies_obj (wc.drewN (nq + 1)) #[.int .i64 yi, .bool ym, .int .i64 ys, .int .u32 yu] _ _ 1).grown HG1.out (fun _ _ _ _ h => by cases h)) (by rfl) (by simp [Value.oneCell']) (by omega) HBa.out.size ?_; intro u2 wb hown2 hgr2 _; rw [Nat.zero_add, List.nil_append] at hown2; obtain ⟨p2, q2, rfl⟩ := own_slice hown2; have HO2 := Lib.hid hown2; have HBb : Hid (Below wc.heap.size wc wb) := HBa.out.grown hgr2 HBa.out.size (fun k hk => own_ge HO1.out k hk); clear hown2 hgr2; have cbb := pw_cell_below HBb.out c2; have fbb := HFg.out _ HBb.out)
            | fail)
          all_goals
            go_wp2_with fail
            go_meet
            exact ⟨rfl, wb, p2, q2, rfl, HBb, HO2⟩
        case rest =>
          obtain ⟨rfl, wb, p2, q2, rfl, HBb, HO2⟩ := hcut
          obtain ⟨W6, hW6⟩ : ∃ W6, wb.setCell ⟨gl, i * 4 + 2, none⟩ (.slice p2 (rs.length + 1) q2) = W6 := ⟨_, rfl⟩
          have hq1 : Q1 gl := HX.out.2.2.2.2 gl rfl
          have hgl : gl < wc.heap.size := isC_lt (HR1.out.ic gl (.inl hq1))
          have hglv : gl ≠ w.heap.size ∧ gl ≠ w.heap.size + 1 := by
            rcases HQ1.out gl hq1 with hq | hq
            · have := isC_lt (HM.out.ic gl (.inl hq))
              omega
            · omega
          have hws : w.heap.size + 2 ≤ wc.heap.size := blk_lt HRb.out
          have ho6 : W6.ownsRow b0 71 4 (.slice (some ⟨gl, 0, none⟩) L1.length cl) L1.length (news.set (i * 4 + 2) (.slice p2 (rs.length + 1) q2)) := by
            rw [← hW6]
            exact ((pw_own_below HX.out.2.2.1 HBb.out).stored _ _).1
          have n3 : news[i * 4 + 3]? = some (.slice dp rs.length dc) := by
            have h := congrArg (fun l : List Value => l[3]?) HE.out.1
            simpa [List.getElem?_take, List.getElem?_drop] using h
          have c3w : W6.cell? ⟨gl, i * 4 + 3, none⟩ = some (.slice dp rs.length dc) := by
            rw [ho6.cellAt _ (by omega), List.getElem?_set, if_neg (by omega)]
            exact n3
          have HFr : Hid (∀ V, Below W6.heap.size W6 V → V.frozen? ⟨gl, i * 4 + 3, none⟩ = false) := fun V hV => (pw_own_below ho6 hV).frozenAt _
          have hs6 : W6.heap.size = wb.heap.size := by rw [← hW6]; simp
          have hmv6 : Moved Q1 wc W6 := by
            rw [← hW6]
            exact (Moved.of_below (Q := Q1) HBb.out).trans (moved_set (Q := Q1) wb hq1 _ _) (fun _ hi => .inl hi)
          have HFK : Hid (FKept F wc W6) := fun j hj => hmv6.block j (isC_lt (HR1.out.ic j (.inr hj))) (fun q => HR1.out.ap j q hj)
          have hF6 : ∀ j, F j → j < W6.heap.size := fun j hj => Nat.lt_of_lt_of_le (isC_lt (HR1.out.ic j (.inr hj))) hmv6.size
          have HFV : Hid (∀ V, Below W6.heap.size W6 V → FKept F wc V) := fun V hV => HFK.out.trans (fun j hj => hV.block j (hF6 j hj))
          have HLd : Hid (∀ V, Below W6.heap.size W6 V → LiesAt V (.slice dp rs.length dc) rs.length nd) := fun V hV => (HNd.out.1.kept (HFV.out V hV)).lies
          have HLy : Hid (∀ V, Below W6.heap.size W6 V → LiesAd V (.slice A yd.length c) yd.length ((byN yd).map (Value.int .u8))) := fun V hV =>
            lies_of_C (HC.out V ((HMv.out.trans hmv6 (fun j hj => (HQ1.out j hj).imp_right fun e => by omega)).trans (Moved.of_below (Q := Q) hV) (fun _ hi => .inl hi))) c
          have hndl : nd.length = rs.length * 1 := HNd.out.2.1
          have HOd : Hid (∀ u ∈ nd, u.oneCell' = true) := rg_ones HNd.out.2 (by decide) (fun p c hp u hu => by
            obtain ⟨a1, a2, a3, _⟩ := hp
            rw [a3, List.mem_singleton] at hu
            subst hu
            rfl)
          have HOy : Hid (∀ u ∈ (byN yd).map (Value.int .u8), u.oneCell' = true) := fun u hu => by
            obtain ⟨a1, _, rfl⟩ := List.mem_map.1 hu
            rfl
          have HV6 : Hid (∀ V, Below W6.heap.size W6 V → V.heap[w.heap.size]? = some (.cells #[.int .i64 yi, .bool ym, .int .i64 ys, .int .u32 yu] 38 (0, 0)) ∧ V.heap[w.heap.size + 1]? = some (.cells #[.int .i64 0, .bool false, .int .i64 0, .int .u32 0] 38 (0, 0))) := fun V hV => by
            have hbs := HBb.out.size
            have f1 : W6.heap[w.heap.size]? = some (.cells #[.int .i64 yi, .bool ym, .int .i64 ys, .int .u32 yu] 38 (0, 0)) := by rw [← hW6]; exact (Below.heap_setCell wb ⟨gl, i * 4 + 2, none⟩ _ w.heap.size hglv.1.symm).trans (blk_below HVb.out HBb.out)
            have f2 : W6.heap[w.heap.size + 1]? = some (.cells #[.int .i64 0, .bool false, .int .i64 0, .int .u32 0] 38 (0, 0)) := by rw [← hW6]; exact (Below.heap_setCell wb ⟨gl, i * 4 + 2, none⟩ _ (w.heap.size + 1) hglv.2.symm).trans (blk_below HRb.out HBb.out)
            exact ⟨blk_below f1 hV, blk_below f2 hV⟩
          have hbse : wc.heap.size ≤ W6.heap.size := hmv6.size
          have HRf : Hid (∀ V, Below W6.heap.size W6 V → ∀ u, (V.setCell ⟨gl, i * 4 + 3, none⟩ u).heap[w.heap.size + 1]? = some (.cells #[.int .i64 0, .bool false, .int .i64 0, .int .u32 0] 38 (0, 0))) := fun V hV u => (Below.heap_setCell V ⟨gl, i * 4 + 3, none⟩ u (w.heap.size + 1) hglv.2.symm).trans (HV6.out V hV).2
          have HEnd : Hid (∀ (wd : World) (p5 : Option Addr) (q5 : Nat) (p4 : Option Addr) (q4 : Nat), Below W6.heap.size W6 wd → wd.ownsRow W6.heap.size 30 1 (.slice p5 (rs.length + 1) q5) (rs.length + 1) (nd ++ [.slice p4 yd.length q4]) → wd.ownsRow W6.heap.size 5 1 (.slice p4 yd.length q4) yd.length ((byN yd).map (Value.int .u8)) → ∀ e : Ending, e = .returned (.tuple #[.agg #[.int .i64 yi, .bool ym, .int .i64 ys, .int .u32 yu], .int .i64 0]) →
              (e = .returned (.tuple #[verOk (moreE (rsOf L b k) ⟨yi, ym, ys, yu, yd⟩) ⟨yi, ym, ys, yu, yd⟩, .int .i64 (moreE (rsOf L b k) ⟨yi, ym, ys, yu, yd⟩)]) ∧
              Moved Q w ((wd.setCell ⟨gl, i * 4 + 3, none⟩ (.slice p5 (rs.length + 1) q5)).setRow (w.heap.size + 1) #[.int .i64 yi, .bool ym, .int .i64 ys, .int .u32 yu]) ∧ ∃ Q' F', RefM ((wd.setCell ⟨gl, i * 4 + 3, none⟩ (.slice p5 (rs.length + 1) q5)).setRow (w.heap.size + 1) #[.int .i64 yi, .bool ym, .int .i64 ys, .int .u32 yu]) g B (rMoreL L b k ⟨yi, ym, ys, yu, yd⟩) b0 Q' F' ∧ (∀ j, Q' j → Q j ∨ w.heap.size ≤ j) ∧ ∀ j, F' j → F j ∨ w.heap.size ≤ j)) := fun wd p5 q5 p4 q4 hbd ho5 ho4 e he => by
            have hvo : verOk 0 ⟨yi, ym, ys, yu, yd⟩ = .agg #[.int .i64 yi, .bool ym, .int .i64 ys, .int .u32 yu] := rfl
            rw [HE2.out, HRV.out, HmE.out, if_pos rfl, hvo]
            have hlen : (rs ++ [(⟨yi, ym, ys, yu, yd⟩ : Kp)]).length = rs.length + 1 := by simp
            obtain ⟨m1, m2⟩ := HR1.out.setO (i := i) (rs' := rs ++ [⟨yi, ym, ys, yu, yd⟩]) (v2 := .slice p2 (rs.length + 1) q2) (v5 := .slice p5 (rs.length + 1) q5) (Fb := fun k => (Value.slice p4 yd.length q4).ownBlock = some k) (Nat.le_trans hb0 HMv.out.size) HX.out.1 HX.out.2.1 HX.out.2.2.1 HX.out.2.2.2.1 HX.out.2.2.2.2 HOb.out HE.out.1 HBb.out (by rw [hW6]; exact hbd) (by rw [hlen]; exact HO2.out) (rg_app (HRv.out.imp_ fun _ _ h => h) (reps_sing rfl rfl)) (by rw [hlen]; exact own_weaken ho5 hbse)
              (fun k hk => ⟨Nat.le_trans hbse (own_ge ho4 k hk), by obtain ⟨cells, hc⟩ := own_typed ho4 k hk; exact ⟨_, _, _, hc⟩⟩) (rg_app ((HNd.out.2.imp_ fun _ _ hp => dat_stays.kept hp (HFV.out wd hbd)).imp_ fun _ _ hp => dat_stays.mono hp fun _ hk => .inl hk) (reps_sing (dat_own ho4 fun k hk => .inr hk) rfl))
            have h3 : Only (w.heap.size + 1) (w.heap.size + 2) (wd.setCell ⟨gl, i * 4 + 3, none⟩ (.slice p5 (rs.length + 1) q5)) ((wd.setCell ⟨gl, i * 4 + 3, none⟩ (.slice p5 (rs.length + 1) q5)).setRow (w.heap.size + 1) #[.int .i64 yi, .bool ym, .int .i64 ys, .int .u32 yu]) := (Only.refl _ _ _).row _ (Nat.le_refl _) (.inl (by omega))
            have hv := HMv.out.trans m1 (fun j hj => (HQ1.out j hj).imp_right fun e => by omega)
            refine ⟨he, ⟨h3.os.trans hv.os, h3.tape.trans hv.tape, h3.output.trans hv.output, Nat.le_trans hv.size h3.size, fun j hj hq => (h3.block j (Nat.lt_of_lt_of_le hj hv.size) (.inl (by omega))).trans (hv.block j hj hq)⟩, _, _, m2.kept (fun j hj => h3.block j (isC_lt (m2.ic j hj)) ?_) h3.size, fun j hj => ?_, fun j hj => ?_⟩
            · rcases hj with (rfl | rfl) | (hj | hj) | hj | hj
              · have := isC_lt (HM.out.ic _ (.inl HM.out.qg))
                exact .inl (by omega)
              · rcases HQ1.out _ hq1 with hq | hq
                · have := isC_lt (HM.out.ic _ (.inl hq))
                  exact .inl (by omega)
                · exact .inr hq
              · have := isC_lt (HM.out.ic j (.inr hj))
                exact .inl (by omega)
              · have := own_ge ho4 j hj
                exact .inr (by omega)
              · have := own_ge HO2.out j hj
                exact .inr (by omega)
              · have := own_ge ho5 j hj
                exact .inr (by omega)
            · rcases hj with rfl | rfl
              · exact .inl HM.out.qg
              · exact (HQ1.out _ hq1).imp_right fun e => by omega
            · rcases hj with (hj | hj) | hj | hj
              · exact .inl hj
              · have := own_ge ho4 j hj
                exact .inr (by omega)
              · have := own_ge HO2.out j hj
                exact .inr (by omega)
              · have := own_ge ho5 j hj
                exact .inr (by omega)
          have HW6 := Lib.hid hW6
          have Hmv6 := Lib.hid hmv6
          have Ho6 := Lib.hid ho6
          have hgv := hglv.1
          have hgr' := hglv.2
          rw [hW6]
          clear hW6 hmv6 ho6 n3 hF6 hglv hq1 hgl hws
          go_wp2_with (first
            | (at_builtin; refine wpList_ap_lies (base := W6.heap.size) (n := 0) (m := rs.length) (xs := []) (cs := nd) apD (by rfl) (.const (.slice none 0 0)) (.tmp 95) (by rfl) (by rfl) (own_nil _ _ _ _) (by rfl) (HLd.out _ (Below.refl _ _)) hndl HOd.out (by omega) (Nat.le_refl _) ?_; intro u1 wa hown1 hgr1 _; have HO1 := Lib.hid hown1; have HBa : Hid (Below W6.heap.size W6 wa) := Below.grown (Below.refl _ _) hgr1 (Nat.le_refl _) (fun k hk => by cases hk); clear hown1 hgr1)
            | (at_builtin; refine wpList_ap_ad (base := W6.heap.size) (n := 0) (m := yd.length) (xs := []) (cs := (byN yd).map (Value.int .u8)) apB (by rfl) (.const (.slice none 0 0)) (.tmp 97) (by rfl) (by rfl) (own_nil _ _ _ _) (by rfl) (HLy.out _ HBa.out) (by rw [List.length_map, byN_length, Nat.mul_one]) HOy.out (by omega) HBa.out.size ?_; intro u4 wy hown4 hgr4 _; rw [Nat.zero_add, List.nil_append] at hown4; obtain ⟨p4, q4, rfl⟩ := own_slice hown4; have HO4 := Lib.hid hown4; have hby : Below wa.heap.size wa wy := Below.grown (Below.refl _ _) hgr4 (Nat.le_refl _) (fun k hk => by cases hk); have HBy : Hid (Below W6.heap.size W6 wy) := HBa.out.trans (hby.mono HBa.out.size); have HO1y := Lib.hid (pw_own_below HO1.out hby); clear hown4 hgr4 hby)
            | (at_builtin; refine wpList_ap_lies (base := W6.heap.size) (n := 0 + rs.length) (m := 1) (xs := [] ++ nd) (cs := [.slice p4 yd.length q4]) apD (by rfl) (.tmp 96) (.tmp 99) (by rfl) (by rfl) (pw_own_below HO1y.out ((Below.refl _ _).alloc (Nat.le_refl _) _)) (by rfl) (lies_obj wy #[.slice p4 yd.length q4] _ _ 1) (by rfl) (by simp [Value.oneCell']) (by omega) (HBy.out.alloc HBy.out.size _).size ?_; intro u5 wd hown5 hgr5 _; rw [Nat.zero_add, List.nil_append] at hown5; obtain ⟨p5, q5, rfl⟩ := own_slice hown5; have HO5 := Lib.hid hown5; have HBd : Hid (Below W6.heap.size W6 wd) := (HBy.out.alloc HBy.out.size _).grown hgr5 (HBy.out.alloc HBy.out.size _).size (fun k hk => own_ge HO1y.out k hk); have HO4d := Lib.hid (own_other (pw_own_below HO4.out ((Below.refl _ _).alloc (Nat.le_refl _) _)) hgr5 (own_type_ne HO4.out HO1y.out (by decide))); clear hown5 hgr5; have cdd := pw_cell_below HBd.out c3w; have fdd := HFr.out _ HBd.out; have hvd := (HV6.out _ HBd.out).1; have vd0 : wd.cell? ⟨w.heap.size, 0, none⟩ = some (.int .i64 yi) := blk_cell hvd 0; have vd1 : wd.cell? ⟨w.heap.size, 1, none⟩ = some (.bool ym) := blk_cell hvd 1; have vd2 : wd.cell? ⟨w.heap.size, 2, none⟩ = some (.int .i64 ys) := blk_cell hvd 2; have vd3 : wd.cell? ⟨w.heap.size, 3, none⟩ = some (.int .u32 yu) := blk_cell hvd 3; clear hvd)
            | (refine wpList_store_row rfl 38 (.tmp 10) (.tmp 103) rfl (w.heap.size + 1) #[.int .i64 yi, .bool ym, .int .i64 ys, .int .u32 yu] rfl rfl 38 _ (HRf.out _ HBd.out _) (by kernel_rfl) rfl (by simp [Value.oneCell']) ?_)
            | fail)
          refine bodyPost_ret (results_ct rfl _ _ (w.heap.size + 1) 38 #[.int .i64 yi, .bool ym, .int .i64 ys, .int .u32 yu] (0, 0) _ rfl (setRow_heap _ _ _ _ _ _ (HRf.out _ HBd.out _)) Tryz.underlying38 rfl (by kernel_rfl)) rfl ?_
          exact HEnd.out wd p5 q5 p4 q4 HBd.out HO5.out HO4d.out _ (by rfl)
end Go.Proofs.YtjbjcfnbgcloiaaGreatDoor

/- The document's own model: Put, Delete. -/
set_option linter.unusedSimpArgs false
set_option linter.unusedVariables false
namespace Go.Proofs.YtjbjcfnbgcloiaaGreatDoor
open Go.RowKit Nam YtjbjcfnbgcloiaaGreatDoorW.PrintWords Go.Shelf

theorem verOk_0 (y : Kp) : verOk 0 y = .agg #[.int .i64 y.id, .bool y.mark, .int .i64 y.sz, .int .u32 y.sum] := rfl
theorem verOk_ne {er : Int} (h : er ≠ 0) (y : Kp) : verOk er y = .agg #[.int .i64 0, .bool false, .int .i64 0, .int .u32 0] := by unfold verOk; rw [if_neg h]
def Left (w : World) (g b0 : Nat) (B : List (List UInt8)) (L : List Ob) (Q F : Nat → Prop) (w' : World) : Prop :=
  Moved Q w w' ∧ ∃ Q' F', RefM w' g B L b0 Q' F' ∧ (∀ j, Q' j → Q j ∨ w.heap.size ≤ j) ∧ ∀ j, F' j → F j ∨ w.heap.size ≤ j
theorem left_below {w w' : World} {g b0 : Nat} {B : List (List UInt8)} {L : List Ob} {Q F : Nat → Prop} (h : RefM w g B L b0 Q F) (hb : Below w.heap.size w w') : Left w g b0 B L Q F w' :=
  ⟨Moved.of_below hb, Q, F, h.below hb, fun _ hj => .inl hj, fun _ hj => .inl hj⟩
theorem left_box {w V0 w' : World} {g b0 : Nat} {B B' : List (List UInt8)} {L L' : List Ob} {Q F : Nat → Prop} (h0 : RefM w g B L b0 Q F) (hb : Below w.heap.size w V0) (hlt : w.heap.size < V0.heap.size) (h : Left V0 g b0 B' L' Q F w') (cs : Array Value) : Left w g b0 B' L' Q F (w'.setRow w.heap.size cs) := by
  obtain ⟨hmv, Q', F', hr, hq, hf⟩ := h
  have h3 : Only w.heap.size (w.heap.size + 1) w' (w'.setRow w.heap.size cs) := (Only.refl _ _ _).row _ (Nat.le_refl _) (.inl (Nat.lt_succ_self _))
  have hv := (Moved.of_below (Q := Q) hb).trans hmv (fun _ hi => .inl hi)
  refine ⟨⟨h3.os.trans hv.os, h3.tape.trans hv.tape, h3.output.trans hv.output, Nat.le_trans hv.size h3.size, fun j hj hn => (h3.block j (Nat.lt_of_lt_of_le hj hv.size) (.inl hj)).trans (hv.block j hj hn)⟩, Q', F', hr.kept (fun j hj => h3.block j (isC_lt (hr.ic j hj)) ?_) h3.size, fun j hj => (hq j hj).imp_right fun e => by omega, fun j hj => (hf j hj).imp_right fun e => by omega⟩
  rcases hj with hj | hj
  · rcases hq j hj with h1 | h1
    · exact .inl (isC_lt (h0.ic j (.inl h1)))
    · exact .inr (by omega)
  · rcases hf j hj with h1 | h1
    · exact .inl (isC_lt (h0.ic j (.inr h1)))
    · exact .inr (by omega)
def rPutE (B : List (List UInt8)) (L : List Ob) (id : Int) (b k d : List UInt8) : Int := if namedB b k = false then 12 else if 65536 < d.length then 3 else if b ∉ B then 13 else moreE (rsOf L b k) (kpOf id d)
def rPutL (B : List (List UInt8)) (L : List Ob) (id : Int) (b k d : List UInt8) : List Ob := if namedB b k = false then L else if 65536 < d.length then L else if b ∉ B then L else rMoreL L b k (kpOf id d)
set_option maxHeartbeats 2000000 in
set_option maxRecDepth 100000 in
theorem rput_is (w : World) (g : Nat) (B : List (List UInt8)) (L : List Ob) (b0 : Nat) (Q F : Nat → Prop) (id : Int) (b k d : List UInt8) (A : Option Addr) (c : Nat) (hb : b.length ≤ 100000) (hk : k.length ≤ 100000) (hd : d.length ≤ 1000000) (hB : B.length ≤ 100000) (hL : L.length ≤ 1000) (hrs : ∀ o ∈ L, o.rs.length ≤ 64) (hb0 : b0 ≤ w.heap.size) (hm : RefM w g B L b0 Q F) (hC : ∀ V, Moved Q w V → (Kd.int .u8).C V A d.length (byN d)) (hT : Tabs w) :
    Calls Tryz.prog 42 #[.pointer (some ⟨g, 0, none⟩), .int .i64 id, .string (mkS b), .string (mkS k), .slice A d.length c] w fun e w' =>
      e = .returned (.tuple #[verOk (rPutE B L id b k d) (kpOf id d), .int .i64 (rPutE B L id b k d)]) ∧ Left w g b0 B (rPutL B L id b k d) Q F w' := by
  obtain ⟨W1, hW1⟩ : ∃ W1, w.alloc (.cells #[.int .i64 0, .bool false, .int .i64 0, .int .u32 0] 38) = W1 := ⟨_, rfl⟩
  have hb1 : Below w.heap.size w W1 := by rw [← hW1]; exact (Below.refl _ _).alloc (Nat.le_refl _) _
  have hs1 : W1.heap.size = w.heap.size + 1 := by rw [← hW1]; simp
  have hr1 : W1.heap[w.heap.size]? = some (.cells #[.int .i64 0, .bool false, .int .i64 0, .int .u32 0] 38 (0, 0)) := by rw [← hW1]; exact blk_new w _
  obtain ⟨ae, hae⟩ : ∃ ae, askE B b k = ae := ⟨_, rfl⟩
  have HAs : Hid (Calls Tryz.prog 67 #[.pointer (some ⟨g, 0, none⟩), .string (mkS b), .string (mkS k)] W1 fun e w' => e = .returned (.int .i64 ae) ∧ Hid (Below w.heap.size w w') ∧ w.heap.size + 1 ≤ w'.heap.size ∧ Hid (w'.heap[w.heap.size]? = some (.cells #[.int .i64 0, .bool false, .int .i64 0, .int .u32 0] 38 (0, 0)))) := by
    have h := rask_is W1 g B L b0 Q F b k hb hk hB (hm.below hb1) (hT.below hb1)
    rw [hae] at h
    exact h.mono fun e w' ⟨he, h2⟩ => ⟨he, hb1.trans (h2.mono hb1.size), by have := h2.size; omega, blk_below hr1 h2⟩
  have HSu : Hid (∀ V, Below w.heap.size w V → d.length ≤ 1000000 → Calls Tryz.prog 69 #[.slice A d.length c] V fun e w' => e = .returned (.int .u32 (sumC d)) ∧ V = w') := fun V hV hd2 => rsum_is d A c V hd2 (hC V (Moved.of_below hV))
  obtain ⟨me, hme⟩ : ∃ me, moreE (rsOf L b k) (kpOf id d) = me := ⟨_, rfl⟩
  have HMo : Hid (∀ V, Below w.heap.size w V → Calls Tryz.prog 68 #[.pointer (some ⟨g, 0, none⟩), .string (mkS b), .string (mkS k), .agg #[.int .i64 id, .bool false, .int .i64 (d.length : Int), .int .u32 (sumC d)], .slice A d.length c] V fun e w' => e = .returned (.tuple #[verOk me (kpOf id d), .int .i64 me]) ∧ Hid (Left V g b0 B (rMoreL L b k (kpOf id d)) Q F w')) := fun V hV => by
    have h := rmore_is V g B L b0 Q F b k (kpOf id d) A c hL hrs hd (Nat.le_trans hb0 hV.size) (hm.below hV) (fun V2 h2 => hC V2 ((Moved.of_below (Q := Q) hV).trans h2 (fun _ hi => .inl hi)))
    rw [hme] at h
    exact h.mono fun e w' ⟨he, h1, h2⟩ => ⟨he, h1, h2⟩
  have hE : rPutE B L id b k d = if ae = 12 then 12 else if 65536 < d.length then 3 else if ae ≠ 0 then ae else me := by
    rw [← hae, ← hme]
    unfold rPutE askE
    by_cases h1 : namedB b k = false
    · rw [if_pos h1, if_pos h1, if_pos rfl]
    · rw [if_neg h1, if_neg h1]
      by_cases h3 : 65536 < d.length <;> by_cases h2 : b ∈ B <;> simp [h2, h3]
  have hLl : rPutL B L id b k d = if ae = 12 then L else if 65536 < d.length then L else if ae ≠ 0 then L else rMoreL L b k (kpOf id d) := by
    rw [← hae]
    unfold rPutL askE
    by_cases h1 : namedB b k = false
    · rw [if_pos h1, if_pos h1, if_pos rfl]
    · rw [if_neg h1, if_neg h1]
      by_cases h3 : 65536 < d.length <;> by_cases h2 : b ∈ B <;> simp [h2, h3]
  have HM := Lib.hid hm
  rw [hE, hLl]
  clear hE hLl hae hme hC hT hm
  by_cases h12 : ae = 12
  · subst h12
    rw [if_pos rfl, if_pos rfl, verOk_ne (by decide)]
    go_enter Tryz.func42, Tryz.ntmps42
    go_wp2_with fail
    refine HAs.out.mono ?_
    rintro e w2 ⟨rfl, HB2, hs2, HR2⟩
    go_wp2_with (refine wpList_store_row rfl 38 (.tmp 10) (.tmp 19) rfl w.heap.size #[.int .i64 0, .bool false, .int .i64 0, .int .u32 0] rfl rfl 38 _ HR2.out (by kernel_rfl) rfl (by simp [Value.oneCell']) ?_)
    refine bodyPost_ret (results_ct rfl _ _ w.heap.size 38 #[.int .i64 0, .bool false, .int .i64 0, .int .u32 0] (0, 0) _ rfl (setRow_heap _ _ _ _ _ _ HR2.out) Tryz.underlying38 rfl (by kernel_rfl)) rfl ?_
    exact ⟨rfl, left_below HM.out (below_setRow HB2.out (Nat.le_refl _) _)⟩
  rw [if_neg h12, if_neg h12]
  have e12 : (ae == 12) = false := by simp; exact h12
  by_cases hlong : 65536 < d.length
  · have hlz : (65536 : Int) < (d.length : Int) := by omega
    rw [if_pos hlong, if_pos hlong, verOk_ne (by decide)]
    go_enter Tryz.func42, Tryz.ntmps42
    go_wp2_with fail
    refine HAs.out.mono ?_
    rintro e w2 ⟨rfl, HB2, hs2, HR2⟩
    go_wp2_with (refine wpList_store_row rfl 38 (.tmp 10) (.tmp 24) rfl w.heap.size #[.int .i64 0, .bool false, .int .i64 0, .int .u32 0] rfl rfl 38 _ HR2.out (by kernel_rfl) rfl (by simp [Value.oneCell']) ?_)
    refine bodyPost_ret (results_ct rfl _ _ w.heap.size 38 #[.int .i64 0, .bool false, .int .i64 0, .int .u32 0] (0, 0) _ rfl (setRow_heap _ _ _ _ _ _ HR2.out) Tryz.underlying38 rfl (by kernel_rfl)) rfl ?_
    exact ⟨rfl, left_below HM.out (below_setRow HB2.out (Nat.le_refl _) _)⟩
  have hlz : (d.length : Int) ≤ (65536 : Int) := by omega
  rw [if_neg hlong, if_neg hlong]
  by_cases h0 : ae = 0
  · subst h0
    rw [if_neg (fun e => e rfl), if_neg (fun e => e rfl)]
    by_cases hz : me = 0
    · subst hz
      rw [verOk_0]
      go_enter Tryz.func42, Tryz.ntmps42
      go_wp2_with fail
      refine HAs.out.mono ?_
      rintro e w2 ⟨rfl, HB2, hs2, HR2⟩
      have HLb : Hid (∀ w' cs, Left w2 g b0 B (rMoreL L b k (kpOf id d)) Q F w' → Left w g b0 B (rMoreL L b k (kpOf id d)) Q F (w'.setRow w.heap.size cs)) := fun w' cs h => left_box HM.out HB2.out (by omega) h cs
      have HRb : Hid (∀ w', Left w2 g b0 B (rMoreL L b k (kpOf id d)) Q F w' → w'.heap[w.heap.size]? = some (.cells #[.int .i64 0, .bool false, .int .i64 0, .int .u32 0] 38 (0, 0))) := fun w' h => (h.1.block _ (by omega) (fun q => by have := isC_lt (HM.out.ic _ (.inl q)); omega)).trans HR2.out
      go_wp2_with fail
      refine (HSu.out _ HB2.out hd).mono ?_
      rintro e w3 ⟨rfl, rfl⟩
      go_wp2_with fail
      refine (HMo.out _ HB2.out).mono ?_
      rintro e w4 ⟨rfl, HL4⟩
      rw [verOk_0]
      go_wp2_with (refine wpList_store_row rfl 38 (.tmp 10) (.tmp 40) rfl w.heap.size #[.int .i64 id, .bool false, .int .i64 (d.length : Int), .int .u32 (sumC d)] rfl rfl 38 _ (HRb.out _ HL4.out) (by kernel_rfl) rfl (by simp [Value.oneCell']) ?_)
      refine bodyPost_ret (results_ct rfl _ _ w.heap.size 38 #[.int .i64 id, .bool false, .int .i64 (d.length : Int), .int .u32 (sumC d)] (0, 0) _ rfl (setRow_heap _ _ _ _ _ _ (HRb.out _ HL4.out)) Tryz.underlying38 rfl (by kernel_rfl)) rfl ?_
      exact ⟨rfl, HLb.out _ _ HL4.out⟩
    · rw [verOk_ne hz]
      go_enter Tryz.func42, Tryz.ntmps42
      go_wp2_with fail
      refine HAs.out.mono ?_
      rintro e w2 ⟨rfl, HB2, hs2, HR2⟩
      have HLb : Hid (∀ w' cs, Left w2 g b0 B (rMoreL L b k (kpOf id d)) Q F w' → Left w g b0 B (rMoreL L b k (kpOf id d)) Q F (w'.setRow w.heap.size cs)) := fun w' cs h => left_box HM.out HB2.out (by omega) h cs
      have HRb : Hid (∀ w', Left w2 g b0 B (rMoreL L b k (kpOf id d)) Q F w' → w'.heap[w.heap.size]? = some (.cells #[.int .i64 0, .bool false, .int .i64 0, .int .u32 0] 38 (0, 0))) := fun w' h => (h.1.block _ (by omega) (fun q => by have := isC_lt (HM.out.ic _ (.inl q)); omega)).trans HR2.out
      go_wp2_with fail
      refine (HSu.out _ HB2.out hd).mono ?_
      rintro e w3 ⟨rfl, rfl⟩
      go_wp2_with fail
      refine (HMo.out _ HB2.out).mono ?_
      rintro e w4 ⟨rfl, HL4⟩
      rw [verOk_ne hz]
      go_wp2_with (refine wpList_store_row rfl 38 (.tmp 10) (.tmp 40) rfl w.heap.size #[.int .i64 0, .bool false, .int .i64 0, .int .u32 0] rfl rfl 38 _ (HRb.out _ HL4.out) (by kernel_rfl) rfl (by simp [Value.oneCell']) ?_)
      refine bodyPost_ret (results_ct rfl _ _ w.heap.size 38 #[.int .i64 0, .bool false, .int .i64 0, .int .u32 0] (0, 0) _ rfl (setRow_heap _ _ _ _ _ _ (HRb.out _ HL4.out)) Tryz.underlying38 rfl (by kernel_rfl)) rfl ?_
      exact ⟨rfl, HLb.out _ _ HL4.out⟩
  · rw [if_pos h0, if_pos h0, verOk_ne h0]
    have e0 : (ae == 0) = false := by simp; exact h0
    go_enter Tryz.func42, Tryz.ntmps42
    go_wp2_with fail
    refine HAs.out.mono ?_
    rintro e w2 ⟨rfl, HB2, hs2, HR2⟩
    go_wp2_with (refine wpList_store_row rfl 38 (.tmp 10) (.tmp 27) rfl w.heap.size #[.int .i64 0, .bool false, .int .i64 0, .int .u32 0] rfl rfl 38 _ HR2.out (by kernel_rfl) rfl (by simp [Value.oneCell']) ?_)
    refine bodyPost_ret (results_ct rfl _ _ w.heap.size 38 #[.int .i64 0, .bool false, .int .i64 0, .int .u32 0] (0, 0) _ rfl (setRow_heap _ _ _ _ _ _ HR2.out) Tryz.underlying38 rfl (by kernel_rfl)) rfl ?_
    exact ⟨rfl, left_below HM.out (below_setRow HB2.out (Nat.le_refl _) _)⟩
end Go.Proofs.YtjbjcfnbgcloiaaGreatDoor

/- The document's own model: a version's place in its object. -/
set_option linter.unusedSimpArgs false
set_option linter.unusedVariables false
namespace Go.Proofs.YtjbjcfnbgcloiaaGreatDoor
open Go.RowKit Nam YtjbjcfnbgcloiaaGreatDoorW.PrintWords Go.Shelf

def rFindE (B : List (List UInt8)) (L : List Ob) (b k : List UInt8) (id : Int) : Int :=
  if namedB b k = false then 12 else if id < 0 then 1 else if b ∉ B then 13 else if rsOf L b k = [] then 14 else if idxK id (rsOf L b k) < 0 then 15 else 0
theorem at_has {L : List Ob} {b k : List UInt8} (h : rsOf L b k ≠ []) : atI L b k = ((atL L b k).2 : Int) ∧ L[(atL L b k).2]? = some ⟨b, k, rsOf L b k⟩ ∧ (atL L b k).1 = L := by
  have ho := at_obj L b k
  unfold rsOf at h
  cases hf : L.findIdx? (atP b k) with
  | none => rw [hf] at h; exact absurd rfl h
  | some j =>
    have e1 : atL L b k = (L, j) := by unfold atL; rw [hf]
    have e2 : atI L b k = (j : Int) := by unfold atI; rw [hf]
    rw [e1] at ho ⊢
    exact ⟨e2, ho, rfl⟩
theorem at_none {L : List Ob} {b k : List UInt8} (h : rsOf L b k = []) : atI L b k = -1 ∨ ∃ (j : Nat), atI L b k = (j : Int) ∧ L[j]? = some ⟨b, k, []⟩ := by
  have ho := at_obj L b k
  rw [h] at ho
  cases hf : L.findIdx? (atP b k) with
  | none => exact .inl (by unfold atI; rw [hf])
  | some j =>
    have e1 : atL L b k = (L, j) := by unfold atL; rw [hf]
    have e2 : atI L b k = (j : Int) := by unfold atI; rw [hf]
    rw [e1] at ho
    exact .inr ⟨j, e2, ho⟩
theorem idx_hit {l : List Kp} {id : Int} {j : Nat} {y : Kp} (h0 : id ≠ 0) (hy : l[j]? = some y) (he : y.id = id) (hn : ∀ x ∈ l.take j, x.id ≠ id) : idxK id l = (j : Int) := by
  obtain ⟨hj, e⟩ := List.getElem?_eq_some_iff.1 hy
  unfold idxK
  rw [if_neg h0]
  unfold Lib.idxBy
  rw [Lib.idxByFrom_hit _ _ l j 0 hj (by rw [getElem!_pos l j hj, e]; simp [he]) (fun i hi => ?_), Nat.zero_add]
  have hil : i < l.length := by omega
  rw [getElem!_pos l i hil]
  have := hn l[i] (List.mem_iff_getElem.2 ⟨i, by rw [List.length_take]; omega, by rw [List.getElem_take]⟩)
  simp [this]
theorem idx_miss {l : List Kp} {id : Int} (h0 : id ≠ 0) (hn : ∀ x ∈ l, x.id ≠ id) : idxK id l = -1 := by
  unfold idxK
  rw [if_neg h0]
  unfold Lib.idxBy
  refine Lib.idxByFrom_miss _ _ l 0 fun i hi => ?_
  rw [getElem!_pos l i hi]
  simp [hn l[i] (List.getElem_mem hi)]

def RFindIs (B : List (List UInt8)) (L : List Ob) (b k : List UInt8) (id : Int) (w : World) (e : Ending) (w' : World) : Prop :=
  (∃ i j : Int, e = .returned (.tuple #[.int .i64 i, .int .i64 j, .int .i64 (rFindE B L b k id)]) ∧ (rFindE B L b k id = 0 → i = ((atL L b k).2 : Int) ∧ j = idxK id (rsOf L b k))) ∧ Below w.heap.size w w'
set_option maxHeartbeats 2000000 in
set_option maxRecDepth 100000 in
theorem rfind_is (w : World) (g : Nat) (B : List (List UInt8)) (L : List Ob) (b0 : Nat) (Q F : Nat → Prop) (b k : List UInt8) (id : Int) (hb : b.length ≤ 100000) (hk : k.length ≤ 100000) (hB : B.length ≤ 100000) (hL : L.length ≤ 100000) (hrs : ∀ o ∈ L, o.rs.length ≤ 64) (hm : RefM w g B L b0 Q F) (hT : Tabs w) :
    Calls Tryz.prog 70 #[.pointer (some ⟨g, 0, none⟩), .string (mkS b), .string (mkS k), .int .i64 id] w (RFindIs B L b k id w) := by
  obtain ⟨ae, hae⟩ : ∃ ae, askE B b k = ae := ⟨_, rfl⟩
  have HAs : Hid (Calls Tryz.prog 67 #[.pointer (some ⟨g, 0, none⟩), .string (mkS b), .string (mkS k)] w fun e w' => e = .returned (.int .i64 ae) ∧ Below w.heap.size w w') := by
    have h := rask_is w g B L b0 Q F b k hb hk hB hm hT
    rw [hae] at h
    exact h
  have HAt : Hid (∀ V, Below w.heap.size w V → Calls Tryz.prog 71 #[.pointer (some ⟨g, 0, none⟩), .string (mkS b), .string (mkS k)] V fun e w' => e = .returned (.int .i64 (atI L b k)) ∧ Below w.heap.size w w') := fun V hV =>
    (rat_is V g B L b0 Q F b k hL (hm.below hV)).mono fun e w' ⟨he, h2⟩ => ⟨he, hV.trans (h2.mono hV.size)⟩
  obtain ⟨rs, hrsv⟩ : ∃ rs, rsOf L b k = rs := ⟨_, rfl⟩
  have hrl : rs.length ≤ 64 := by rw [← hrsv]; exact rsOf_len hrs b k
  have hE : rFindE B L b k id = if ae = 12 then 12 else if id < 0 then 1 else if ae ≠ 0 then ae else if rs = [] then 14 else if idxK id rs < 0 then 15 else 0 := by
    rw [← hae]
    unfold rFindE askE
    rw [hrsv]
    by_cases h1 : namedB b k = false
    · rw [if_pos h1, if_pos h1, if_pos rfl]
    · rw [if_neg h1, if_neg h1]
      by_cases h3 : id < 0 <;> by_cases h2 : b ∈ B <;> simp [h2, h3]
  have HBad : Hid (∀ (er : Int) (V : World), rFindE B L b k id = er → er ≠ 0 → Below w.heap.size w V → RFindIs B L b k id w (.returned (.tuple #[.int .i64 0, .int .i64 0, .int .i64 er])) V) := fun er V h1 h2 h3 => ⟨⟨0, 0, by rw [h1], fun e => absurd (h1.symm.trans e) h2⟩, h3⟩
  obtain ⟨A, c, A2, c2, _, hc, HG, _, HO⟩ := hm.lay
  obtain ⟨n, hn⟩ : ∃ n, L.length = n := ⟨_, rfl⟩
  rw [hn] at HG hc
  have HN := Lib.hid hn
  have HRV := Lib.hid hrsv
  clear hm hT hae hrs hrsv hn
  by_cases h12 : ae = 12
  · subst h12
    have HE : Hid (rFindE B L b k id = 12) := by show _ = _; rw [hE, if_pos rfl]
    clear hE
    go_enter Tryz.func70, Tryz.ntmps70
    go_wp2_with fail
    refine HAs.out.mono ?_
    rintro e w2 ⟨rfl, hb2⟩
    go_wp2_with fail
    go_ret3
    exact HBad.out 12 _ HE.out (by decide) hb2
  rw [if_neg h12] at hE
  have e12 : (ae == 12) = false := by simp; exact h12
  by_cases hneg : id < 0
  · have HE : Hid (rFindE B L b k id = 1) := by show _ = _; rw [hE, if_pos hneg]
    clear hE
    go_enter Tryz.func70, Tryz.ntmps70
    go_wp2_with fail
    refine HAs.out.mono ?_
    rintro e w2 ⟨rfl, hb2⟩
    go_wp2_with fail
    go_ret3
    exact HBad.out 1 _ HE.out (by decide) hb2
  rw [if_neg hneg] at hE
  have hneg2 : 0 ≤ id := by omega
  by_cases h0 : ae = 0
  · subst h0
    rw [if_neg (fun e => e rfl)] at hE
    by_cases hnil : rs = []
    · have HE : Hid (rFindE B L b k id = 14) := by show _ = _; rw [hE, if_pos hnil]
      clear hE
      rcases at_none (HRV.out.trans hnil) with hat | ⟨j, hat, hj⟩
      · rw [hat] at HAt
        clear hat
        go_enter Tryz.func70, Tryz.ntmps70
        go_wp2_with fail
        refine HAs.out.mono ?_
        rintro e w2 ⟨rfl, hb2⟩
        go_wp2_with fail
        refine (HAt.out _ hb2).mono ?_
        rintro e w3 ⟨rfl, hb3⟩
        go_wp2_with fail
        go_ret3
        exact HBad.out 14 _ HE.out (by decide) hb3
      · rw [hat] at HAt
        clear hat
        obtain ⟨gl, vs, ds, rfl, hv, _, hcell⟩ := HO.out j _ hj
        obtain ⟨vp, vc, rfl, _⟩ := hv.slice
        have HCe := Lib.hid hcell
        have hjn : j < n := by have := (List.getElem?_eq_some_iff.1 hj).1; have := HN.out; omega
        have hjz : (j : Int) < (n : Int) := by omega
        have hj0 : ¬ (j : Int) < 0 := by omega
        clear hv hj hcell
        go_enter Tryz.func70, Tryz.ntmps70
        go_wp2_with fail
        refine HAs.out.mono ?_
        rintro e w2 ⟨rfl, hb2⟩
        go_wp2_with fail
        refine (HAt.out _ hb2).mono ?_
        rintro e w3 ⟨rfl, hb3⟩
        obtain ⟨_, g1⟩ := HG.out _ hb3
        obtain ⟨_, _, c2, _⟩ := HCe.out _ hb3
        go_wp2_with fail
        go_ret3
        exact HBad.out 14 _ HE.out (by decide) hb3
    · rw [if_neg hnil] at hE
      have hne : rsOf L b k ≠ [] := by rw [HRV.out]; exact hnil
      obtain ⟨ha1, ha2, ha3⟩ := at_has hne
      obtain ⟨i, hi⟩ : ∃ i, (atL L b k).2 = i := ⟨_, rfl⟩
      rw [hi] at ha1 ha2
      rw [ha1] at HAt
      obtain ⟨gl, vs, ds, rfl, hv, _, hcell⟩ := HO.out i _ ha2
      rw [HRV.out] at hv
      obtain ⟨vp, vc, hvs, hvc⟩ := hv.slice
      subst hvs
      have HCe := Lib.hid hcell
      have hin : i < n := by have := (List.getElem?_eq_some_iff.1 ha2).1; have := HN.out; omega
      have hinz : (i : Int) < (n : Int) := by omega
      have hi0 : ¬ (i : Int) < 0 := by omega
      obtain ⟨m, hm⟩ : ∃ m, rs.length = m := ⟨_, rfl⟩
      have hpos : 0 < m := by rw [← hm]; exact List.length_pos_iff.2 hnil
      have hposz : ((m : Int) == 0) = false := by simp; omega
      rw [hm] at HCe hvc hrl
      have HI := Lib.hid hi
      have HV := Lib.hid hv
      have HMl := Lib.hid hm
      clear hv hcell ha1 ha2 ha3 hne hi hm
      by_cases hid : id = 0
      · subst hid
        have hix : idxK 0 rs = (m : Int) - 1 := by unfold idxK; rw [if_pos rfl, HMl.out]
        have HE : Hid (rFindE B L b k 0 = 0) := by show _ = _; rw [hE, if_neg (by rw [hix]; omega)]
        have HOk : Hid (∀ V, Below w.heap.size w V → RFindIs B L b k 0 w (.returned (.tuple #[.int .i64 i, .int .i64 ((m : Int) - 1), .int .i64 0])) V) := fun V hV => ⟨⟨_, _, by rw [HE.out], fun _ => ⟨by rw [HI.out], by rw [HRV.out, hix]⟩⟩, hV⟩
        clear hE hix
        go_enter Tryz.func70, Tryz.ntmps70
        go_wp2_with fail
        refine HAs.out.mono ?_
        rintro e w2 ⟨rfl, hb2⟩
        go_wp2_with fail
        refine (HAt.out _ hb2).mono ?_
        rintro e w3 ⟨rfl, hb3⟩
        obtain ⟨_, g1⟩ := HG.out _ hb3
        obtain ⟨_, _, c2, _⟩ := HCe.out _ hb3
        go_wp2_with fail
        go_ret3
        exact HOk.out _ hb3
      · rw [show idxK id rs = idxK id rs from rfl] at hE
        have hid2 : (id == 0) = false := by simp; exact hid
        have HLp := Lib.hid hE
        clear hE
        go_enter Tryz.func70, Tryz.ntmps70
        go_wp2_with fail
        refine HAs.out.mono ?_
        rintro e w2 ⟨rfl, hb2⟩
        go_wp2_with fail
        refine (HAt.out _ hb2).mono ?_
        rintro e w3 ⟨rfl, hb3⟩
        have HB3 := Lib.hid hb3
        obtain ⟨g00, g1⟩ := HG.out _ hb3
        obtain ⟨a0, a1, c2, c3⟩ := HCe.out _ hb3
        clear hb3 hb2 HAs HAt
        go_wp2_with fail
        clear g00 g1 a0 a1 c2 c3
        go_loopw [14] (fun vj wr => ∃ (j : Nat), vj = .int .i64 j ∧ j ≤ m ∧ Hid (∀ x ∈ rs.take j, x.id ≠ id) ∧ Hid (Below w.heap.size w wr)) (fun vj _ => m - (intOf vj).toNat)
        case atStart => exact ⟨0, rfl, Nat.zero_le _, by show ∀ x ∈ rs.take 0, _; simp, HB3⟩
        case round =>
          obtain ⟨j, rfl, hj, HJ, HW⟩ := hrel
          obtain ⟨_, g1⟩ := HG.out _ HW.out
          obtain ⟨a0, a1, c2, c3⟩ := HCe.out _ HW.out
          by_cases hlt : j < m
          · have hltz : (j : Int) < (m : Int) := by omega
            obtain ⟨y, hy⟩ : ∃ y, rs[j]? = some y := ⟨_, List.getElem?_eq_getElem (by have := HMl.out; omega)⟩
            obtain ⟨gv, cv, csv, ev, _, hpv, hcv⟩ := HV.out.at_ j hy
            injection ev with ev _ ev3
            subst ev
            subst ev3
            have y0 := pw_cell_below HW.out (hcv 0 (.int .i64 y.id) (by omega) (by rw [hpv]; rfl))
            rw [Nat.add_zero] at y0
            clear hcv hpv
            by_cases hyi : y.id = id
            · have hix := idx_hit hid hy hyi HJ.out
              have HE : Hid (rFindE B L b k id = 0) := by show _ = _; rw [HLp.out, if_neg (by rw [hix]; omega)]
              have HOk : Hid (∀ V, Below w.heap.size w V → RFindIs B L b k id w (.returned (.tuple #[.int .i64 i, .int .i64 (j : Int), .int .i64 0])) V) := fun V hV => ⟨⟨_, _, by rw [HE.out], fun _ => ⟨by rw [HI.out], by rw [HRV.out, hix]⟩⟩, hV⟩
              have hyb : (y.id == id) = true := by simp [hyi]
              subst hyi
              clear hix hy
              go_wp2_with fail
              go_ret3
              exact HOk.out _ HW.out
            · have hyb : (y.id == id) = false := by simp [hyi]
              have HJ2 : Hid (∀ x ∈ rs.take (j + 1), x.id ≠ id) := fun x hx => by
                rw [List.take_add_one, hy] at hx
                rcases List.mem_append.1 hx with h | h
                · exact HJ.out x h
                · simp at h
                  rw [h]
                  exact hyi
              clear hy
              go_wp2_with fail
              go_roundw
              case rel => exact ⟨j + 1, by go_num, by omega, HJ2, HW⟩
              case measure => simp [intOf]; omega
          · have hltz : ¬ (j : Int) < (m : Int) := by omega
            have hix := idx_miss hid (fun x hx => HJ.out x (by rw [List.take_of_length_le (by have := HMl.out; omega)]; exact hx))
            have HE : Hid (rFindE B L b k id = 15) := by show _ = _; rw [HLp.out, if_pos (by rw [hix]; decide)]
            clear hix HJ
            go_wp2_with fail
            go_ret3
            exact HBad.out 15 _ HE.out (by decide) HW.out
  · rw [if_pos h0] at hE
    have HE := Lib.hid hE
    have e0 : (ae == 0) = false := by simp; exact h0
    clear hE
    go_enter Tryz.func70, Tryz.ntmps70
    go_wp2_with fail
    refine HAs.out.mono ?_
    rintro e w2 ⟨rfl, hb2⟩
    go_wp2_with fail
    go_ret3
    exact HBad.out ae _ HE.out h0 hb2
end Go.Proofs.YtjbjcfnbgcloiaaGreatDoor

/- The document's own model: Delete. -/
set_option linter.unusedSimpArgs false
set_option linter.unusedVariables false
namespace Go.Proofs.YtjbjcfnbgcloiaaGreatDoor
open Go.RowKit Nam YtjbjcfnbgcloiaaGreatDoorW.PrintWords Go.Shelf

def rDelE (B : List (List UInt8)) (L : List Ob) (id : Int) (b k : List UInt8) : Int := if askE B b k ≠ 0 then askE B b k else if rsOf L b k = [] then 14 else moreE (rsOf L b k) (kpDel id)
def rDelL (B : List (List UInt8)) (L : List Ob) (id : Int) (b k : List UInt8) : List Ob := if askE B b k ≠ 0 then L else if rsOf L b k = [] then L else rMoreL L b k (kpDel id)
set_option maxHeartbeats 2000000 in
set_option maxRecDepth 100000 in
theorem rdel_is (w : World) (g : Nat) (B : List (List UInt8)) (L : List Ob) (b0 : Nat) (Q F : Nat → Prop) (id : Int) (b k : List UInt8) (hb : b.length ≤ 100000) (hk : k.length ≤ 100000) (hB : B.length ≤ 100000) (hL : L.length ≤ 1000) (hrs : ∀ o ∈ L, o.rs.length ≤ 64) (hb0 : b0 ≤ w.heap.size) (hm : RefM w g B L b0 Q F) (hT : Tabs w) :
    Calls Tryz.prog 44 #[.pointer (some ⟨g, 0, none⟩), .int .i64 id, .string (mkS b), .string (mkS k)] w fun e w' =>
      e = .returned (.tuple #[verOk (rDelE B L id b k) (kpDel id), .int .i64 (rDelE B L id b k)]) ∧ Left w g b0 B (rDelL B L id b k) Q F w' := by
  obtain ⟨W1, hW1⟩ : ∃ W1, w.alloc (.cells #[.int .i64 0, .bool false, .int .i64 0, .int .u32 0] 38) = W1 := ⟨_, rfl⟩
  have hb1 : Below w.heap.size w W1 := by rw [← hW1]; exact (Below.refl _ _).alloc (Nat.le_refl _) _
  have hs1 : W1.heap.size = w.heap.size + 1 := by rw [← hW1]; simp
  have hr1 : W1.heap[w.heap.size]? = some (.cells #[.int .i64 0, .bool false, .int .i64 0, .int .u32 0] 38 (0, 0)) := by rw [← hW1]; exact blk_new w _
  obtain ⟨ae, hae⟩ : ∃ ae, askE B b k = ae := ⟨_, rfl⟩
  have HAs : Hid (Calls Tryz.prog 67 #[.pointer (some ⟨g, 0, none⟩), .string (mkS b), .string (mkS k)] W1 fun e w' => e = .returned (.int .i64 ae) ∧ Hid (Below w.heap.size w w') ∧ w.heap.size + 1 ≤ w'.heap.size ∧ Hid (w'.heap[w.heap.size]? = some (.cells #[.int .i64 0, .bool false, .int .i64 0, .int .u32 0] 38 (0, 0)))) := by
    have h := rask_is W1 g B L b0 Q F b k hb hk hB (hm.below hb1) (hT.below hb1)
    rw [hae] at h
    exact h.mono fun e w' ⟨he, h2⟩ => ⟨he, hb1.trans (h2.mono hb1.size), by have := h2.size; omega, blk_below hr1 h2⟩
  have HAt : Hid (∀ V, Below w.heap.size w V → V.heap[w.heap.size]? = some (.cells #[.int .i64 0, .bool false, .int .i64 0, .int .u32 0] 38 (0, 0)) → Calls Tryz.prog 71 #[.pointer (some ⟨g, 0, none⟩), .string (mkS b), .string (mkS k)] V fun e w' => e = .returned (.int .i64 (atI L b k)) ∧ Hid (Below w.heap.size w w') ∧ w.heap.size + 1 ≤ w'.heap.size ∧ Hid (w'.heap[w.heap.size]? = some (.cells #[.int .i64 0, .bool false, .int .i64 0, .int .u32 0] 38 (0, 0)))) := fun V hV hbx =>
    (rat_is V g B L b0 Q F b k (by omega) (hm.below hV)).mono fun e w' ⟨he, h2⟩ => ⟨he, hV.trans (h2.mono hV.size), blk_lt (blk_below hbx h2), blk_below hbx h2⟩
  obtain ⟨me, hme⟩ : ∃ me, moreE (rsOf L b k) (kpDel id) = me := ⟨_, rfl⟩
  have HMo : Hid (∀ V, Below w.heap.size w V → Calls Tryz.prog 68 #[.pointer (some ⟨g, 0, none⟩), .string (mkS b), .string (mkS k), .agg #[.int .i64 id, .bool true, .int .i64 0, .int .u32 0], .slice none 0 0] V fun e w' => e = .returned (.tuple #[verOk me (kpDel id), .int .i64 me]) ∧ Hid (Left V g b0 B (rMoreL L b k (kpDel id)) Q F w')) := fun V hV => by
    have h := rmore_is V g B L b0 Q F b k (kpDel id) none 0 hL hrs (by show ([] : List UInt8).length ≤ _; decide) (Nat.le_trans hb0 hV.size) (hm.below hV) (fun V2 h2 => Kd.C_nil _ _)
    rw [hme] at h
    exact h.mono fun e w' ⟨he, h1, h2⟩ => ⟨he, h1, h2⟩
  obtain ⟨rs, hrsv⟩ : ∃ rs, rsOf L b k = rs := ⟨_, rfl⟩
  have hE : rDelE B L id b k = if ae ≠ 0 then ae else if rs = [] then 14 else me := by rw [← hae, ← hme, ← hrsv]; rfl
  have hLl : rDelL B L id b k = if ae ≠ 0 then L else if rs = [] then L else rMoreL L b k (kpDel id) := by rw [← hae, ← hrsv]; rfl
  obtain ⟨A, c, A2, c2, _, hc, HG, _, HO⟩ := hm.lay
  obtain ⟨n, hn⟩ : ∃ n, L.length = n := ⟨_, rfl⟩
  rw [hn] at HG hc
  have HN := Lib.hid hn
  have HRV := Lib.hid hrsv
  have HM := Lib.hid hm
  rw [hE, hLl]
  clear hE hLl hae hme hT hm hn hrsv
  by_cases h0 : ae ≠ 0
  · rw [if_pos h0, if_pos h0, verOk_ne h0]
    have e0 : (ae == 0) = false := by simp; exact h0
    clear h0
    go_enter Tryz.func44, Tryz.ntmps44
    go_wp2_with fail
    refine HAs.out.mono ?_
    rintro e w2 ⟨rfl, HB2, hs2, HR2⟩
    go_wp2_with (refine wpList_store_row rfl 38 (.tmp 8) (.tmp 18) rfl w.heap.size #[.int .i64 0, .bool false, .int .i64 0, .int .u32 0] rfl rfl 38 _ HR2.out (by kernel_rfl) rfl (by simp [Value.oneCell']) ?_)
    refine bodyPost_ret (results_ct rfl _ _ w.heap.size 38 #[.int .i64 0, .bool false, .int .i64 0, .int .u32 0] (0, 0) _ rfl (setRow_heap _ _ _ _ _ _ HR2.out) Tryz.underlying38 rfl (by kernel_rfl)) rfl ?_
    exact ⟨rfl, left_below HM.out (below_setRow HB2.out (Nat.le_refl _) _)⟩
  rw [if_neg h0, if_neg h0]
  obtain rfl : ae = 0 := Classical.not_not.1 h0
  clear h0
  by_cases hnil : rs = []
  · rw [if_pos hnil, if_pos hnil, verOk_ne (by decide)]
    rcases at_none (HRV.out.trans hnil) with hat | ⟨j, hat, hj⟩
    · rw [hat] at HAt
      clear hat hnil
      go_enter Tryz.func44, Tryz.ntmps44
      go_wp2_with fail
      refine HAs.out.mono ?_
      rintro e w2 ⟨rfl, HB2, hs2, HR2⟩
      go_wp2_with fail
      refine (HAt.out _ HB2.out HR2.out).mono ?_
      rintro e w3 ⟨rfl, HB3, hs3, HR3⟩
      go_wp2_with (refine wpList_store_row rfl 38 (.tmp 8) (.tmp 38) rfl w.heap.size #[.int .i64 0, .bool false, .int .i64 0, .int .u32 0] rfl rfl 38 _ HR3.out (by kernel_rfl) rfl (by simp [Value.oneCell']) ?_)
      refine bodyPost_ret (results_ct rfl _ _ w.heap.size 38 #[.int .i64 0, .bool false, .int .i64 0, .int .u32 0] (0, 0) _ rfl (setRow_heap _ _ _ _ _ _ HR3.out) Tryz.underlying38 rfl (by kernel_rfl)) rfl ?_
      exact ⟨rfl, left_below HM.out (below_setRow HB3.out (Nat.le_refl _) _)⟩
    · rw [hat] at HAt
      clear hat hnil
      obtain ⟨gl, vs, ds, rfl, hv, _, hcell⟩ := HO.out j _ hj
      obtain ⟨vp, vc, rfl, _⟩ := hv.slice
      have HCe := Lib.hid hcell
      have hjn : j < n := by have := (List.getElem?_eq_some_iff.1 hj).1; have := HN.out; omega
      have hjz : (j : Int) < (n : Int) := by omega
      have hj0 : ¬ (j : Int) < 0 := by omega
      clear hv hj hcell
      go_enter Tryz.func44, Tryz.ntmps44
      go_wp2_with fail
      refine HAs.out.mono ?_
      rintro e w2 ⟨rfl, HB2, hs2, HR2⟩
      go_wp2_with fail
      refine (HAt.out _ HB2.out HR2.out).mono ?_
      rintro e w3 ⟨rfl, HB3, hs3, HR3⟩
      obtain ⟨_, g1⟩ := HG.out _ HB3.out
      obtain ⟨_, _, c2, _⟩ := HCe.out _ HB3.out
      go_wp2_with (refine wpList_store_row rfl 38 (.tmp 8) (.tmp 38) rfl w.heap.size #[.int .i64 0, .bool false, .int .i64 0, .int .u32 0] rfl rfl 38 _ HR3.out (by kernel_rfl) rfl (by simp [Value.oneCell']) ?_)
      refine bodyPost_ret (results_ct rfl _ _ w.heap.size 38 #[.int .i64 0, .bool false, .int .i64 0, .int .u32 0] (0, 0) _ rfl (setRow_heap _ _ _ _ _ _ HR3.out) Tryz.underlying38 rfl (by kernel_rfl)) rfl ?_
      exact ⟨rfl, left_below HM.out (below_setRow HB3.out (Nat.le_refl _) _)⟩
  · rw [if_neg hnil, if_neg hnil]
    have hne : rsOf L b k ≠ [] := by rw [HRV.out]; exact hnil
    obtain ⟨ha1, ha2, ha3⟩ := at_has hne
    obtain ⟨i, hi⟩ : ∃ i, (atL L b k).2 = i := ⟨_, rfl⟩
    rw [hi] at ha1 ha2
    rw [ha1] at HAt
    obtain ⟨gl, vs, ds, rfl, hv, _, hcell⟩ := HO.out i _ ha2
    rw [HRV.out] at hv
    obtain ⟨vp, vc, hvs, hvc⟩ := hv.slice
    subst hvs
    have HCe := Lib.hid hcell
    have hin : i < n := by have := (List.getElem?_eq_some_iff.1 ha2).1; have := HN.out; omega
    have hinz : (i : Int) < (n : Int) := by omega
    have hi0 : ¬ (i : Int) < 0 := by omega
    obtain ⟨m, hm⟩ : ∃ m, rs.length = m := ⟨_, rfl⟩
    have hpos : 0 < m := by rw [← hm]; exact List.length_pos_iff.2 hnil
    have hposz : ((m : Int) == 0) = false := by simp; omega
    rw [hm] at HCe hvc
    clear hv hcell ha1 ha2 ha3 hne hi hm hnil
    by_cases hz : me = 0
    · subst hz
      rw [verOk_0]
      go_enter Tryz.func44, Tryz.ntmps44
      go_wp2_with fail
      refine HAs.out.mono ?_
      rintro e w2 ⟨rfl, HB2, hs2, HR2⟩
      go_wp2_with fail
      refine (HAt.out _ HB2.out HR2.out).mono ?_
      rintro e w3 ⟨rfl, HB3, hs3, HR3⟩
      obtain ⟨_, g1⟩ := HG.out _ HB3.out
      obtain ⟨_, _, c2, _⟩ := HCe.out _ HB3.out
      have HLb : Hid (∀ w' cs, Left w3 g b0 B (rMoreL L b k (kpDel id)) Q F w' → Left w g b0 B (rMoreL L b k (kpDel id)) Q F (w'.setRow w.heap.size cs)) := fun w' cs h => left_box HM.out HB3.out (by omega) h cs
      have HRb : Hid (∀ w', Left w3 g b0 B (rMoreL L b k (kpDel id)) Q F w' → w'.heap[w.heap.size]? = some (.cells #[.int .i64 0, .bool false, .int .i64 0, .int .u32 0] 38 (0, 0))) := fun w' h => (h.1.block _ (by omega) (fun q => by have := isC_lt (HM.out.ic _ (.inl q)); omega)).trans HR3.out
      go_wp2_with fail
      refine (HMo.out _ HB3.out).mono ?_
      rintro e w4 ⟨rfl, HL4⟩
      rw [verOk_0]
      go_wp2_with (refine wpList_store_row rfl 38 (.tmp 8) (.tmp 45) rfl w.heap.size #[.int .i64 id, .bool true, .int .i64 0, .int .u32 0] rfl rfl 38 _ (HRb.out _ HL4.out) (by kernel_rfl) rfl (by simp [Value.oneCell']) ?_)
      refine bodyPost_ret (results_ct rfl _ _ w.heap.size 38 #[.int .i64 id, .bool true, .int .i64 0, .int .u32 0] (0, 0) _ rfl (setRow_heap _ _ _ _ _ _ (HRb.out _ HL4.out)) Tryz.underlying38 rfl (by kernel_rfl)) rfl ?_
      exact ⟨rfl, HLb.out _ _ HL4.out⟩
    · rw [verOk_ne hz]
      go_enter Tryz.func44, Tryz.ntmps44
      go_wp2_with fail
      refine HAs.out.mono ?_
      rintro e w2 ⟨rfl, HB2, hs2, HR2⟩
      go_wp2_with fail
      refine (HAt.out _ HB2.out HR2.out).mono ?_
      rintro e w3 ⟨rfl, HB3, hs3, HR3⟩
      obtain ⟨_, g1⟩ := HG.out _ HB3.out
      obtain ⟨_, _, c2, _⟩ := HCe.out _ HB3.out
      have HLb : Hid (∀ w' cs, Left w3 g b0 B (rMoreL L b k (kpDel id)) Q F w' → Left w g b0 B (rMoreL L b k (kpDel id)) Q F (w'.setRow w.heap.size cs)) := fun w' cs h => left_box HM.out HB3.out (by omega) h cs
      have HRb : Hid (∀ w', Left w3 g b0 B (rMoreL L b k (kpDel id)) Q F w' → w'.heap[w.heap.size]? = some (.cells #[.int .i64 0, .bool false, .int .i64 0, .int .u32 0] 38 (0, 0))) := fun w' h => (h.1.block _ (by omega) (fun q => by have := isC_lt (HM.out.ic _ (.inl q)); omega)).trans HR3.out
      go_wp2_with fail
      refine (HMo.out _ HB3.out).mono ?_
      rintro e w4 ⟨rfl, HL4⟩
      rw [verOk_ne hz]
      go_wp2_with (refine wpList_store_row rfl 38 (.tmp 8) (.tmp 45) rfl w.heap.size #[.int .i64 0, .bool false, .int .i64 0, .int .u32 0] rfl rfl 38 _ (HRb.out _ HL4.out) (by kernel_rfl) rfl (by simp [Value.oneCell']) ?_)
      refine bodyPost_ret (results_ct rfl _ _ w.heap.size 38 #[.int .i64 0, .bool false, .int .i64 0, .int .u32 0] (0, 0) _ rfl (setRow_heap _ _ _ _ _ _ (HRb.out _ HL4.out)) Tryz.underlying38 rfl (by kernel_rfl)) rfl ?_
      exact ⟨rfl, HLb.out _ _ HL4.out⟩
end Go.Proofs.YtjbjcfnbgcloiaaGreatDoor

/- The document's own model: Get. -/
set_option linter.unusedSimpArgs false
set_option linter.unusedVariables false
namespace Go.Proofs.YtjbjcfnbgcloiaaGreatDoor
open Go.RowKit Nam YtjbjcfnbgcloiaaGreatDoorW.PrintWords Go.Shelf

def rGetK (L : List Ob) (b k : List UInt8) (id : Int) : Option Kp := (rsOf L b k)[(idxK id (rsOf L b k)).toNat]?
def rGetE (B : List (List UInt8)) (L : List Ob) (b k : List UInt8) (id : Int) : Int := if rFindE B L b k id ≠ 0 then rFindE B L b k id else match rGetK L b k id with
  | some y => if y.mark then 16 else 0
  | none => 0
def RGetIs (B : List (List UInt8)) (L : List Ob) (b k : List UInt8) (id : Int) (w : World) (e : Ending) (w' : World) : Prop :=
  (∃ (y : Kp) (v : Value), e = .returned (.tuple #[.agg #[.int .i64 y.id, .bool y.mark, .int .i64 y.sz, .int .u32 y.sum], v, .int .i64 (rGetE B L b k id)]) ∧
    ((rFindE B L b k id ≠ 0 ∧ y = kp0 ∧ v = .slice none 0 0) ∨ (rFindE B L b k id = 0 ∧ rGetK L b k id = some y ∧ y.mark = true ∧ v = .slice none 0 0) ∨
      (rFindE B L b k id = 0 ∧ rGetK L b k id = some y ∧ y.mark = false ∧ w'.ownsRow w.heap.size 5 1 v y.dt.length ((byN y.dt).map (Value.int .u8))))) ∧ Below w.heap.size w w'
theorem rfind_0 {B : List (List UInt8)} {L : List Ob} {b k : List UInt8} {id : Int} (h : rFindE B L b k id = 0) : rsOf L b k ≠ [] ∧ ∃ (j : Nat) (y : Kp), idxK id (rsOf L b k) = (j : Int) ∧ (rsOf L b k)[j]? = some y ∧ rGetK L b k id = some y := by
  unfold rFindE at h
  split at h
  · cases h
  split at h
  · cases h
  split at h
  · cases h
  split at h
  · cases h
  split at h
  · cases h
  rename_i h1 h2 h3 h4 h5
  refine ⟨h4, ?_⟩
  have hlt : (idxK id (rsOf L b k)).toNat < (rsOf L b k).length := by
    have hp := List.length_pos_iff.2 h4
    by_cases h0 : id = 0
    · subst h0
      unfold idxK
      rw [if_pos rfl]
      omega
    · rcases idx_spec (fun y => decide (y.id = id)) kp0 (rsOf L b k) 0 with hx | ⟨j, hj, hx, _⟩
      · exfalso
        apply h5
        unfold idxK Lib.idxBy
        rw [if_neg h0, hx]
        decide
      · unfold idxK Lib.idxBy
        rw [if_neg h0, hx]
        simp
        exact hj
  refine ⟨(idxK id (rsOf L b k)).toNat, (rsOf L b k)[(idxK id (rsOf L b k)).toNat], by omega, List.getElem?_eq_getElem hlt, List.getElem?_eq_getElem hlt⟩
theorem step_ap_ad {T E : TypeId} {z : Value} {sz bytes : Nat} (ht : ApT T E z sz bytes) {w : World} {ops : Array Oper} {o : Oper} {a : Act} {K : Act → World → Prop} {Q : Exit → Act → World → Prop} {X : Prop} (hgd : o.guard = none) (s u : Operand)
    (ho : o.op = .call { callee := .builtin .append, args := #[s, u], argTypes := #[T, T] })
    {base n m : Nat} {v x : Value} {xs cs : List Value} (hs : a.eval s = v) (hown : w.ownsRow base E sz v n xs) (hu : a.eval u = x) (hx : LiesAd w x m cs) (hl : cs.length = m * sz) (h1 : ∀ u ∈ cs, u.oneCell' = true)
    (hn : n + m ≤ 1000000000) (hbase : base ≤ w.heap.size)
    (h : ∀ v' w', w'.ownsRow base E sz v' (n + m) (xs ++ cs) → w.grownBy w' v.ownBlock → (v'.ownBlock = v.ownBlock ∨ v'.ownBlock = some w.heap.size) → K (a.put o.dst v') w') :
    if Region.wanted o (yielded ops a.tmps) = true then Oper.wp Tryz.prog o a w K Q else X := by
  have hw : Region.wanted o (yielded ops a.tmps) = true := by simp [Region.wanted, hgd]
  rw [if_pos hw]
  exact wp_ap_ad ht s u ho hs hown hu hx hl h1 hn hbase h
set_option maxHeartbeats 2000000 in
set_option maxRecDepth 100000 in
theorem rget_is (w : World) (g : Nat) (B : List (List UInt8)) (L : List Ob) (b0 : Nat) (Q F : Nat → Prop) (b k : List UInt8) (id : Int) (hb : b.length ≤ 100000) (hk : k.length ≤ 100000) (hB : B.length ≤ 100000) (hL : L.length ≤ 100000) (hrs : ∀ o ∈ L, o.rs.length ≤ 64) (hdt : ∀ y ∈ rsOf L b k, y.dt.length ≤ 1000000) (hm : RefM w g B L b0 Q F) (hT : Tabs w) :
    Calls Tryz.prog 43 #[.pointer (some ⟨g, 0, none⟩), .string (mkS b), .string (mkS k), .int .i64 id] w (RGetIs B L b k id w) := by
  obtain ⟨W1, hW1⟩ : ∃ W1, w.alloc (.cells #[.int .i64 0, .bool false, .int .i64 0, .int .u32 0] 38) = W1 := ⟨_, rfl⟩
  have hb1 : Below w.heap.size w W1 := by rw [← hW1]; exact (Below.refl _ _).alloc (Nat.le_refl _) _
  have hs1 : W1.heap.size = w.heap.size + 1 := by rw [← hW1]; simp
  have hr1 : W1.heap[w.heap.size]? = some (.cells #[.int .i64 0, .bool false, .int .i64 0, .int .u32 0] 38 (0, 0)) := by rw [← hW1]; exact blk_new w _
  obtain ⟨fe, hfe⟩ : ∃ fe, rFindE B L b k id = fe := ⟨_, rfl⟩
  have HFi : Hid (Calls Tryz.prog 70 #[.pointer (some ⟨g, 0, none⟩), .string (mkS b), .string (mkS k), .int .i64 id] W1 fun e w' => (∃ i j : Int, e = .returned (.tuple #[.int .i64 i, .int .i64 j, .int .i64 fe]) ∧ Hid (fe = 0 → i = ((atL L b k).2 : Int) ∧ j = idxK id (rsOf L b k))) ∧ Hid (Below w.heap.size w w') ∧ w.heap.size + 1 ≤ w'.heap.size ∧ Hid (w'.heap[w.heap.size]? = some (.cells #[.int .i64 0, .bool false, .int .i64 0, .int .u32 0] 38 (0, 0)))) := by
    have h := rfind_is W1 g B L b0 Q F b k id hb hk hB hL hrs (hm.below hb1) (hT.below hb1)
    unfold RFindIs at h
    rw [hfe] at h
    exact h.mono fun e w' ⟨⟨i, j, he, h1⟩, h2⟩ => ⟨⟨i, j, he, h1⟩, hb1.trans (h2.mono hb1.size), by have := h2.size; omega, blk_below hr1 h2⟩
  obtain ⟨A, c, A2, c2, _, hc, HG, _, HO⟩ := hm.lay
  obtain ⟨n, hn⟩ : ∃ n, L.length = n := ⟨_, rfl⟩
  rw [hn] at HG hc
  have HN := Lib.hid hn
  have HM := Lib.hid hm
  clear hT hm hn
  by_cases h0 : fe = 0
  · subst h0
    obtain ⟨hne, j, y, hix, hy, hgk⟩ := rfind_0 hfe
    obtain ⟨ha1, ha2, ha3⟩ := at_has hne
    obtain ⟨i, hi⟩ : ∃ i, (atL L b k).2 = i := ⟨_, rfl⟩
    rw [hi] at ha2 HFi
    rw [hix] at HFi
    obtain ⟨gl, vs, ds, rfl, hv, hd, hcell⟩ := HO.out i _ ha2
    have hjl : j < (rsOf L b k).length := (List.getElem?_eq_some_iff.1 hy).1
    obtain ⟨m, hmm⟩ : ∃ m, (rsOf L b k).length = m := ⟨_, rfl⟩
    obtain ⟨gv, cv, csv, ev, _, hpv, hcv⟩ := hv.at_ j hy
    obtain ⟨gd, cd, csd, ed, _, ⟨Ad, cad, had, hled, hDf⟩, hcd⟩ := hd.at_ j hy
    simp only at ev ed
    rw [hmm] at ev ed hjl
    subst ev
    subst ed
    have HCe := Lib.hid hcell
    have hin : i < n := by have := (List.getElem?_eq_some_iff.1 ha2).1; have := HN.out; omega
    have hinz : (i : Int) < (n : Int) := by omega
    have hjz : (j : Int) < (m : Int) := by omega
    have HV : Hid (∀ V, Below w.heap.size w V → V.cell? ⟨gv, j * 4, none⟩ = some (.int .i64 y.id) ∧ V.cell? ⟨gv, j * 4 + 1, none⟩ = some (.bool y.mark) ∧ V.cell? ⟨gv, j * 4 + 2, none⟩ = some (.int .i64 y.sz) ∧ V.cell? ⟨gv, j * 4 + 3, none⟩ = some (.int .u32 y.sum)) := fun V hV => by
      have hpv' : csv = [.int .i64 y.id, .bool y.mark, .int .i64 y.sz, .int .u32 y.sum] := hpv
      subst hpv'
      exact ⟨pw_cell_below hV (hcv 0 _ (by omega) rfl), pw_cell_below hV (hcv 1 _ (by omega) rfl), pw_cell_below hV (hcv 2 _ (by omega) rfl), pw_cell_below hV (hcv 3 _ (by omega) rfl)⟩
    have HDc : Hid (∀ V, Below w.heap.size w V → V.cell? ⟨gd, j, none⟩ = some (.slice Ad y.dt.length cad)) := fun V hV => by
      subst had
      have := pw_cell_below hV (hcd 0 _ (by omega) rfl)
      rwa [Nat.mul_one, Nat.add_zero] at this
    have HLy : Hid (∀ V, Below w.heap.size w V → LiesAd V (.slice Ad y.dt.length cad) y.dt.length ((byN y.dt).map (Value.int .u8))) := fun V hV => lies_of_C (hDf V (fun q hq => hV.block q (isC_lt (HM.out.ic q (.inr hq))))) cad
    have hyl : y.dt.length ≤ 1000000 := hdt y (List.mem_of_getElem? hy)
    have HOy : Hid (∀ u ∈ (byN y.dt).map (Value.int .u8), u.oneCell' = true) := fun u hu => by
      obtain ⟨a1, _, rfl⟩ := List.mem_map.1 hu
      rfl
    have HGk := Lib.hid hgk
    have HFe := Lib.hid hfe
    clear hv hd hcell hpv hcv had hDf hcd hne ha1 ha2 ha3 hi hix hy hmm hgk hfe hdt hrs
    obtain ⟨yi, ym, ys, yu, yd⟩ := y
    simp only at *
    cases ym with
    | true =>
      have hE : rGetE B L b k id = 16 := by unfold rGetE; rw [if_neg (fun e => e HFe.out), HGk.out]; rfl
      have HE := Lib.hid hE
      clear hE
      go_enter Tryz.func43, Tryz.ntmps43
      go_wp2_with fail
      refine HFi.out.mono ?_
      rintro e w2 ⟨⟨ii, jj, rfl, hij⟩, HB2, hs2, HR2⟩
      obtain ⟨rfl, rfl⟩ := hij.out (by first | rfl | trivial)
      obtain ⟨_, g1⟩ := HG.out _ HB2.out
      obtain ⟨_, _, c2, c3⟩ := HCe.out _ HB2.out
      obtain ⟨v0, v1, v2, v3⟩ := HV.out _ HB2.out
      have HR2b : Hid (∀ o, (w2.alloc o).heap[w.heap.size]? = some (.cells #[.int .i64 0, .bool false, .int .i64 0, .int .u32 0] 38 (0, 0))) := fun o => blk_below HR2.out ((Below.refl _ _).alloc (Nat.le_refl _) o)
      go_wp2_with (refine wpList_store_row rfl 38 (.tmp 8) (.tmp 41) rfl w.heap.size #[.int .i64 yi, .bool true, .int .i64 ys, .int .u32 yu] rfl rfl 38 _ (HR2b.out _) (by kernel_rfl) rfl (by simp [Value.oneCell']) ?_)
      refine bodyPost_ret (results_ctt rfl _ _ w.heap.size 38 #[.int .i64 yi, .bool true, .int .i64 ys, .int .u32 yu] (0, 0) _ rfl (setRow_heap _ _ _ _ _ _ (HR2b.out _)) Tryz.underlying38 rfl (by kernel_rfl)) rfl ?_
      exact ⟨⟨_, _, by rw [HE.out]; rfl, .inr (.inl ⟨HFe.out, HGk.out, rfl, rfl⟩)⟩, below_setRow (HB2.out.alloc HB2.out.size _) (Nat.le_refl _) _⟩
    | false =>
      have hE : rGetE B L b k id = 0 := by unfold rGetE; rw [if_neg (fun e => e HFe.out), HGk.out]; rfl
      have HE := Lib.hid hE
      clear hE
      go_enter Tryz.func43, Tryz.ntmps43
      go_wp2_with fail
      refine HFi.out.mono ?_
      rintro e w2 ⟨⟨ii, jj, rfl, hij⟩, HB2, hs2, HR2⟩
      obtain ⟨rfl, rfl⟩ := hij.out (by first | rfl | trivial)
      obtain ⟨_, g1⟩ := HG.out _ HB2.out
      obtain ⟨_, _, c2, c3⟩ := HCe.out _ HB2.out
      obtain ⟨v0, v1, v2, v3⟩ := HV.out _ HB2.out
      go_wp2_with fail
      obtain ⟨W3, hW3⟩ : ∃ W3, w2.alloc (.cells #[.int .i64 yi, .bool false, .int .i64 ys, .int .u32 yu] 38) = W3 := ⟨_, rfl⟩
      have hb3 : Below w2.heap.size w2 W3 := by rw [← hW3]; exact (Below.refl _ _).alloc (Nat.le_refl _) _
      have HB3 : Hid (Below w.heap.size w W3) := HB2.out.trans (hb3.mono HB2.out.size)
      have HX3 : Hid (W3.heap[w2.heap.size]? = some (.cells #[.int .i64 yi, .bool false, .int .i64 ys, .int .u32 yu] 38 (0, 0))) := by show _ = _; rw [← hW3]; exact blk_new w2 _
      have HR3 : Hid (W3.heap[w.heap.size]? = some (.cells #[.int .i64 0, .bool false, .int .i64 0, .int .u32 0] 38 (0, 0))) := blk_below HR2.out hb3
      have hne1 : w2.heap.size ≠ w.heap.size := by omega
      rw [hW3]
      clear hW3 hb3 g1 c2 c3 v0 v1 v2 v3
      have HBd : Hid (Below W3.heap.size W3 W3.drew) := (Below.refl _ _).drew
      have hbw : Below w.heap.size w W3.drew := HB3.out.trans (HBd.out.mono HB3.out.size)
      have HBw := Lib.hid hbw
      have g1 := (HG.out _ hbw).2
      obtain ⟨_, _, _, c3⟩ := HCe.out _ hbw
      have d0 := HDc.out _ hbw
      obtain ⟨x0, x1, x2, x3⟩ : W3.drew.cell? ⟨w2.heap.size, 0, none⟩ = some (.int .i64 yi) ∧ W3.drew.cell? ⟨w2.heap.size, 1, none⟩ = some (.bool false) ∧ W3.drew.cell? ⟨w2.heap.size, 2, none⟩ = some (.int .i64 ys) ∧ W3.drew.cell? ⟨w2.heap.size, 3, none⟩ = some (.int .u32 yu) := ⟨blk_cell HX3.out 0, blk_cell HX3.out 1, blk_cell HX3.out 2, blk_cell HX3.out 3⟩
      clear hbw
      go_region_law (first
        | (refine step_ap_ad (base := W3.heap.size) (n := 0) (m := yd.length) (xs := []) (cs := (byN yd).map (Value.int .u8)) apB (by rfl) (.const (.slice none 0 0)) (.tmp 53) (by rfl) (by rfl) (own_nil _ _ _ _) (by rfl) (HLy.out _ HBw.out) (by rw [List.length_map, byN_length, Nat.mul_one]) HOy.out (by omega) HBd.out.size ?_; intro u4 wy hown4 hgr4 _; rw [Nat.zero_add, List.nil_append] at hown4; obtain ⟨p4, q4, rfl⟩ := own_slice hown4; have HO4 := Lib.hid hown4; have hby : Below W3.heap.size W3 wy := Below.grown HBd.out hgr4 HBd.out.size (fun k hk => by cases hk); have HBy := Lib.hid hby; have y0 := blk_cell (blk_below HX3.out hby) 0; have y1 := blk_cell (blk_below HX3.out hby) 1; have y2 := blk_cell (blk_below HX3.out hby) 2; have y3 := blk_cell (blk_below HX3.out hby) 3; have HRy := Lib.hid (blk_below HR3.out hby); have r0 := blk_cell (blk_below HR3.out hby) 0; have r1 := blk_cell (blk_below HR3.out hby) 1; have r2 := blk_cell (blk_below HR3.out hby) 2; have r3 := blk_cell (blk_below HR3.out hby) 3; have f0 := blk_frozen (blk_below HR3.out hby) 0; have f1 := blk_frozen (blk_below HR3.out hby) 1; have f2 := blk_frozen (blk_below HR3.out hby) 2; have f3 := blk_frozen (blk_below HR3.out hby) 3; simp at y0 y1 y2 y3 r0 r1 r2 r3; clear hown4 hgr4 hby)
        | fail)
      all_goals
        clear y0 y1 y2 y3 r0 r1 r2 r3 f0 f1 f2 f3
        go_wp2_with fail
        refine bodyPost_ret (results_ctt rfl _ _ w.heap.size 38 #[.int .i64 yi, .bool false, .int .i64 ys, .int .u32 yu] (0, 0) _ rfl (blk_put (blk_put (blk_put (blk_put HRy.out 0 _ rfl) 1 _ rfl) 2 _ rfl) 3 _ rfl) Tryz.underlying38 rfl (by kernel_rfl)) rfl ?_
        have hlt3 : w.heap.size < W3.heap.size := blk_lt HR3.out
        have hne4 : some w.heap.size ≠ (Value.slice p4 yd.length q4).ownBlock := fun e => by
          have := own_ge HO4.out _ e.symm
          omega
        exact ⟨⟨⟨yi, false, ys, yu, yd⟩, .slice p4 yd.length q4, by rw [HE.out]; rfl, .inr (.inr ⟨HFe.out, HGk.out, rfl, own_weaken (own_setCell (own_setCell (own_setCell (own_setCell HO4.out (p := ⟨w.heap.size, 0, none⟩) hne4 _) (p := ⟨w.heap.size, 1, none⟩) hne4 _) (p := ⟨w.heap.size, 2, none⟩) hne4 _) (p := ⟨w.heap.size, 3, none⟩) hne4 _) (Nat.le_of_lt hlt3)⟩)⟩, below_put (below_put (below_put (below_put (HB3.out.trans (HBy.out.mono HB3.out.size)) (Nat.le_refl _) _) (Nat.le_refl _) _) (Nat.le_refl _) _) (Nat.le_refl _) _⟩
  · have HE : Hid (rGetE B L b k id = fe) := by show _ = _; unfold rGetE; rw [hfe, if_pos h0]
    have HFe : Hid (rFindE B L b k id ≠ 0) := by show _ ≠ _; rw [hfe]; exact h0
    have e0 : (fe == 0) = false := by simp; exact h0
    clear hfe h0
    go_enter Tryz.func43, Tryz.ntmps43
    go_wp2_with fail
    refine HFi.out.mono ?_
    rintro e w2 ⟨⟨ii, jj, rfl, hij⟩, HB2, hs2, HR2⟩
    go_wp2_with (refine wpList_store_row rfl 38 (.tmp 8) (.tmp 26) rfl w.heap.size #[.int .i64 0, .bool false, .int .i64 0, .int .u32 0] rfl rfl 38 _ HR2.out (by kernel_rfl) rfl (by simp [Value.oneCell']) ?_)
    refine bodyPost_ret (results_ctt rfl _ _ w.heap.size 38 #[.int .i64 0, .bool false, .int .i64 0, .int .u32 0] (0, 0) _ rfl (setRow_heap _ _ _ _ _ _ HR2.out) Tryz.underlying38 rfl (by kernel_rfl)) rfl ?_
    exact ⟨⟨kp0, _, by rw [HE.out]; rfl, .inl ⟨HFe.out, rfl, rfl⟩⟩, below_setRow HB2.out (Nat.le_refl _) _⟩
end Go.Proofs.YtjbjcfnbgcloiaaGreatDoor
