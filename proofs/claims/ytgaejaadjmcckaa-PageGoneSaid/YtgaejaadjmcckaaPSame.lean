/- Layer 8's small words: the same entries; is a row of entries fair. -/
import Derived.Test.YtgaejaadjmcckaaPFew
import Derived.Laws.StructEq
namespace Go.Proofs.Ytgaejaadjmcckaa
open Go.Shelf Go.RowKit Go.Lib

theorem list_inj_data {a b : ByteArray} (h : a.toList = b.toList) : a = b := by
  rw [ByteArray.toList_eq, ByteArray.toList_eq] at h
  exact ByteArray.ext (Array.toList_inj.1 h)

theorem neqE (x y : Ent) (w : World) : (binOp .neq 32 (.agg #[.string x.key, .int .i64 x.id, .bool x.mark, .int .i64 x.size, .int .u32 x.sum, .bool x.latest]) (.agg #[.string y.key, .int .i64 y.id, .bool y.mark, .int .i64 y.size, .int .u32 y.sum, .bool y.latest])).run Try.prog w = .ok (.bool (!decide (x = y))) w := by
  have u3 := Try.underlying3
  have a3 := Try.isAgg3
  have z3 := Try.sizeOf3
  have u9 := Try.underlying9
  have a9 := Try.isAgg9
  have z9 := Try.sizeOf9
  have u4 := Try.underlying4
  have a4 := Try.isAgg4
  have z4 := Try.sizeOf4
  have u32 := Try.underlying28
  have a32 := Try.isAgg28
  have z32 := Try.sizeOf28
  have a48 := Try.isAgg30
  have z48 := Try.sizeOf30
  have hS : Try.prog.underlying 32 = some (.struct (Try.prog.fieldsOf 32)) := by kernel_rfl
  have hp : Try.prog.stoodInHeld 32 = false := by kernel_rfl
  have hS2 : Try.prog.underlying 30 = some (.struct (Try.prog.fieldsOf 30)) := by kernel_rfl
  have hp2 : Try.prog.stoodInHeld 30 = false := by kernel_rfl
  have v : ∀ (W : World) (a b : Int) (m n : Bool) (c d : Int) (e f : Int), (Op.equalIn 9999 30 (.agg #[.int .i64 a, .bool m, .int .i64 c, .int .u32 e]) (.agg #[.int .i64 b, .bool n, .int .i64 d, .int .u32 f])).run Try.prog W = .ok (decide (a = b) && decide (m = n) && decide (c = d) && decide (e = f)) W := by
    intro W a b m n c d e f
    rw [show (9999 : Nat) = 9998 + 1 from rfl, run_equalIn_agg W 9998 30 _ _ hS2 hp2]
    simp only [Program.fieldsOf, Try.underlying30]
    go_simp
    by_cases h1 : a = b <;> by_cases h2 : m = n <;> by_cases h3 : c = d <;> by_cases h4 : e = f <;> simp [h1, h2, h3, h4]
  obtain ⟨k1, i1, m1, s1, x1, l1⟩ := x
  obtain ⟨k2, i2, m2, s2, x2, l2⟩ := y
  rw [run_neq_struct, show (10000 : Nat) = 9999 + 1 from rfl, run_equalIn_agg w 9999 32 _ _ hS hp]
  simp only [Program.fieldsOf, Try.underlying32]
  have hk : (k1.toList == k2.toList) = decide (k1 = k2) := by
    rw [Bool.eq_iff_iff, beq_iff_eq, decide_eq_true_eq]
    exact ⟨list_inj_data, fun h => by rw [h]⟩
  go_simp
  by_cases h1 : k1 = k2 <;> by_cases h2 : i1 = i2 <;> by_cases h3 : m1 = m2 <;> by_cases h4 : s1 = s2 <;> by_cases h5 : x1 = x2 <;> by_cases h6 : l1 = l2 <;> simp [h1, h2, h3, h4, h5, h6]

theorem entGuard : Try.prog.eqGuardType Try.prog.depth 32 = false := by kernel_rfl

theorem len_of_row {W : World} {v : Value} {l : List Ent} (h : RowE W v l) : ∃ p c, v = .slice p l.length c ∧ (0 < l.length → ∃ b o, p = some ⟨b, o, none⟩ ∧ b < W.heap.size ∧ ∀ j u, (l.flatMap encE)[j]? = some u → W.cell? ⟨b, o + j, none⟩ = some u) := by
  rcases h with ⟨rfl, rfl⟩ | ⟨b, o, cap, rfl, hb, hc⟩
  · exact ⟨none, 0, rfl, fun h => by simp at h⟩
  · exact ⟨_, cap, rfl, fun _ => ⟨b, o, rfl, hb, hc⟩⟩

set_option maxHeartbeats 2000000 in
theorem same_is (l m : List Ent) (hl : l.length ≤ 4611686018427387904) (hm : m.length ≤ 4611686018427387904) (v u : Value) (w : World) (h : RowE w v l) (h' : RowE w u m) :
    Calls Try.prog 12 #[v, u] w fun e w' => e = .returned (.bool (decide (l = m))) ∧ ∃ q, w' = w.drewN q := by
  obtain ⟨p, c, rfl, hp⟩ := len_of_row h
  obtain ⟨p', c', rfl, hp'⟩ := len_of_row h'
  clear h h'
  have HP := Lib.hid hp; clear hp
  have HP' := Lib.hid hp'; clear hp'
  by_cases hn : l.length = m.length
  · have hb : ((l.length : Int) != (m.length : Int)) = false := by rw [hn]; simp
    obtain ⟨R, hR⟩ : ∃ R, decide (l = m) = R := ⟨_, rfl⟩
    rw [hR]
    have HR0 : Hid (decide (l.drop 0 = m.drop 0) = R) := by exact hR
    clear hR
    have HN := Lib.hid hn; clear hn
    go_enter Try.func12, Try.ntmps12
    go_wp2_with fail
    go_loopw [5] (fun v wr => ∃ i q : Nat, v = .int .i64 i ∧ i ≤ l.length ∧ wr = w.drewN q ∧ Hid (decide (l.drop i = m.drop i) = R)) (fun v _ => l.length - (intOf v).toNat)
    case atStart => exact ⟨0, 0, rfl, Nat.zero_le _, rfl, HR0⟩
    case round =>
      obtain ⟨i, q, rfl, hi, rfl, HR⟩ := hrel
      by_cases hpi : i < l.length
      · have hpm : i < m.length := by rw [← HN.out]; exact hpi
        have hpz : (i : Int) < (l.length : Int) := by omega
        have hpz' : (i : Int) < (m.length : Int) := by omega
        obtain ⟨b, o, rfl, _, hc⟩ := HP.out (by omega)
        obtain ⟨b', o', rfl, _, hc'⟩ := HP'.out (by omega)
        obtain ⟨a0, a1, a2, a3, a4, a5⟩ := at_of hc i hpi
        obtain ⟨b0, b1, b2, b3, b4, b5⟩ := at_of hc' i hpm
        clear hc hc'
        have hr := HR.out
        rw [List.drop_eq_getElem_cons hpi, List.drop_eq_getElem_cons hpm] at hr
        have nq := fun W => neqE l[i] m[i] W
        obtain ⟨x, hx⟩ : ∃ x, l[i] = x := ⟨_, rfl⟩
        obtain ⟨y, hy⟩ : ∃ y, m[i] = y := ⟨_, rfl⟩
        rw [hx] at a0 a1 a2 a3 a4 a5 hr nq
        rw [hy] at b0 b1 b2 b3 b4 b5 hr nq
        clear hx hy
        have hg := entGuard
        by_cases e : x = y
        · have nq2 : ∀ W : World, (binOp .neq 32 (.agg #[.string x.key, .int .i64 x.id, .bool x.mark, .int .i64 x.size, .int .u32 x.sum, .bool x.latest]) (.agg #[.string y.key, .int .i64 y.id, .bool y.mark, .int .i64 y.size, .int .u32 y.sum, .bool y.latest])).run Try.prog W = .ok (.bool false) W := fun W => by rw [nq W, decide_eq_true e]; rfl
          have HR2 : Hid (decide (l.drop (i + 1) = m.drop (i + 1)) = R) := by
            show _ = _
            rw [e] at hr
            simpa using hr
          have HE := Lib.hid e
          clear nq hr e
          go_wp2_with fail
          go_quiet (fail)
          go_wp2
          go_roundw
          case rel => exact ⟨i + 1, q + nq, by go_num, by omega, by first | rfl | rw [World.drewN_drewN], HR2⟩
          case measure => simp [intOf]; omega
        · have nq2 : ∀ W : World, (binOp .neq 32 (.agg #[.string x.key, .int .i64 x.id, .bool x.mark, .int .i64 x.size, .int .u32 x.sum, .bool x.latest]) (.agg #[.string y.key, .int .i64 y.id, .bool y.mark, .int .i64 y.size, .int .u32 y.sum, .bool y.latest])).run Try.prog W = .ok (.bool true) W := fun W => by rw [nq W, decide_eq_false e]; rfl
          have HR2 : Hid (false = R) := by
            show _ = _
            rw [← hr]
            simp [e]
          clear nq hr e
          go_wp2_with fail
          go_quiet (fail)
          go_wp2
          go_ret
          exact ⟨congrArg (fun x => Ending.returned (Value.bool x)) HR2.out, q + nq, by first | rfl | rw [World.drewN_drewN]⟩
      · have hpz : (l.length : Int) ≤ (i : Int) := by omega
        have hr := HR.out
        rw [List.drop_eq_nil_of_le (by omega), List.drop_eq_nil_of_le (by rw [← HN.out]; omega)] at hr
        have HR2 : Hid (true = R) := by show _ = _; rw [← hr]; simp
        clear hr
        go_wp2
        go_ret
        exact ⟨congrArg (fun x => Ending.returned (Value.bool x)) HR2.out, q, rfl⟩
  · have hb : ((l.length : Int) != (m.length : Int)) = true := by simp; omega
    have hf : decide (l = m) = false := decide_eq_false (fun h => hn (by rw [h]))
    rw [hf]
    go_enter Try.func12, Try.ntmps12
    go_wp2
    go_ret
    exact ⟨rfl, 0, rfl⟩
end Go.Proofs.Ytgaejaadjmcckaa
