/- slices.Delete of one version. -/
import Derived.Test.YtjbjcfnbgcloiaaGreatDoorMoL
import Derived.Shelf.RegionOpenPlain
import Derived.Deep.RegionLaw
import Derived.Lib.SliceRun
import Derived.Laws.IdiomCopy
namespace Go.Proofs.YtjbjcfnbgcloiaaGreatDoor
open Go.RowKit Nam YtjbjcfnbgcloiaaGreatDoorW.PrintWords

def kz : List Value := [.int .i64 0, .bool false, .int .i64 0, .int .u32 0, .slice none 0 0]
theorem zero74 (w : World) : (zeroValue 67).run Tryz.prog w = .ok (.agg #[.int .i64 0, .bool false, .int .i64 0, .int .u32 0, .slice none 0 0]) w := by kernel_rfl
theorem run_clear_kept (w : World) (ty : TypeId) (b o c : Nat) (hc : ∀ j, j < 5 → (w.cell? ⟨b, o + j, none⟩).isSome = true) (hf : ∀ j, j < 5 → w.frozen? ⟨b, o + j, none⟩ = false) :
    (Builtin.clear_ #[64] ty #[.slice (some ⟨b, o, none⟩) 1 c]).run Tryz.prog w = .ok (.tuple #[]) (w.setCells b o kz) := by
  have hst := run_storeCells_cells (P := Tryz.prog) b o kz 0 w (by simpa [kz] using hc) (by simpa [kz] using hf) (by simp [kz, Value.oneCell'])
  simp only [Nat.add_zero] at hst
  have hzc : (Builtin.zeroCells (Value.agg #[.int .i64 0, .bool false, .int .i64 0, .int .u32 0, .slice none 0 0]).cells 1).toList = kz := by kernel_rfl
  simp [Builtin.clear_, run_underlying Tryz.underlying64, zero74, hzc, hst]

set_option maxHeartbeats 2000000 in
set_option maxRecDepth 100000 in
theorem kdel_is (w : World) (base g n cap i j m : Nat) (news : List Value) (hown : w.ownsRow base 67 5 (.slice (some ⟨g, 0, none⟩) n cap) n news) (hj : j = i + 1) (hn : n = j + m) (hn2 : n ≤ 1000) (h1 : ∀ u ∈ news, u.oneCell' = true) :
    Calls Tryz.prog 61 #[.slice (some ⟨g, 0, none⟩) n cap, .int .i64 (i : Int), .int .i64 (j : Int)] w fun e w' =>
      e = .returned (.slice (some ⟨g, 0, none⟩) (i + m) cap) ∧ w'.ownsRow base 67 5 (.slice (some ⟨g, 0, none⟩) (i + m) cap) (i + m) (news.take (i * 5) ++ news.drop (j * 5)) ∧ w.grownBy w' (some g) := by
  obtain ⟨hl, hown⟩ := hown
  rcases hown with ⟨h0, _⟩ | ⟨g', cap', cur, h0, hbg, hcell, hle, hmx, hsz, htk⟩
  · cases h0
  injection h0 with e1 e2 e3
  injection e1 with e1
  injection e1 with e1 e4 e5
  subst e1
  subst e3
  clear e2 e4 e5
  obtain ⟨i0, hi, hz0, hz1, hz2⟩ := info_parts infoKp
  obtain ⟨tail, htl⟩ : ∃ tail, tail = news.drop (j * 5) := ⟨_, rfl⟩
  have hlen : tail.length = m * 5 := by rw [htl, List.length_drop, hl]; omega
  have hget : ∀ t u, tail[t]? = some u → cur[j * 5 + t]? = some u := fun t u hu => by
    rw [htl, List.getElem?_drop, ← htk, List.getElem?_take] at hu
    split at hu
    · simpa using hu
    · cases hu
  obtain ⟨W0, hW0⟩ : ∃ W0, W0 = w.drew := ⟨_, rfl⟩
  have hc0 : W0.heap[g]? = some (.cells cur 67 (0, 0)) := by rw [hW0]; exact hcell
  obtain ⟨A, hA, hsrc⟩ : ∃ A : Addr, (if cap = j then some (⟨g, 0, none⟩ : Addr) else some ⟨g, j * 5, none⟩) = some A ∧ Hid (∀ t u, tail[t]? = some u → w.drew.cell? (A.add t) = some u) := by
    by_cases h : cap = j
    · refine ⟨⟨g, 0, none⟩, by simp [h], fun t u hu => ?_⟩
      have h0 : tail.length = 0 := by rw [hlen]; omega
      rw [List.length_eq_zero_iff.1 h0] at hu
      simp at hu
    · refine ⟨⟨g, j * 5, none⟩, by simp [h], fun t u hu => ?_⟩
      rw [Addr.add_lit, ← hW0]
      exact (blk_cell hc0 _).trans (hget t u hu)
  have s1 : Hid (tail.length = m * 5) := hlen
  have s2 : Hid (∀ u ∈ tail, u.oneCell' = true) := fun u hu => h1 u (by rw [htl] at hu; exact List.mem_of_mem_drop hu)
  have s3 : Hid (∀ t, t < tail.length → (w.drew.cell? ⟨g, 0 + i * 5 + t, none⟩).isSome = true ∧ w.drew.frozen? ⟨g, 0 + i * 5 + t, none⟩ = false) := fun t ht => by
    rw [← hW0, blk_cell hc0]
    refine ⟨?_, blk_frozen hc0 _⟩
    rw [hlen] at ht
    rw [Array.getElem?_eq_getElem (by rw [hsz]; omega)]
    rfl
  obtain ⟨W1, hW1⟩ : ∃ W1, W1 = w.drew.setCells g (0 + i * 5) tail := ⟨_, rfl⟩
  obtain ⟨cur1, hc1, hs1, ht1⟩ := setCells_row tail (0 + i * 5) w.drew cur hcell (by rw [hlen, hsz]; omega)
  rw [← hW1] at hc1
  have hcl : ∀ ty, (Builtin.clear_ #[64] ty #[.slice (some ⟨g, (i + m) * 5, none⟩) (n - (i + m)) (cap - (i + m))]).run Tryz.prog W1 = .ok (.tuple #[]) (W1.setCells g ((i + m) * 5) kz) := fun ty => by
    rw [show n - (i + m) = 1 by omega]
    refine run_clear_kept W1 ty g _ _ (fun t ht => ?_) (fun t ht => blk_frozen hc1 _)
    rw [blk_cell hc1, Array.getElem?_eq_getElem (by rw [hs1, hsz]; omega)]
    rfl
  obtain ⟨cur2, hc2, hs2, ht2⟩ := setCells_row kz ((i + m) * 5) W1 cur1 hc1 (by rw [hs1, hsz]; simp [kz]; omega)
  have hW : Hid (W1 = w.drew.setCells g (0 + i * 5) tail) := hW1
  have hFin : Hid ((W1.setCells g ((i + m) * 5) kz).ownsRow base 67 5 (.slice (some ⟨g, 0, none⟩) (i + m) cap) (i + m) (news.take (i * 5) ++ news.drop (j * 5)) ∧ w.grownBy (W1.setCells g ((i + m) * 5) kz) (some g)) := by
    refine ⟨⟨?_, .inr ⟨g, cap, cur2, rfl, hbg, hc2, by omega, hmx, by rw [hs2, hs1, hsz], ?_⟩⟩, ?_⟩
    · rw [← htl, List.length_append, List.length_take, hlen, hl]; omega
    · rw [ht2, ht1, ← htl]
      have hcl : cur.toList.length = cap * 5 := by rw [Array.length_toList, hsz]
      have e1 : (cur.toList.take (0 + i * 5)).length = i * 5 := by rw [List.length_take, hcl]; omega
      have e2 : cur.toList.take (0 + i * 5) = news.take (i * 5) := by rw [← htk, List.take_take, Nat.zero_add]; congr 1; omega
      rw [List.append_assoc _ kz, List.take_append_of_le_length (by rw [List.length_take]; simp [hlen, e1]; omega), List.take_take, Nat.min_self, e2]
      rw [List.take_append_of_le_length (by rw [List.length_append, hlen, ← e2, e1]; omega), List.take_of_length_le (by rw [List.length_append, hlen, ← e2, e1]; omega)]
    · have a1 := setCells_same g tail (0 + i * 5) w.drew
      have a2 := setCells_same g kz ((i + m) * 5) W1
      rw [← hW1] at a1
      refine ⟨a2.1.trans a1.1, a2.2.1.trans a1.2.1, a2.2.2.1.trans a1.2.2.1, by rw [a2.2.2.2, a1.2.2.2]; exact Nat.le_refl _, fun k hk hne => ?_⟩
      have hne : k ≠ g := fun e => hne (by rw [e])
      rw [setCells_far _ _ k hne, hW1, setCells_far _ _ k hne]
      rfl
  have hic : i ≤ cap := by omega
  have hjc : j ≤ cap := by omega
  have hjn : j ≤ n := by omega
  have hij : i ≠ j := by omega
  have hij2 : i ≤ j := by omega
  have hr : i + m ≤ cap := by omega
  have hrn : i + m ≤ n := by omega
  have hrc : cap ≠ i + m := by omega
  have hnm : n - j = m := by omega
  have HB := Lib.hid (And.intro hi (And.intro hz1 hnm))
  clear hW1 hW0 hc0 hc1 hc2 ht1 ht2 hs1 hs2 hlen htl hget hcell hsz htk hl h1 hi hz0 hz1 hz2 hj hn hnm
  go_enter Tryz.func61, Tryz.ntmps61
  go_wp2_with fail
  go_region_law (refine step_append_room rfl (.tmp 22) (.tmp 25) 64 rfl 67 i0 5 Tryz.underlying64 HB.out.1 HB.out.2.1 g 0 i cap (by simp [Act.eval, Act.put]) A m (cap - j) tail (by simp [Act.eval, Act.put, HB.out.2.2]) s1.out hsrc.out s2.out hr s3.out ?_; rw [← hW.out])
  go_wp2
  go_ret
  exact ⟨rfl, hFin.out⟩
end Go.Proofs.YtjbjcfnbgcloiaaGreatDoor
