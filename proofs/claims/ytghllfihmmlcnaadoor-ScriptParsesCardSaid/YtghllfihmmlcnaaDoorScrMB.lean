/- Package name's paths and back, strings.IndexByte: contracts over lists of bytes (turned from the texts of layer 6). -/
import Derived.Test.YtghllfihmmlcnaaDoorRows
import Derived.Test.YtghllfihmmlcnaaDoorNum
import Derived.Test.YtghllfihmmlcnaaDoorNamP
import Derived.Test.YtghllfihmmlcnaaDoorLaysC
import Derived.WalkKit
import Derived.ProofKit
import Derived.OpenShut
import Derived.Lib.Hide
import Derived.Handy
import Derived.Lib.ConvBytes
import Derived.Deep.RegionHeld3
import Derived.Deep.RegionLaw
import Derived.Deep.AppendLies
import Derived.Shelf.Strings.Builder1
import Derived.Laws.Externs
import Derived.Test.YtghllfihmmlcnaaDoorScrMA
import Derived.Test.YtghllfihmmlcnaaDoorWWords
import Derived.Test.YtghllfihmmlcnaaDoorWMore
import Derived.Lib.OthersKept
import Derived.Lib.ItoaLen
import Derived.Deep.RegionWith
import Derived.BigGuardPart
import Derived.Outline

namespace Go.Proofs.YtghllfihmmlcnaaDoor
open Go.RowKit Nam

theorem width_pos (s : ByteArray) (pos : Nat) (h : pos < s.size) : 1 ≤ (Utf8.decode s pos).2 := by
  by_cases ha : (s[pos]'h).toNat < 128
  · rw [decode_ascii s pos h ha]
    exact Nat.le_refl _
  · exact (decode_high s pos h (by omega)).2

theorem drop_at (s : ByteArray) (k : Nat) (h : k < s.size) : s.data.toList.drop k = s[k] :: s.data.toList.drop (k + 1) := by
  rw [List.drop_eq_getElem_cons (by simpa using h)]
  rfl
theorem size_list (s : ByteArray) : s.data.toList.length = s.size := by simp

theorem index_is (s : ByteArray) (c : Int) (w : World) :
    Calls Tryd.prog 58 #[.string s, .int .u8 c] w fun e w' => e = .returned (.int .i64 (Lib.indexByte s.data.toList c.toNat.toUInt8)) ∧ w' = w :=
  Any.strings_IndexByte Tryd.laysIndexByte s c w

/-- What '[]byte(s)' leaves: a new row with the text's bytes. -/
theorem bytes_of (src dst : TypeId) (s : ByteArray) (w : World) (hs : Tryd.prog.underlying src = some .string) (hd : Tryd.prog.underlying dst = some (.slice 5)) :
    ∃ (cap : Nat) (wb : World), (convert src dst (.string s)).run Tryd.prog w = .ok (.slice (some ⟨w.heap.size, 0, none⟩) s.size cap) wb ∧ Below w.heap.size w wb ∧ wb.heap.size = w.heap.size + 1 ∧
      (∀ i, i < s.size → wb.cell? ⟨w.heap.size, i, none⟩ = some (.int .u8 (s.data.toList.getD i 0).toNat)) ∧ (∀ i, i < s.size → wb.frozen? ⟨w.heap.size, i, none⟩ = false) := by
  refine ⟨_, _, Lib.run_convert_string_bytes w src dst 5 s hs hd Tryd.underlying5, ?_, Lib.bytesWorld_size w _ s, fun i hi => Lib.bytesWorld_cell w _ s i hi, fun i hi => ?_⟩
  · exact ⟨rfl, rfl, rfl, by rw [Lib.bytesWorld_size]; omega, fun k hk => Lib.bytesWorld_at_old w _ s k hk⟩
  · have hsz : s.size ≤ (Lib.bytesCells w 5 s).size := by
      unfold Lib.bytesCells
      rw [Array.size_append, Array.size_map]
      exact Nat.le_add_right _ _
    simp [World.frozen?, Lib.bytesWorld_at_new]
    omega

theorem Tryd.info5 : (Tryd.prog.info? 5).map (fun i => (i.zero, i.size, i.bytes)) = some (some (.int .u8 0), 1, 1) := by kernel_rfl

/-- The cells of a text's bytes. -/
def cellsOf (l : List UInt8) : List Value := l.map fun c => .int .u8 c.toNat

theorem dig_at : ∀ (i : Nat) (h : i < (ByteArray.mk #[48, 49, 50, 51, 52, 53, 54, 55, 56, 57, 97, 98, 99, 100, 101, 102]).size), ((ByteArray.mk #[48, 49, 50, 51, 52, 53, 54, 55, 56, 57, 97, 98, 99, 100, 101, 102])[i]'h).toNat = (hexd i).toNat := by
  intro i h
  have h' : i < 16 := h
  match i, h' with
  | 0, _ => rfl
  | 1, _ => rfl
  | 2, _ => rfl
  | 3, _ => rfl
  | 4, _ => rfl
  | 5, _ => rfl
  | 6, _ => rfl
  | 7, _ => rfl
  | 8, _ => rfl
  | 9, _ => rfl
  | 10, _ => rfl
  | 11, _ => rfl
  | 12, _ => rfl
  | 13, _ => rfl
  | 14, _ => rfl
  | 15, _ => rfl
  | n + 16, h => omega

set_option maxHeartbeats 2000000 in
theorem path_is (s : ByteArray) (w : World) (hs : s.size ≤ 65536) : Calls Tryd.prog 50 #[.string s] w fun e w' => (∃ t : ByteArray, e = .returned (.string t) ∧ t.data.toList = pathB s.data.toList) ∧ Below w.heap.size w w' := by
  obtain ⟨i0, hi, hz0, hz1, hz2⟩ := info_parts Tryd.info5
  go_enter Tryd.func50, Tryd.ntmps50
  have hm : IntKind.i64.wrap (2 * (s.size : Int)) = 2 * (s.size : Int) := IntWalk.i64_in _ (by omega)
  have hcv : ∀ W : World, (convert 9 35 (.string s)).run Tryd.prog W = .ok (.slice (some ⟨W.heap.size, 0, none⟩) s.size (grownCap W s.size 0 5)) (Lib.bytesWorld W 5 s) := fun W => Lib.run_convert_string_bytes W _ _ 5 s Tryd.underlying9 Tryd.underlying35 Tryd.underlying5
  go_wp2_with (first
    | (at_make; refine wpList_make_own _ rfl _ _ 35 rfl w.heap.size 5 i0 (.int .u8 0) 1 Tryd.underlying35 hi hz0 hz1 .i64 .i64 _ (2 * s.size) rfl rfl (by omega) (by rw [hz2]; omega) (by unfold maxLen; omega) (Nat.le_refl _) ?_; intro w0 hown0 hgrow0))
  clear hcv
  have hb0 : Below w.heap.size w w0 := (Below.refl _ _).grown hgrow0 (Nat.le_refl _) (fun k hk => by cases hk)
  have hw0 : w.heap.size < w0.heap.size := (hown0.lt w.heap.size rfl).2
  have hcell : ∀ i, i < s.size → (Lib.bytesWorld w0 5 s).cell? ⟨w0.heap.size, i, none⟩ = some (.int .u8 (s.data.toList.getD i 0).toNat) := fun i hi => Lib.bytesWorld_cell w0 _ s i hi
  have hown1 : (Lib.bytesWorld w0 5 s).ownsRow w.heap.size 5 1 (.slice (some ⟨w.heap.size, 0, none⟩) 0 (2 * s.size)) 0 [] := by
    refine hown0.kept (row := none) ⟨rfl, rfl, rfl, by rw [Lib.bytesWorld_size]; omega, fun i hi _ => Lib.bytesWorld_at_old w0 _ s i hi⟩ (.inr (by simp [Value.ownBlock]))
  have hb1 : Below w.heap.size w (Lib.bytesWorld w0 5 s) := hb0.trans ⟨rfl, rfl, rfl, by rw [Lib.bytesWorld_size]; omega, fun k hk => Lib.bytesWorld_at_old w0 _ s k (by omega)⟩
  have hsz1 : w0.heap.size < (Lib.bytesWorld w0 5 s).heap.size := by rw [Lib.bytesWorld_size]; omega
  generalize Lib.bytesWorld w0 5 s = w1 at hcell hown1 hb1 hsz1 ⊢
  generalize w0.heap.size = N at hw0 hcell hsz1 ⊢
  generalize grownCap w0 s.size 0 5 = C
  clear hown0 hgrow0 hb0
  go_loopw [3, 13] (fun v i wr => ∃ k g cap : Nat, k ≤ s.size ∧ i = .int .i64 k ∧ v = .slice (some ⟨g, 0, none⟩) (2 * k) cap ∧ wr.ownsRow w.heap.size 5 1 (.slice (some ⟨g, 0, none⟩) (2 * k) cap) (2 * k) (cellsOf (pathB (s.data.toList.take k))) ∧
      g ≠ N ∧ Below w.heap.size w wr ∧ N < wr.heap.size ∧ Hid (∀ i, i < s.size → wr.cell? ⟨N, i, none⟩ = some (.int .u8 (s.data.toList.getD i 0).toNat)))
    (fun _ i _ => s.size - (intOf i).toNat)
  case atStart => exact ⟨0, w.heap.size, _, Nat.zero_le _, rfl, rfl, hown1, by omega, hb1, hsz1, hcell⟩
  case round =>
    clear hcell hown1 hb1 hsz1
    obtain ⟨k, g, cap0, hk, rfl, rfl, hown, hgN, hbr, hNr, HC⟩ := hrel
    have hgb := hown.lt g rfl
    by_cases hp : k < s.size
    · have hpz : (k : Int) < (s.size : Int) := by omega
      obtain ⟨x, hx, hx256⟩ : ∃ x : Nat, (s.data.toList.getD k 0).toNat = x ∧ x < 256 := ⟨_, rfl, (s.data.toList.getD k 0).toNat_lt⟩
      have hc := HC.out k hp
      rw [hx] at hc
      have HP : Hid (cellsOf (pathB (s.data.toList.take (k + 1))) = cellsOf (pathB (s.data.toList.take k)) ++ [.int .u8 (hexd (x / 16)).toNat, .int .u8 (hexd (x % 16)).toNat]) := by
        show _ = _
        have hd : s.data.toList[k]'(by rw [size_list]; exact hp) = s.data.toList.getD k 0 := by rw [List.getD_eq_getElem?_getD, List.getElem?_eq_getElem (by rw [size_list]; exact hp)]; rfl
        rw [List.take_succ_eq_append_getElem (by rw [size_list]; exact hp), pathB_append, hd, ← hx]
        unfold cellsOf pathB
        simp
      have HX := Lib.hid hx; clear hx
      have hand : bits .and .u8 (x : Int) 15 = (x : Int) % 16 := u8_and15 _ (by omega) (by omega)
      go_wp2
      have q0 : 0 ≤ (x : Int) / 16 := by omega
      have q1 : (x : Int) / 16 < 16 := by omega
      have q2 : 0 ≤ (x : Int) % 16 := by omega
      have q3 : (x : Int) % 16 < 16 := by omega
      have q4 : ((x : Int) / 16).toNat = x / 16 := by omega
      have q5 : ((x : Int) % 16).toNat = x % 16 := by omega
      have hdig := dig_at
      go_region_law ((refine step_append_lies _ (by rfl) _ _ _ (by rfl) w.heap.size 5 i0 _ 1 1 Tryd.underlying35 hi hz0 hz1 hz2 rfl (by omega) (.slice (some ⟨g, 0, none⟩) (2 * k) cap0) (2 * k) (cellsOf (pathB (s.data.toList.take k))) (by rfl) ((hown.alloc _).drew) ⟨wr.heap.size, 0, none⟩ 2 2 [.int .u8 (hexd (x / 16)).toNat, .int .u8 (hexd (x % 16)).toNat] (by rfl) (by rfl) (World.news_of_block (cs := #[.int .u8 (hexd (x / 16)).toNat, .int .u8 (hexd (x % 16)).toNat]) (t := 5) (fr := (0, 0)) (heap_alloc_new wr _)) (by simp [Value.oneCell']) (by omega) (by unfold maxLen; omega) (by omega) (by simp; omega) (wr.heap.size + 1) (by simp) ?_; intro gg cap w2 hown2 hgrow2 hat hlt))
      all_goals
        clear hdig q4 q5 hand
        have hgg : gg ≠ N := by
          rcases hat with h | h
          · simp [Value.ownBlock] at h; omega
          · omega
        have hb2 : Below w.heap.size w w2 := by
          refine ((hbr.alloc (by omega) _).drew).grown hgrow2 (by simp; omega) (fun j hj => ?_)
          simp [Value.ownBlock] at hj; omega
        have hN2 : N < w2.heap.size := Nat.lt_of_lt_of_le (by simp; omega) hgrow2.size
        have HC2 : Hid (∀ i, i < s.size → w2.cell? ⟨N, i, none⟩ = some (.int .u8 (s.data.toList.getD i 0).toNat)) := by
          intro i hi
          rw [hgrow2.cell_far _ (by simp; omega) (by simp [Value.ownBlock]; omega)]
          show (wr.alloc _).cell? _ = _
          rw [World.cell?_alloc_lt _ _ _ hNr]
          exact HC.out i hi
        have hown3 : w2.ownsRow w.heap.size 5 1 (.slice (some ⟨gg, 0, none⟩) (2 * (k + 1)) cap) (2 * (k + 1)) (cellsOf (pathB (s.data.toList.take (k + 1)))) := by
          rw [HP.out]; exact hown2
        clear hown2 hgrow2 hat hlt hown hbr hNr hc HC
        go_wp2
        go_roundw
        case rel => exact ⟨k + 1, gg, cap, by omega, by go_num, rfl, hown3, hgg, hb2, hN2, HC2⟩
        case measure => simp [intOf]; omega
    · have he : k = s.size := by omega
      subst he
      have hcv2 : (convert 35 9 (.slice (some ⟨g, 0, none⟩) (2 * s.size) cap0)).run Tryd.prog wr = .ok (.string (strOfNums ((pathB s.data.toList).map fun c => (c.toNat : Int)))) wr := by
        refine run_convert_bytes_arg _ 35 5 Tryd.underlying35 Tryd.underlying5 g 0 (2 * s.size) cap0 _ (by simp [pathB_length, size_list]) (fun i hi => ?_) _ Tryd.underlying9
        rw [Nat.zero_add, hown.cellAt i (by omega)]
        unfold cellsOf
        rw [List.take_of_length_le (by rw [size_list]; omega)]
        have hil : i < (pathB s.data.toList).length := by rw [pathB_length, size_list]; exact hi
        simp [List.getD_eq_getElem?_getD, List.getElem?_eq_getElem hil]
      clear hown HC
      go_wp2
      go_ret
      refine ⟨⟨_, rfl, ?_⟩, hbr⟩
      rw [strOfNums_data, List.map_map]
      conv => rhs; rw [← List.map_id (pathB s.data.toList)]
      apply List.map_congr_left
      intro c _
      simp

theorem idx_dig (c : UInt8) : Lib.indexByte (ByteArray.mk #[48, 49, 50, 51, 52, 53, 54, 55, 56, 57, 97, 98, 99, 100, 101, 102]).data.toList c = digI c := by
  have h : ∀ n : Fin 256, Lib.indexByte [48, 49, 50, 51, 52, 53, 54, 55, 56, 57, 97, 98, 99, 100, 101, 102] (UInt8.ofNat n.val) = digI (UInt8.ofNat n.val) := by decide +kernel
  have := h ⟨c.toNat, c.toNat_lt⟩
  simpa using this
theorem digI_range (c : UInt8) : digI c = -1 ∨ (0 ≤ digI c ∧ digI c < 16) := by
  unfold digI
  split
  · right; omega
  · split
    · right; omega
    · left; rfl
/-- The bytes that a path's first signs are of; none: one of them is none. -/
theorem unp_snoc : ∀ (l : List UInt8) (a b : UInt8), l.length % 2 = 0 → unp (l ++ [a, b]) = (unp l).bind fun m => if digI a < 0 ∨ digI b < 0 then none else some (m ++ [UInt8.ofNat (16 * (digI a).toNat + (digI b).toNat)])
  | [], a, b, _ => by
    simp only [List.nil_append, unp, Option.bind_some]
    split <;> rfl
  | [_], _, _, h => by simp at h
  | x :: y :: t, a, b, h => by
    have ih := unp_snoc t a b (by simp at h; omega)
    simp only [List.cons_append, unp, ih]
    by_cases hd : digI x < 0 ∨ digI y < 0
    · rw [if_pos hd, if_pos hd]; rfl
    · rw [if_neg hd, if_neg hd]
      cases unp t with
      | none => rfl
      | some m =>
        simp only [Option.bind_some, Option.map_some]
        split <;> rfl
theorem unp_none_more : ∀ (l m : List UInt8), l.length % 2 = 0 → unp l = none → unp (l ++ m) = none
  | [], m, _, h => by cases h
  | [_], _, h, _ => by simp at h
  | x :: y :: t, m, h, hn => by
    simp only [List.cons_append, unp] at hn ⊢
    by_cases hd : digI x < 0 ∨ digI y < 0
    · rw [if_pos hd]
    · rw [if_neg hd] at hn ⊢
      cases ht : unp t with
      | none => rw [unp_none_more t m (by simp at h; omega) ht]; rfl
      | some z => rw [ht] at hn; cases hn
theorem unp_odd : ∀ l : List UInt8, l.length % 2 = 1 → unp l = none
  | [], h => by simp at h
  | [_], _ => rfl
  | x :: y :: t, h => by
    simp only [unp]
    rw [unp_odd t (by simp at h; omega)]
    split <;> rfl


theorem indexdig_is (c : UInt8) (w : World) :
    Calls Tryd.prog 58 #[.string ⟨#[48, 49, 50, 51, 52, 53, 54, 55, 56, 57, 97, 98, 99, 100, 101, 102]⟩, .int .u8 (c.toNat : Int)] w fun e w' => e = .returned (.int .i64 (digI c)) ∧ w' = w := by
  have h := index_is ⟨#[48, 49, 50, 51, 52, 53, 54, 55, 56, 57, 97, 98, 99, 100, 101, 102]⟩ (c.toNat : Int) w
  have e : (c.toNat : Int).toNat.toUInt8 = c := by simp
  rw [e, idx_dig] at h
  exact h

theorem i64_or4 (x y : Int) (h0 : 0 ≤ x) (h1 : x < 16) (h2 : 0 ≤ y) (h3 : y < 16) : bits .or .i64 (x * 16) y = x * 16 + y :=
  bits_join .i64 60 (by decide) wraps_i64 4 (x * 16) y (by omega) (by omega) (by omega) h2 (by omega) (by omega)

/-- What Unpath answers. -/
def unText (l : List UInt8) : List UInt8 := (unp l).getD []

set_option maxRecDepth 100000 in
set_option maxHeartbeats 2000000 in
theorem unpath_is (s : ByteArray) (w : World) (hs : s.size ≤ 65536) : Calls Tryd.prog 52 #[.string s] w fun e w' =>
    (∃ t : ByteArray, e = .returned (.tuple #[.string t, .bool (unp s.data.toList).isSome]) ∧ t.data.toList = unText s.data.toList) ∧ Below w.heap.size w w' := by
  obtain ⟨i0, hi, hz0, hz1, hz2⟩ := info_parts Tryd.info5
  by_cases hodd : s.size % 2 = 1
  · have hz : (s.size : Int) % 2 = 1 := by omega
    have hun : unp s.data.toList = none := unp_odd _ (by rw [size_list]; exact hodd)
    unfold unText
    rw [hun]; clear hun
    go_enter Tryd.func52, Tryd.ntmps52
    go_wp2
    go_ret2
    exact ⟨⟨_, rfl, rfl⟩, Below.refl _ _⟩
  · have hz : (s.size : Int) % 2 = 0 := by omega
    have hq : ((s.size / 2 : Nat) : Int) = (s.size : Int) / 2 := by omega
    have HQ := Lib.hid hq; clear hq
    go_enter Tryd.func52, Tryd.ntmps52
    go_wp2_with (first
      | (at_make; refine wpList_make_own _ rfl _ _ 35 rfl w.heap.size 5 i0 (.int .u8 0) 1 Tryd.underlying35 hi hz0 hz1 .i64 .i64 _ (s.size / 2) rfl rfl (by rw [HQ.out]) (by rw [hz2]; omega) (by unfold maxLen; omega) (Nat.le_refl _) ?_; intro w0 hown0 hgrow0))
    have hb0 : Below w.heap.size w w0 := (Below.refl _ _).grown hgrow0 (Nat.le_refl _) (fun k hk => by cases hk)
    clear hgrow0
    go_loopw [4, 5] (fun v i wr => ∃ (j g cap : Nat) (m : List UInt8), j ≤ s.size ∧ j % 2 = 0 ∧ i = .int .i64 j ∧ v = .slice (some ⟨g, 0, none⟩) (j / 2) cap ∧ wr.ownsRow w.heap.size 5 1 (.slice (some ⟨g, 0, none⟩) (j / 2) cap) (j / 2) (cellsOf m) ∧
        Hid (unp (s.data.toList.take j) = some m) ∧ Below w.heap.size w wr)
      (fun _ i _ => s.size - (intOf i).toNat)
    case atStart => exact ⟨0, w.heap.size, _, [], Nat.zero_le _, rfl, rfl, rfl, hown0, rfl, hb0⟩
    case round =>
      clear hown0 hb0
      obtain ⟨j, g, cap0, m, hj, hj2, rfl, rfl, hown, HM, hbr⟩ := hrel
      have hgb := hown.lt g rfl
      by_cases hp : j < s.size
      · have hj1 : j + 1 < s.size := by omega
        have hpz : (j : Int) < (s.size : Int) := by omega
        have hpz1 : (j : Int) + 1 < (s.size : Int) := by omega
        obtain ⟨a, ha⟩ : ∃ a, s[j] = a := ⟨_, rfl⟩
        obtain ⟨b, hb⟩ : ∃ b, s[j + 1] = b := ⟨_, rfl⟩
        have htk : s.data.toList.take (j + 2) = s.data.toList.take j ++ [a, b] := by
          have e1 : s.data.toList[j]'(by rw [size_list]; exact hp) = a := ha
          have e2 : s.data.toList[j + 1]'(by rw [size_list]; exact hj1) = b := hb
          rw [List.take_succ_eq_append_getElem (by rw [size_list]; exact hj1), List.take_succ_eq_append_getElem (by rw [size_list]; exact hp), e1, e2]
          simp
        have hun : unp (s.data.toList.take (j + 2)) = if digI a < 0 ∨ digI b < 0 then none else some (m ++ [UInt8.ofNat (16 * (digI a).toNat + (digI b).toNat)]) := by
          rw [htk, unp_snoc _ _ _ (by rw [List.length_take, size_list]; omega), HM.out]
          rfl
        have hbad : (digI a < 0 ∨ digI b < 0) → unp s.data.toList = none := by
          intro h
          rw [if_pos h] at hun
          have := unp_none_more (s.data.toList.take (j + 2)) (s.data.toList.drop (j + 2)) (by rw [List.length_take, size_list]; omega) hun
          rwa [List.take_append_drop] at this
        have HUN := Lib.hid hun; clear hun
        have HBAD := Lib.hid hbad; clear hbad
        clear htk
        have hra := digI_range a
        have hrb := digI_range b
        obtain ⟨x, hx⟩ : ∃ x, digI a = x := ⟨_, rfl⟩
        obtain ⟨y, hy⟩ : ∃ y, digI b = y := ⟨_, rfl⟩
        have ca : ∀ W : World, Calls Tryd.prog 58 #[.string ⟨#[48, 49, 50, 51, 52, 53, 54, 55, 56, 57, 97, 98, 99, 100, 101, 102]⟩, .int .u8 (s[j].toNat : Int)] W fun e w' => e = .returned (.int .i64 x) ∧ w' = W := by
          intro W; rw [ha, ← hx]; exact indexdig_is a W
        have cb : ∀ W : World, Calls Tryd.prog 58 #[.string ⟨#[48, 49, 50, 51, 52, 53, 54, 55, 56, 57, 97, 98, 99, 100, 101, 102]⟩, .int .u8 (s[j + 1].toNat : Int)] W fun e w' => e = .returned (.int .i64 y) ∧ w' = W := by
          intro W; rw [hb, ← hy]; exact indexdig_is b W
        rw [hx] at hra HUN HBAD
        rw [hy] at hrb HUN HBAD
        clear hx hy
        have CA := Lib.hid ca; clear ca
        have CB := Lib.hid cb; clear cb
        have ha' := Lib.hid ha; clear ha
        have hb' := Lib.hid hb; clear hb
        have e1 : IntKind.i64.wrap ((j : Int) + 1) = (j : Int) + 1 := IntWalk.i64_in _ (by omega)
        have e2 : IntKind.i64.wrap ((j : Int) + 2) = (j : Int) + 2 := IntWalk.i64_in _ (by omega)
        have p0 : (0 : Int) ≤ (j : Int) + 1 := by omega
        have p1 : ((j : Int) + 1).toNat = j + 1 := by omega
        by_cases hxn : x < 0
        · have hn := HBAD.out (.inl hxn)
          have HN := Lib.hid hn; clear hn
          go_wp2_with fail
          go_quiet ((first | (go_at_call 58; exact Calls.quiet_of_same (CA.out _)) | (go_at_call 58; exact Calls.quiet_of_same (CB.out _))))
          go_wp2
          go_ret2
          exact ⟨⟨_, by rw [HN.out]; rfl, by unfold unText; rw [HN.out]; rfl⟩, hbr.drewN nq⟩
        · have hx0 : 0 ≤ x := by omega
          have hx1 : x < 16 := by omega
          by_cases hyn : y < 0
          · have hn := HBAD.out (.inr hyn)
            have HN := Lib.hid hn; clear hn
            go_wp2_with fail
            go_quiet ((first | (go_at_call 58; exact Calls.quiet_of_same (CA.out _)) | (go_at_call 58; exact Calls.quiet_of_same (CB.out _))))
            go_wp2
            go_ret2
            exact ⟨⟨_, by rw [HN.out]; rfl, by unfold unText; rw [HN.out]; rfl⟩, hbr.drewN nq⟩
          · have hy0 : 0 ≤ y := by omega
            have hy1 : y < 16 := by omega
            have ho := i64_or4 x y hx0 hx1 hy0 hy1
            have h8 : IntKind.u8.wrap (x * 16 + y) = x * 16 + y := IntWalk.u8_in _ ⟨by omega, by omega⟩
            go_wp2_with fail
            go_quiet ((first | (go_at_call 58; exact Calls.quiet_of_same (CA.out _)) | (go_at_call 58; exact Calls.quiet_of_same (CB.out _))))
            go_wp2_with (first
              | (at_builtin; refine wpList_append_lies _ rfl _ _ 35 rfl w.heap.size 5 i0 (.int .u8 0) 1 1 Tryd.underlying35 hi hz0 hz1 hz2 rfl (by omega) (.slice (some ⟨g, 0, none⟩) (j / 2) cap0) (j / 2) (cellsOf m) rfl (World.ownsRow.alloc (w := wr.drewN nq) hown _) ⟨wr.heap.size, 0, none⟩ 1 1 [.int .u8 (x * 16 + y)] rfl rfl (World.news_of_block (cs := #[.int .u8 (x * 16 + y)]) (t := 5) (fr := (0, 0)) (heap_alloc_new (wr.drewN nq) _)) (by simp [Value.oneCell']) (by omega) (by unfold maxLen; omega) (by omega) (by simp; omega) (wr.heap.size + 1) (by simp) ?_; intro gg cap w2 hown2 hgrow2 hat hlt))
            have hb2 : Below w.heap.size w w2 := by
              refine ((hbr.drewN nq).alloc (by simp; omega) _).grown hgrow2 (by simp; omega) (fun j hj => ?_)
              simp [Value.ownBlock] at hj; omega
            have hcl : (UInt8.ofNat (16 * x.toNat + y.toNat)).toNat = 16 * x.toNat + y.toNat := by simp; omega
            have hown3 : w2.ownsRow w.heap.size 5 1 (.slice (some ⟨gg, 0, none⟩) ((j + 2) / 2) cap) ((j + 2) / 2) (cellsOf (m ++ [UInt8.ofNat (16 * x.toNat + y.toNat)])) := by
              have e3 : (j + 2) / 2 = j / 2 + 1 := by omega
              have e4 : cellsOf (m ++ [UInt8.ofNat (16 * x.toNat + y.toNat)]) = cellsOf m ++ [.int .u8 (x * 16 + y)] := by
                unfold cellsOf
                rw [List.map_append, List.map_cons, List.map_nil, hcl]
                congr 3
                omega
              rw [e3, e4]; exact hown2
            have hm2 : Hid (unp (s.data.toList.take (j + 2)) = some (m ++ [UInt8.ofNat (16 * x.toNat + y.toNat)])) := by
              show _ = _
              rw [HUN.out, if_neg (by omega)]
            have e9 : (j + 2) / 2 = j / 2 + 1 := by omega
            have E9 := Lib.hid e9; clear e9
            clear hown2 hgrow2 hat hlt hown hbr hcl
            go_roundw
            case rel => exact ⟨j + 2, gg, cap, _, by omega, by omega, by go_num, by rw [E9.out], hown3, hm2, hb2⟩
            case measure => simp [intOf]; omega
      · have he : j = s.size := by omega
        subst he
        have hun : unp s.data.toList = some m := by
          have := HM.out
          rwa [List.take_of_length_le (by rw [size_list]; omega)] at this
        have hml : m.length = s.size / 2 := by
          have := hown.1
          unfold cellsOf at this
          simpa using this
        have hcv2 : (convert 35 9 (.slice (some ⟨g, 0, none⟩) (s.size / 2) cap0)).run Tryd.prog wr = .ok (.string (strOfNums (m.map fun c => (c.toNat : Int)))) wr := by
          refine run_convert_bytes_arg _ 35 5 Tryd.underlying35 Tryd.underlying5 g 0 (s.size / 2) cap0 _ (by simpa using hml) (fun i hi => ?_) _ Tryd.underlying9
          rw [Nat.zero_add, hown.cellAt i (by omega)]
          unfold cellsOf
          have hil : i < m.length := by omega
          simp [List.getD_eq_getElem?_getD, List.getElem?_eq_getElem hil]
        have HUN := Lib.hid hun; clear hun
        have HML := Lib.hid hml; clear hml
        clear hown HM
        go_wp2
        go_ret2
        refine ⟨⟨_, by rw [HUN.out]; rfl, ?_⟩, hbr⟩
        unfold unText
        rw [HUN.out, strOfNums_data, List.map_map]
        show _ = m
        conv => rhs; rw [← List.map_id m]
        apply List.map_congr_left
        intro c _
        simp
end Go.Proofs.YtghllfihmmlcnaaDoor

/- strings.Builder in this program (abi.NoEscape is the model's own entry here: the shelf's walks of copyCheck and WriteString, turned to it); Len and String by the shelf. -/
namespace Go.Proofs.YtghllfihmmlcnaaDoor
open Go.RowKit Go.Shelf

abbrev TBu : TypeId := 77
theorem builder_size : (Tryd.prog.info? 77).map (·.size) = some 2 := by kernel_rfl
theorem builder_lies : liesAt Tryd.prog Tryd.prog.depth 77 (2 / Tryd.prog.cellsOf 77) 0 77 1 = true := by kernel_rfl
theorem builder_extra : Builder.Extra Tryd.prog Tryd.laysBString_ren where
  sizeBuilder := by kernel_rfl
  liesBuilder := by kernel_rfl
  t5 := Tryd.underlying5
  a5 := Tryd.isAgg5
  z5 := Tryd.sizeOf5
  v5 := Tryd.zeroValue5
  infoByte := by kernel_rfl
  cellsByte := by kernel_rfl
  sizeByte := by kernel_rfl
  neB5 := by decide

set_option maxHeartbeats 1000000 in
set_option maxRecDepth 100000 in
theorem copycheck_used (b : Nat) (w : World) (h0 : w.cell? ⟨b, 0, none⟩ = some (.pointer (some ⟨b, 0, none⟩))) :
    Calls Tryd.prog 45 #[.pointer (some ⟨b, 0, none⟩)] w fun e w' => e = .returned (.tuple #[]) ∧ w' = w := by
  obtain ⟨j, hj, _⟩ := Option.map_eq_some_iff.1 builder_size
  go_enter Tryd.func45, Tryd.ntmps45
  go_wp2
  rw [Lib.run_neq_ptr_same w _ Tryd.underlying75 hj]
  go_wp2
  go_end0
  exact ⟨rfl, rfl⟩

set_option maxHeartbeats 1000000 in
set_option maxRecDepth 100000 in
theorem copycheck_fresh (b : Nat) (w : World) (h0 : w.cell? ⟨b, 0, none⟩ = some (.pointer none)) (hsh : w.shape? b = some (77, 2)) (hfz : w.frozen? ⟨b, 0, none⟩ = false) :
    Calls Tryd.prog 45 #[.pointer (some ⟨b, 0, none⟩)] w fun e w' => e = .returned (.tuple #[]) ∧ w' = w.setCell ⟨b, 0, none⟩ (.pointer (some ⟨b, 0, none⟩)) := by
  obtain ⟨j, hj, hjs⟩ := Option.map_eq_some_iff.1 builder_size
  go_enter Tryd.func45, Tryd.ntmps45
  go_wp2
  rw [Lib.run_to_unsafe w ⟨b, 0, none⟩ Tryd.underlying75 Tryd.underlying96 hj (by rw [hjs]; decide) hsh (Nat.zero_lt_succ 1)]
  simp only [Result.andThen]
  rw [Oper.upon_value]
  go_wp2
  rw [run_callFunc_extern Tryd.func53 (by kernel_rfl) (by kernel_rfl) (by kernel_rfl) (e := Extern.AbiNoEscape.same) (by kernel_rfl)]
  rw [Lib.run_noEscape]
  simp only [Result.andThen]
  rw [Oper.upon_value]
  go_wp2
  rw [Lib.run_from_unsafe w ⟨b, 0, none⟩ Tryd.underlying96 Tryd.underlying75 hj hsh builder_lies]
  simp only [Result.andThen]
  rw [Oper.upon_value]
  go_wp2
  go_end0
  exact ⟨rfl, rfl⟩

theorem copycheck_is (B b : Nat) (bs : List Value) (w : World) (h : Lib.IsBuilder 77 5 B b bs w) :
    Calls Tryd.prog 45 #[.pointer (some ⟨b, 0, none⟩)] w fun e w' => e = .returned (.tuple #[]) ∧ (Lib.BuilderAt 77 5 B b (.pointer (some ⟨b, 0, none⟩)) bs w' ∧ Below B w w') := by
  rcases h with h | h
  · refine (copycheck_fresh b w h.cell0 h.shape h.frozen0).mono ?_
    rintro e w' ⟨rfl, rfl⟩
    exact ⟨rfl, h.used _, (Below.refl B w).setCell (p := ⟨b, 0, none⟩) h.1 _⟩
  · refine (copycheck_used b w h.cell0).mono ?_
    rintro e w' ⟨rfl, rfl⟩
    exact ⟨rfl, h, Below.refl B _⟩

set_option maxHeartbeats 2000000 in
set_option maxRecDepth 100000 in
theorem write_is (B b : Nat) (bs : List Value) (s : ByteArray) (w : World) (h : Lib.IsBuilder 77 5 B b bs w) (hlen : bs.length + s.size ≤ 140737488355328) (hBw : B ≤ w.heap.size) :
    Calls Tryd.prog 32 #[.pointer (some ⟨b, 0, none⟩), .string s] w fun e w' => e = .returned (.tuple #[.int .i64 s.size, .nilIface]) ∧ (Lib.IsBuilder 77 5 B b (bs ++ Lib.strCells s) w' ∧ Below B w w') := by
  obtain ⟨i0, hi, hz0, hz1, hz2⟩ := info_parts Tryd.info5
  go_enter Tryd.func32, Tryd.ntmps32
  go_wp2_with (go_at_call 45; refine (copycheck_is B b bs _ h).mono ?_)
  rintro e w1 ⟨rfl, h1, hb1⟩
  obtain ⟨hB, v, hbk, hown, hne⟩ := h1
  have c0 : w1.cell? ⟨b, 0, none⟩ = some (.pointer (some ⟨b, 0, none⟩)) := by rw [Lib.cell_of_heap hbk]; rfl
  have c1 : w1.cell? ⟨b, 1, none⟩ = some v := by rw [Lib.cell_of_heap hbk]; rfl
  go_wp2_with (at_builtin; refine Lib.wpList_append_own_string _ rfl _ _ 35 9 rfl B 5 i0 Tryd.underlying35 Tryd.underlying9 hi hz0 hz1 hz2 _ _ _ rfl hown s rfl ?c3 ?c4 ?c5 ?_)
  case c3 => unfold maxLen; omega
  case c4 => omega
  case c5 => have := hb1.size; omega
  intro v' w2 hown' hgrow _
  have hlt : b < w1.heap.size := by
    rcases Nat.lt_or_ge b w1.heap.size with h' | h'
    · exact h'
    · simp [Array.getElem?_eq_none h'] at hbk
  have hb2 : w2.heap[b]? = some (.cells #[.pointer (some ⟨b, 0, none⟩), v] 77 (0, 0)) := by
    rw [hgrow.block b hlt (fun e => hne e.symm)]
    exact hbk
  have d0 : w2.cell? ⟨b, 0, none⟩ = some (.pointer (some ⟨b, 0, none⟩)) := by rw [Lib.cell_of_heap hb2]; rfl
  have d1 : w2.cell? ⟨b, 1, none⟩ = some v := by rw [Lib.cell_of_heap hb2]; rfl
  have f1 : w2.frozen? ⟨b, 1, none⟩ = false := Lib.frozen_of_heap hb2 1
  obtain ⟨ao, n', cap, rfl⟩ : ∃ ao n' cap, v' = .slice ao n' cap := by
    rcases hown'.2 with ⟨hv, _⟩ | ⟨g, cap, cur, hv, _⟩
    · exact ⟨_, _, _, hv⟩
    · exact ⟨_, _, _, hv⟩
  go_wp2
  go_ret2
  refine ⟨rfl, .inr ?_, ?_⟩
  · exact Lib.BuilderAt.put (T := 77) (e := 5) hB hb2 (bs' := bs ++ Lib.strCells s) (by simpa [Lib.strCells_length] using hown') (by decide)
  · exact (hb1.grown hgrow (by have := hb1.size; omega) (fun k hk => (hown.lt k hk).1)).setCell (p := ⟨b, 1, none⟩) hB _

theorem blen_is (B b : Nat) (bs : List Value) (w : World) (h : Lib.IsBuilder 77 5 B b bs w) :
    Calls Tryd.prog 34 #[.pointer (some ⟨b, 0, none⟩)] w fun e w' => e = .returned (.int .i64 bs.length) ∧ w = w' :=
  (Any.Builder_Len Tryd.laysBLen B b bs w h).mono fun _ _ h => ⟨h.1, h.2.symm⟩
theorem bstring_is (B b : Nat) (l : List UInt8) (w : World) (h : Lib.IsBuilder 77 5 B b (Lib.byteCells l) w) (hBw : B ≤ w.heap.size) :
    Calls Tryd.prog 35 #[.pointer (some ⟨b, 0, none⟩)] w fun e w' => e = .returned (.string ⟨l.toArray⟩) ∧ Below B w w' :=
  Any.Builder_String_any Tryd.laysBString builder_extra B b l w h hBw
end Go.Proofs.YtghllfihmmlcnaaDoor

/- The small parts of package script: text, readText, readNumber, cut; what of the library's variables they read. -/
namespace Go.Proofs.YtghllfihmmlcnaaDoor
open Go.RowKit Nam YtghllfihmmlcnaaDoorW.PrintWords

/-- What of the library's variables is read: the table of powers, two errors. -/
structure Env (w : World) : Prop where
  tab : Lib.TabIs Tryd.prog w "internal/strconv.uint64pow10" .u64 Lib.pow10Tab
  syn : ∃ tp p, w.var? Tryd.prog "strconv.ErrSyntax" = some #[.iface tp p]
  rng : ∃ tp p, w.var? Tryd.prog "strconv.ErrRange" = some #[.iface tp p]
theorem var_later {w w' : World} {n : String} {cs : Array Value} (hb : Below w.heap.size w w') (h : w.var? Tryd.prog n = some cs) : w'.var? Tryd.prog n = some cs := by
  unfold World.var? at h ⊢
  cases hg : Tryd.prog.globalNamed n with
  | none => rw [hg] at h; cases h
  | some g =>
    rw [hg] at h
    simp only [Option.bind_some] at h ⊢
    have hlt : g < w.heap.size := by
      rcases Nat.lt_or_ge g w.heap.size with h' | h'
      · exact h'
      · rw [Array.getElem?_eq_none h'] at h; cases h
    rw [hb.block g hlt]
    exact h
theorem Env.below {w w' : World} (h : Env w) (hb : Below w.heap.size w w') : Env w' :=
  ⟨var_later hb h.tab, let ⟨a, b, e⟩ := h.syn; ⟨a, b, var_later hb e⟩, let ⟨a, b, e⟩ := h.rng; ⟨a, b, var_later hb e⟩⟩

theorem below_grow {B : Nat} {a w : World} (h : Below B a w) (hB : B ≤ w.heap.size) (os : Array Obj) : Below B a (Go.Sort.grow w os) :=
  h.trans ⟨rfl, rfl, rfl, by simp [Go.Sort.grow], fun k hk => by simp [Go.Sort.grow, Array.getElem?_append, show k < w.heap.size by omega]⟩

theorem itoa_is (n : Int) (w : World) (h0 : -9223372036854775808 ≤ n) (h1 : n ≤ 9223372036854775807) (hE : Env w) :
    Calls Tryd.prog 41 #[.int .i64 n] w fun e w' => e = .returned (.string (mkS (Lib.itoa n))) ∧ Below w.heap.size w w' :=
  (Any.strconv_Itoa Tryd.laysItoa n h0 h1 w hE.tab).mono fun e w' h => ⟨h.1, by
    obtain ⟨_, k, os, rfl⟩ := h
    exact below_grow ((Below.refl _ _).drewN k) (Nat.le_refl _) os⟩
theorem atoi_ok (s : ByteArray) (w : World) (hs : s.size ≤ 100000) (v : Int) (h : Lib.atoiAll s.data.toList = .ok v) :
    Calls Tryd.prog 49 #[.string s] w fun e w' => e = .returned (.tuple #[.int .i64 v, .nilIface]) ∧ Below w.heap.size w w' :=
  (Any.strconv_Atoi_ok Tryd.laysAtoi s (by omega) v h w).mono fun e w' h => ⟨h.1, by
    rcases h.2 with rfl | ⟨t, rfl⟩
    · exact Below.refl _ _
    · exact ⟨rfl, rfl, rfl, by rw [Lib.bytesWorld_size]; omega, fun k hk => Lib.bytesWorld_at_old w _ t k hk⟩⟩
theorem atoi_no (s : ByteArray) (w : World) (hs : s.size ≤ 100000) (h : ∀ v, Lib.atoiAll s.data.toList ≠ .ok v) (hE : Env w) :
    Calls Tryd.prog 49 #[.string s] w fun e w' => (∃ (n : Int) (a : Addr), e = .returned (.tuple #[.int .i64 n, .iface 105 (.pointer (some a))]) ∧ -9223372036854775808 ≤ n ∧ n ≤ 9223372036854775807) ∧ Below w.heap.size w w' := by
  rcases hh : Lib.atoiAll s.data.toList with v | _ | _
  · exact absurd hh (h v)
  · obtain ⟨tp, p, hv⟩ := hE.syn
    refine (Any.strconv_Atoi_syntax_var Tryd.laysAtoi s (by omega) hh tp p w hv).mono ?_
    rintro e w' ⟨N, he, _, _, hb⟩
    exact ⟨⟨0, _, he, by omega, by omega⟩, hb⟩
  · obtain ⟨tp, p, hv⟩ := hE.rng
    refine (Any.strconv_Atoi_range_var Tryd.laysAtoi s (by omega) hh tp p w hv).mono ?_
    rintro e w' ⟨N, he, _, _, hb⟩
    exact ⟨⟨_, _, he, by unfold Lib.atoiSat; split <;> omega, by unfold Lib.atoiSat; split <;> omega⟩, hb⟩

theorem beq_mkS (a b : List UInt8) : ((mkS a).toList == (mkS b).toList) = decide (a = b) := by
  rw [ByteArray.toList_eq, ByteArray.toList_eq, mkS_list, mkS_list, Bool.eq_iff_iff]
  simp
theorem isEmpty_mkS (a : List UInt8) : (mkS a).toList.isEmpty = decide (a = []) := by
  rw [ByteArray.toList_eq, mkS_list, Bool.eq_iff_iff]; simp

set_option maxHeartbeats 1000000 in
theorem ptext_is (l : List UInt8) (w : World) (hs : l.length ≤ 65536) : Calls Tryd.prog 40 #[.string (mkS l)] w fun e w' => e = .returned (.string (mkS (textB l))) ∧ Below w.heap.size w w' := by
  have hz : (mkS l).size ≤ 65536 := by rw [mkS_size]; exact hs
  by_cases h : l = []
  · subst h
    have h0 : (mkS []).toList.isEmpty = true := by rw [isEmpty_mkS]; rfl
    go_enter Tryd.func40, Tryd.ntmps40
    go_wp2
    go_ret
    exact ⟨rfl, Below.refl _ _⟩
  · have h0 : (mkS l).toList.isEmpty = false := by rw [isEmpty_mkS]; exact decide_eq_false h
    have hx : textB l = pathB l := by unfold textB; rw [if_neg h]
    have HX := Lib.hid hx; clear hx
    have HL := Lib.hid h; clear h
    have h00 : (mkS l).toList ≠ [] := by simpa using h0
    go_enter Tryd.func40, Tryd.ntmps40
    go_wp2_with fail
    refine (path_is _ _ hz).mono ?_
    rintro e w1 ⟨⟨t, rfl, ht⟩, hb⟩
    rw [mkS_list] at ht
    obtain rfl := eq_mkS ht
    go_wp2
    go_ret
    exact ⟨by rw [HX.out]; rfl, hb⟩
end Go.Proofs.YtghllfihmmlcnaaDoor

/- The small parts of package script: readText, readNumber. -/
namespace Go.Proofs.YtghllfihmmlcnaaDoor
open Go.RowKit Nam YtghllfihmmlcnaaDoorW.PrintWords

set_option maxHeartbeats 1000000 in
theorem preadtext_is (l : List UInt8) (w : World) (hs : l.length ≤ 65536) : Calls Tryd.prog 42 #[.string (mkS l)] w fun e w' => e = .returned (.tuple #[.string (mkS (readB l).1), .bool (readB l).2]) ∧ Below w.heap.size w w' := by
  have hz : (mkS l).size ≤ 65536 := by rw [mkS_size]; exact hs
  have hdl : (mkS l).toList = l := by rw [ByteArray.toList_eq, mkS_list]
  by_cases h : l = [46]
  · subst h
    have h0 : (mkS [46]).toList = [46] := hdl
    clear hdl
    go_enter Tryd.func42, Tryd.ntmps42
    go_wp2
    go_ret2
    exact ⟨rfl, Below.refl _ _⟩
  · have h0 : (mkS l).toList ≠ [46] := by rw [hdl]; exact h
    have h1 : ((mkS l).toList == [46]) = false := by simpa using h0
    obtain ⟨t, b, hr, ht⟩ : ∃ t b, readB l = (t, b) ∧ unText l = t ∧ (unp l).isSome = (unp l).isSome ∧ b = ((unp l).isSome && decide (t ≠ [])) := by
      unfold readB unText
      rw [if_neg h]
      cases unp l with
      | none => exact ⟨_, _, rfl, rfl, rfl, rfl⟩
      | some x => refine ⟨_, _, rfl, rfl, rfl, ?_⟩; simp; cases x <;> rfl
    rw [hr]
    obtain ⟨ht1, _, hb⟩ := ht
    clear hr hdl
    have HN := Lib.hid h; clear h
    have HB := Lib.hid hb; clear hb
    have HT := Lib.hid ht1; clear ht1
    cases hu : (unp l).isSome
    · have HU := Lib.hid hu; clear hu
      go_enter Tryd.func42, Tryd.ntmps42
      go_wp2_with fail
      refine (unpath_is _ _ hz).mono ?_
      rintro e w1 ⟨⟨x, rfl, hx⟩, hbl⟩
      rw [mkS_list, HT.out] at hx
      obtain rfl := eq_mkS hx
      rw [mkS_list, HU.out]
      go_wp2
      go_ret2
      exact ⟨by rw [HB.out, HU.out]; rfl, hbl⟩
    · have HU := Lib.hid hu; clear hu
      by_cases ht : t = []
      · subst ht
        have he : (mkS []).toList.isEmpty = true := by rw [isEmpty_mkS]; rfl
        go_enter Tryd.func42, Tryd.ntmps42
        go_wp2_with fail
        refine (unpath_is _ _ hz).mono ?_
        rintro e w1 ⟨⟨x, rfl, hx⟩, hbl⟩
        rw [mkS_list, HT.out] at hx
        obtain rfl := eq_mkS hx
        rw [mkS_list, HU.out]
        go_wp2
        go_ret2
        exact ⟨by rw [HB.out, HU.out]; rfl, hbl⟩
      · have he : (mkS t).toList.isEmpty = false := by rw [isEmpty_mkS]; exact decide_eq_false ht
        have HT2 := Lib.hid ht; clear ht
        go_enter Tryd.func42, Tryd.ntmps42
        go_wp2_with fail
        refine (unpath_is _ _ hz).mono ?_
        rintro e w1 ⟨⟨x, rfl, hx⟩, hbl⟩
        rw [mkS_list, HT.out] at hx
        obtain rfl := eq_mkS hx
        rw [mkS_list, HU.out]
        go_wp2
        go_ret2
        exact ⟨by rw [HB.out, HU.out, decide_eq_true HT2.out]; rfl, hbl⟩

/-- What readNumber's first answer is where there is none. -/
def NumIs (l : List UInt8) (w : World) (e : Ending) (w' : World) : Prop :=
  (∃ n : Int, e = .returned (.tuple #[.int .i64 n, .bool (numOf l).isSome]) ∧ (∀ v, numOf l = some v → n = v) ∧ -9223372036854775808 ≤ n ∧ n ≤ 9223372036854775807) ∧ Below w.heap.size w w'

theorem numIs_some {l : List UInt8} {w w' : World} {v : Int} (h : numOf l = some v) (hv0 : -9223372036854775808 ≤ v) (hv1 : v ≤ 9223372036854775807) (hb : Below w.heap.size w w') : NumIs l w (.returned (.tuple #[.int .i64 v, .bool true])) w' :=
  ⟨⟨v, by rw [h]; rfl, fun x hx => by rw [h] at hx; injection hx, hv0, hv1⟩, hb⟩
theorem numIs_none {l : List UInt8} {w w' : World} {v : Int} (h : numOf l = none) (hv0 : -9223372036854775808 ≤ v) (hv1 : v ≤ 9223372036854775807) (hb : Below w.heap.size w w') : NumIs l w (.returned (.tuple #[.int .i64 v, .bool false])) w' :=
  ⟨⟨v, by rw [h]; rfl, (fun x hx => by rw [h] at hx; cases hx), hv0, hv1⟩, hb⟩

set_option maxHeartbeats 1000000 in
theorem preadnumber_is (l : List UInt8) (w : World) (hs : l.length ≤ 65536) (hE : Env w) : Calls Tryd.prog 39 #[.string (mkS l)] w (NumIs l w) := by
  have hz : (mkS l).size ≤ 100000 := by rw [mkS_size]; omega
  have HE := Lib.hid hE; clear hE
  by_cases h : ∃ v, Lib.atoiAll l = .ok v
  · obtain ⟨v, hv⟩ := h
    have hbd := Lib.atoiAll_bounds hv
    obtain ⟨hv0, hv1⟩ := hbd
    by_cases hi : Lib.itoa v = l
    · have hn : numOf l = some v := by
        rw [← hi]; exact numOf_itoa v hv0 hv1
      have HV := Lib.hid hv; clear hv
      have HN := Lib.hid hn; clear hn
      have hq : ((mkS (Lib.itoa v)).toList == (mkS l).toList) = true := by rw [beq_mkS]; exact decide_eq_true hi
      have hq2 : (mkS (Lib.itoa v)).toList = (mkS l).toList := by simpa using hq
      have HI := Lib.hid hi; clear hi
      go_enter Tryd.func39, Tryd.ntmps39
      go_wp2_with fail
      refine (atoi_ok _ _ hz v HV.out).mono ?_
      rintro e w1 ⟨rfl, hb1⟩
      have hE1 := Lib.hid (HE.out.below hb1)
      have HB1 := Lib.hid hb1; clear hb1
      have HQ2 := Lib.hid hq2; clear hq2
      go_wp2_with (go_at_call 41; refine (itoa_is v _ hv0 hv1 hE1.out).mono ?_; rintro e w2 ⟨rfl, hb2⟩)
      go_ret2
      exact numIs_some HN.out hv0 hv1 (HB1.out.trans (hb2.mono HB1.out.size))
    · have hn : numOf l = none := by
        cases hh : numOf l with
        | none => rfl
        | some x =>
          obtain ⟨a, b, _⟩ := numOf_some hh
          rw [hv] at b
          injection b with b
          rw [b] at hi
          exact absurd a hi
      have HV := Lib.hid hv; clear hv
      have HN := Lib.hid hn; clear hn
      have hq : ((mkS (Lib.itoa v)).toList == (mkS l).toList) = false := by rw [beq_mkS]; exact decide_eq_false hi
      have HI := Lib.hid hi; clear hi
      go_enter Tryd.func39, Tryd.ntmps39
      go_wp2_with fail
      refine (atoi_ok _ _ hz v HV.out).mono ?_
      rintro e w1 ⟨rfl, hb1⟩
      have hE1 := Lib.hid (HE.out.below hb1)
      have HB1 := Lib.hid hb1; clear hb1
      go_wp2_with (go_at_call 41; refine (itoa_is v _ hv0 hv1 hE1.out).mono ?_; rintro e w2 ⟨rfl, hb2⟩)
      go_ret2
      exact numIs_none HN.out hv0 hv1 (HB1.out.trans (hb2.mono HB1.out.size))
  · have hn : numOf l = none := by
      cases hh : numOf l with
      | none => rfl
      | some x => exact absurd ⟨x, (numOf_some hh).2.1⟩ h
    have HN := Lib.hid hn; clear hn
    have HA := Lib.hid (fun v hv => h ⟨v, hv⟩ : ∀ v, Lib.atoiAll l ≠ .ok v); clear h
    go_enter Tryd.func39, Tryd.ntmps39
    go_wp2_with fail
    refine (atoi_no _ _ hz HA.out HE.out).mono ?_
    rintro e w1 ⟨⟨n, a, rfl, hn0, hn1⟩, hb1⟩
    have HB1 := Lib.hid hb1; clear hb1
    go_wp2
    go_ret2
    exact numIs_none HN.out hn0 hn1 HB1.out
end Go.Proofs.YtghllfihmmlcnaaDoor
