/- What package name's functions compute (the next text, paths, and back): contracts over lists of bytes. -/
import Derived.Test.YtdegjlpcbnmhgaaDoorNam2
import Derived.Lib.ConvBytes
import Derived.Deep.RegionHeld3
import Derived.Deep.RegionLaw
import Derived.Deep.AppendLies
namespace Go.Proofs.YtdegjlpcbnmhgaaDoor
open Go.RowKit Nam

/-- What '[]byte(s)' leaves: a new row with the text's bytes. -/
theorem bytes_of (src dst : TypeId) (s : ByteArray) (w : World) (hs : Tryd.prog.underlying src = some .string) (hd : Tryd.prog.underlying dst = some (.slice 5)) :
    ∃ (cap : Nat) (wb : World), (convert src dst (.string s)).run Tryd.prog w = .ok (.slice (some ⟨w.heap.size, 0, none⟩) s.size cap) wb ∧ Below w.heap.size w wb ∧ wb.heap.size = w.heap.size + 1 ∧
      (∀ i, i < s.size → wb.cell? ⟨w.heap.size, i, none⟩ = some (.int .u8 (s.data.toList.getD i 0).toNat)) ∧ (∀ i, i < s.size → wb.frozen? ⟨w.heap.size, i, none⟩ = false) := by
  refine ⟨_, _, Lib.run_convert_string_bytes w src dst 5 s hs hd Tryd.underlying5, ?_, Lib.bytesWorld_size w _ s, fun i hi => Lib.bytesWorld_cell w _ s i hi, fun i hi => ?_⟩
  · exact ⟨rfl, rfl, rfl, by rw [Lib.bytesWorld_size]; omega, fun k hk => Lib.bytesWorld_at_old w _ s k hk⟩
  · have hsz : s.size ≤ (Lib.bytesCells w 5 s).size := by
      unfold Lib.bytesCells
      rw [Array.size_append, Array.size_map]
      exact Nat.le_add_right _ _
    simp [World.frozen?, Lib.bytesWorld_at_new]
    omega

/-- The bytes of a text from place n on are all 255. -/
def High (s : ByteArray) (n : Nat) : Prop := ∀ c ∈ s.data.toList.drop n, c = 255

theorem next_none (s : ByteArray) (h : High s 0) : nextR s.data.toList = none := nextR_high _ (by simpa [High] using h)
theorem next_some (s : ByteArray) (m : Nat) (hm : m < s.size) (h : High s (m + 1)) (h5 : s[m] ≠ 255) : nextR s.data.toList = some (s.data.toList.take m ++ [s[m] + 1]) := by
  have hd := drop_at s m hm
  conv => lhs; rw [← List.take_append_drop m s.data.toList, hd]
  exact nextR_cut _ _ _ h h5

set_option maxHeartbeats 2000000 in
theorem next_is (s : ByteArray) (w : World) (hs : s.size ≤ 140737488351232) : Calls Tryd.prog 14 #[.string s] w fun e w' => (∃ t : ByteArray, e = .returned (.string t) ∧ t.data.toList = (nextR s.data.toList).getD [] ∧ t.size ≤ s.size) ∧ Below w.heap.size w w' := by
  go_enter Tryd.func14, Tryd.ntmps14
  go_wp2_with fail
  go_loop [3] (fun v => ∃ n : Nat, v = .int .i64 n ∧ n ≤ s.size ∧ Hid (High s n)) (fun v => (intOf v).toNat)
  case atStart => exact ⟨s.size, rfl, Nat.le_refl _, fun c hc => by rw [List.drop_eq_nil_of_le (by rw [size_list]; omega)] at hc; cases hc⟩
  case round =>
    obtain ⟨n, rfl, hn, HH⟩ := hrel
    by_cases h0 : n = 0
    · subst h0
      go_wp2
      go_ret
      exact ⟨⟨_, rfl, by rw [next_none s HH.out]; rfl, Nat.zero_le _⟩, Below.refl _ _⟩
    · obtain ⟨m, rfl⟩ : ∃ m, n = m + 1 := ⟨n - 1, by omega⟩
      have hm : m < s.size := by omega
      have hmz : (m : Int) < (s.size : Int) := by omega
      by_cases h5 : s[m] = 255
      · have hb5 : ((s[m].toNat : Int) == 255) = true := by rw [h5]; rfl
        have HG : Hid (High s m) := by
          intro c hc
          rw [drop_at s m hm] at hc
          rcases List.mem_cons.1 hc with rfl | hc
          · exact h5
          · exact HH.out c hc
        have H5 := Lib.hid h5; clear h5
        go_wp2
        go_round
        case rel => exact ⟨m, rfl, by omega, HG⟩
        case measure => simp [intOf]
      · have hb5 : ((s[m].toNat : Int) == 255) = false := by
          rw [beq_eq_false_iff_ne]
          intro h
          exact h5 (UInt8.toNat_inj.1 (by simp; omega))
        have hlt : s[m].toNat < 255 := by
          have := s[m].toNat_lt
          have h6 : s[m].toNat ≠ 255 := fun e => h5 (UInt8.toNat_inj.1 (by simp [e]))
          omega
        obtain ⟨t, ht⟩ : ∃ t, s.extract 0 (m + 1) = t := ⟨_, rfl⟩
        have htl : t.data.toList = s.data.toList.take (m + 1) := by rw [← ht, Lib.extract_data]; simp
        have htz : t.size = m + 1 := by rw [← size_list, htl, List.length_take, size_list]; omega
        obtain ⟨cap, wb, hcv, hbl, hsz, hc, hf⟩ := bytes_of 9 31 t w Tryd.underlying9 Tryd.underlying31
        rw [htz] at hcv hc hf
        have hcm := hc m (by omega)
        have hfm := hf m (by omega)
        have hgm : t.data.toList.getD m 0 = s[m] := by rw [htl, List.getD_eq_getElem?_getD, List.getElem?_take_of_lt (by omega), List.getElem?_eq_getElem (by rw [size_list]; exact hm)]; rfl
        rw [hgm] at hcm
        have hcv2 : ∀ ty, ty = 9 → (convert 31 ty (.slice (some ⟨w.heap.size, 0, none⟩) (m + 1) cap)).run Tryd.prog (wb.setCell ⟨w.heap.size, m, none⟩ (.int .u8 ((s[m].toNat : Int) + 1))) = .ok (.string (strOfNums ((s.data.toList.take m).map (fun c => (c.toNat : Int)) ++ [(s[m].toNat : Int) + 1]))) (wb.setCell ⟨w.heap.size, m, none⟩ (.int .u8 ((s[m].toNat : Int) + 1))) := by
          rintro ty rfl
          refine run_convert_bytes_arg _ 31 5 Tryd.underlying31 Tryd.underlying5 w.heap.size 0 (m + 1) cap _ (by simp; omega) (fun i hi => ?_) _ Tryd.underlying9
          rw [Nat.zero_add]
          by_cases e : i = m
          · subst e
            rw [World.cell?_setCell_same' _ _ _ (by rw [hcm]; rfl)]
            simp [List.getD_eq_getElem?_getD, List.getElem?_append, size_list, hm, Nat.min_eq_left (Nat.le_of_lt hm)]
          · rw [World.cell?_setCell_other _ _ _ _ (fun h => e (by injection h with h1 h2; exact h2.symm)), hc i hi, htl]
            have him : i < m := by omega
            simp [List.getD_eq_getElem?_getD, List.getElem?_append, size_list, him, Nat.min_eq_left (Nat.le_of_lt hm), List.getElem?_take, show i < m + 1 by omega, show i < s.size by omega]
        have hcv3 := hcv2 _ rfl
        have hw8 : IntKind.u8.wrap ((s[m].toNat : Int) + 1) = (s[m].toNat : Int) + 1 := IntWalk.u8_in _ ⟨by omega, by omega⟩
        clear hcv2 hc hf hgm
        have H5 := Lib.hid h5; clear h5
        have HTL := Lib.hid htl; clear htl
        have HSZ := Lib.hid hsz; clear hsz
        have HTZ := Lib.hid htz; clear htz
        have HBL := Lib.hid hbl; clear hbl
        go_wp2
        go_ret
        refine ⟨⟨_, rfl, ?_, ?_⟩, HBL.out.setCell (by simp) _⟩
        · rw [next_some s m hm HH.out H5.out, strOfNums_data]
          simp only [List.map_append, List.map_take, List.map_map, List.map_cons, List.map_nil, Option.getD_some]
          congr 1
          congr 1
          conv => rhs; rw [← List.map_id s.data.toList]
          apply List.map_congr_left
          intro c _
          simp
        · rw [strOfNums_size]
          simp only [List.length_append, List.length_map, List.length_take, List.length_cons, List.length_nil]
          omega

theorem Tryd.info5 : (Tryd.prog.info? 5).map (fun i => (i.zero, i.size, i.bytes)) = some (some (.int .u8 0), 1, 1) := by kernel_rfl

/-- The cells of a text's bytes. -/
def cellsOf (l : List UInt8) : List Value := l.map fun c => .int .u8 c.toNat

theorem dig_at : ∀ (i : Nat) (h : i < (ByteArray.mk #[48, 49, 50, 51, 52, 53, 54, 55, 56, 57, 97, 98, 99, 100, 101, 102]).size), ((ByteArray.mk #[48, 49, 50, 51, 52, 53, 54, 55, 56, 57, 97, 98, 99, 100, 101, 102])[i]'h).toNat = (hexd i).toNat := by
  intro i h
  have h' : i < 16 := h
  match i, h' with
  | 0, _ => rfl
  | 1, _ => rfl
  | 2, _ => rfl
  | 3, _ => rfl
  | 4, _ => rfl
  | 5, _ => rfl
  | 6, _ => rfl
  | 7, _ => rfl
  | 8, _ => rfl
  | 9, _ => rfl
  | 10, _ => rfl
  | 11, _ => rfl
  | 12, _ => rfl
  | 13, _ => rfl
  | 14, _ => rfl
  | 15, _ => rfl
  | n + 16, h => omega

set_option maxHeartbeats 2000000 in
theorem path_is (s : ByteArray) (w : World) (hs : s.size ≤ 65536) : Calls Tryd.prog 12 #[.string s] w fun e w' => (∃ t : ByteArray, e = .returned (.string t) ∧ t.data.toList = pathB s.data.toList) ∧ Below w.heap.size w w' := by
  obtain ⟨i0, hi, hz0, hz1, hz2⟩ := info_parts Tryd.info5
  go_enter Tryd.func12, Tryd.ntmps12
  have hm : IntKind.i64.wrap (2 * (s.size : Int)) = 2 * (s.size : Int) := IntWalk.i64_in _ (by omega)
  have hcv : ∀ W : World, (convert 9 31 (.string s)).run Tryd.prog W = .ok (.slice (some ⟨W.heap.size, 0, none⟩) s.size (grownCap W s.size 0 5)) (Lib.bytesWorld W 5 s) := fun W => Lib.run_convert_string_bytes W _ _ 5 s Tryd.underlying9 Tryd.underlying31 Tryd.underlying5
  go_wp2_with (first
    | (at_make; refine wpList_make_own _ rfl _ _ 31 rfl w.heap.size 5 i0 (.int .u8 0) 1 Tryd.underlying31 hi hz0 hz1 .i64 .i64 _ (2 * s.size) rfl rfl (by omega) (by rw [hz2]; omega) (by unfold maxLen; omega) (Nat.le_refl _) ?_; intro w0 hown0 hgrow0))
  clear hcv
  have hb0 : Below w.heap.size w w0 := (Below.refl _ _).grown hgrow0 (Nat.le_refl _) (fun k hk => by cases hk)
  have hw0 : w.heap.size < w0.heap.size := (hown0.lt w.heap.size rfl).2
  have hcell : ∀ i, i < s.size → (Lib.bytesWorld w0 5 s).cell? ⟨w0.heap.size, i, none⟩ = some (.int .u8 (s.data.toList.getD i 0).toNat) := fun i hi => Lib.bytesWorld_cell w0 _ s i hi
  have hown1 : (Lib.bytesWorld w0 5 s).ownsRow w.heap.size 5 1 (.slice (some ⟨w.heap.size, 0, none⟩) 0 (2 * s.size)) 0 [] := by
    refine hown0.kept (row := none) ⟨rfl, rfl, rfl, by rw [Lib.bytesWorld_size]; omega, fun i hi _ => Lib.bytesWorld_at_old w0 _ s i hi⟩ (.inr (by simp [Value.ownBlock]))
  have hb1 : Below w.heap.size w (Lib.bytesWorld w0 5 s) := hb0.trans ⟨rfl, rfl, rfl, by rw [Lib.bytesWorld_size]; omega, fun k hk => Lib.bytesWorld_at_old w0 _ s k (by omega)⟩
  have hsz1 : w0.heap.size < (Lib.bytesWorld w0 5 s).heap.size := by rw [Lib.bytesWorld_size]; omega
  generalize Lib.bytesWorld w0 5 s = w1 at hcell hown1 hb1 hsz1 ⊢
  generalize w0.heap.size = N at hw0 hcell hsz1 ⊢
  generalize grownCap w0 s.size 0 5 = C
  clear hown0 hgrow0 hb0
  go_loopw [3, 13] (fun v i wr => ∃ k g cap : Nat, k ≤ s.size ∧ i = .int .i64 k ∧ v = .slice (some ⟨g, 0, none⟩) (2 * k) cap ∧ wr.ownsRow w.heap.size 5 1 (.slice (some ⟨g, 0, none⟩) (2 * k) cap) (2 * k) (cellsOf (pathB (s.data.toList.take k))) ∧
      g ≠ N ∧ Below w.heap.size w wr ∧ N < wr.heap.size ∧ Hid (∀ i, i < s.size → wr.cell? ⟨N, i, none⟩ = some (.int .u8 (s.data.toList.getD i 0).toNat)))
    (fun _ i _ => s.size - (intOf i).toNat)
  case atStart => exact ⟨0, w.heap.size, _, Nat.zero_le _, rfl, rfl, hown1, by omega, hb1, hsz1, hcell⟩
  case round =>
    clear hcell hown1 hb1 hsz1
    obtain ⟨k, g, cap0, hk, rfl, rfl, hown, hgN, hbr, hNr, HC⟩ := hrel
    have hgb := hown.lt g rfl
    by_cases hp : k < s.size
    · have hpz : (k : Int) < (s.size : Int) := by omega
      obtain ⟨x, hx, hx256⟩ : ∃ x : Nat, (s.data.toList.getD k 0).toNat = x ∧ x < 256 := ⟨_, rfl, (s.data.toList.getD k 0).toNat_lt⟩
      have hc := HC.out k hp
      rw [hx] at hc
      have HP : Hid (cellsOf (pathB (s.data.toList.take (k + 1))) = cellsOf (pathB (s.data.toList.take k)) ++ [.int .u8 (hexd (x / 16)).toNat, .int .u8 (hexd (x % 16)).toNat]) := by
        show _ = _
        have hd : s.data.toList[k]'(by rw [size_list]; exact hp) = s.data.toList.getD k 0 := by rw [List.getD_eq_getElem?_getD, List.getElem?_eq_getElem (by rw [size_list]; exact hp)]; rfl
        rw [List.take_succ_eq_append_getElem (by rw [size_list]; exact hp), pathB_append, hd, ← hx]
        unfold cellsOf pathB
        simp
      have HX := Lib.hid hx; clear hx
      have hand : bits .and .u8 (x : Int) 15 = (x : Int) % 16 := u8_and15 _ (by omega) (by omega)
      go_wp2
      have q0 : 0 ≤ (x : Int) / 16 := by omega
      have q1 : (x : Int) / 16 < 16 := by omega
      have q2 : 0 ≤ (x : Int) % 16 := by omega
      have q3 : (x : Int) % 16 < 16 := by omega
      have q4 : ((x : Int) / 16).toNat = x / 16 := by omega
      have q5 : ((x : Int) % 16).toNat = x % 16 := by omega
      have hdig := dig_at
      go_region_law ((refine step_append_lies _ (by rfl) _ _ _ (by rfl) w.heap.size 5 i0 _ 1 1 Tryd.underlying31 hi hz0 hz1 hz2 rfl (by omega) (.slice (some ⟨g, 0, none⟩) (2 * k) cap0) (2 * k) (cellsOf (pathB (s.data.toList.take k))) (by rfl) ((hown.alloc _).drew) ⟨wr.heap.size, 0, none⟩ 2 2 [.int .u8 (hexd (x / 16)).toNat, .int .u8 (hexd (x % 16)).toNat] (by rfl) (by rfl) (World.news_of_block (cs := #[.int .u8 (hexd (x / 16)).toNat, .int .u8 (hexd (x % 16)).toNat]) (t := 5) (fr := (0, 0)) (heap_alloc_new wr _)) (by simp [Value.oneCell']) (by omega) (by unfold maxLen; omega) (by omega) (by simp; omega) (wr.heap.size + 1) (by simp) ?_; intro gg cap w2 hown2 hgrow2 hat hlt))
      all_goals
        clear hdig q4 q5 hand
        have hgg : gg ≠ N := by
          rcases hat with h | h
          · simp [Value.ownBlock] at h; omega
          · omega
        have hb2 : Below w.heap.size w w2 := by
          refine ((hbr.alloc (by omega) _).drew).grown hgrow2 (by simp; omega) (fun j hj => ?_)
          simp [Value.ownBlock] at hj; omega
        have hN2 : N < w2.heap.size := Nat.lt_of_lt_of_le (by simp; omega) hgrow2.size
        have HC2 : Hid (∀ i, i < s.size → w2.cell? ⟨N, i, none⟩ = some (.int .u8 (s.data.toList.getD i 0).toNat)) := by
          intro i hi
          rw [hgrow2.cell_far _ (by simp; omega) (by simp [Value.ownBlock]; omega)]
          show (wr.alloc _).cell? _ = _
          rw [World.cell?_alloc_lt _ _ _ hNr]
          exact HC.out i hi
        have hown3 : w2.ownsRow w.heap.size 5 1 (.slice (some ⟨gg, 0, none⟩) (2 * (k + 1)) cap) (2 * (k + 1)) (cellsOf (pathB (s.data.toList.take (k + 1)))) := by
          rw [HP.out]; exact hown2
        clear hown2 hgrow2 hat hlt hown hbr hNr hc HC
        go_wp2
        go_roundw
        case rel => exact ⟨k + 1, gg, cap, by omega, by go_num, rfl, hown3, hgg, hb2, hN2, HC2⟩
        case measure => simp [intOf]; omega
    · have he : k = s.size := by omega
      subst he
      have hcv2 : (convert 31 9 (.slice (some ⟨g, 0, none⟩) (2 * s.size) cap0)).run Tryd.prog wr = .ok (.string (strOfNums ((pathB s.data.toList).map fun c => (c.toNat : Int)))) wr := by
        refine run_convert_bytes_arg _ 31 5 Tryd.underlying31 Tryd.underlying5 g 0 (2 * s.size) cap0 _ (by simp [pathB_length, size_list]) (fun i hi => ?_) _ Tryd.underlying9
        rw [Nat.zero_add, hown.cellAt i (by omega)]
        unfold cellsOf
        rw [List.take_of_length_le (by rw [size_list]; omega)]
        have hil : i < (pathB s.data.toList).length := by rw [pathB_length, size_list]; exact hi
        simp [List.getD_eq_getElem?_getD, List.getElem?_eq_getElem hil]
      clear hown HC
      go_wp2
      go_ret
      refine ⟨⟨_, rfl, ?_⟩, hbr⟩
      rw [strOfNums_data, List.map_map]
      conv => rhs; rw [← List.map_id (pathB s.data.toList)]
      apply List.map_congr_left
      intro c _
      simp

theorem idx_dig (c : UInt8) : Lib.indexByte (ByteArray.mk #[48, 49, 50, 51, 52, 53, 54, 55, 56, 57, 97, 98, 99, 100, 101, 102]).data.toList c = digI c := by
  have h : ∀ n : Fin 256, Lib.indexByte [48, 49, 50, 51, 52, 53, 54, 55, 56, 57, 97, 98, 99, 100, 101, 102] (UInt8.ofNat n.val) = digI (UInt8.ofNat n.val) := by decide +kernel
  have := h ⟨c.toNat, c.toNat_lt⟩
  simpa using this
theorem digI_range (c : UInt8) : digI c = -1 ∨ (0 ≤ digI c ∧ digI c < 16) := by
  unfold digI
  split
  · right; omega
  · split
    · right; omega
    · left; rfl
/-- The bytes that a path's first signs are of; none: one of them is none. -/
theorem unp_snoc : ∀ (l : List UInt8) (a b : UInt8), l.length % 2 = 0 → unp (l ++ [a, b]) = (unp l).bind fun m => if digI a < 0 ∨ digI b < 0 then none else some (m ++ [UInt8.ofNat (16 * (digI a).toNat + (digI b).toNat)])
  | [], a, b, _ => by
    simp only [List.nil_append, unp, Option.bind_some]
    split <;> rfl
  | [_], _, _, h => by simp at h
  | x :: y :: t, a, b, h => by
    have ih := unp_snoc t a b (by simp at h; omega)
    simp only [List.cons_append, unp, ih]
    by_cases hd : digI x < 0 ∨ digI y < 0
    · rw [if_pos hd, if_pos hd]; rfl
    · rw [if_neg hd, if_neg hd]
      cases unp t with
      | none => rfl
      | some m =>
        simp only [Option.bind_some, Option.map_some]
        split <;> rfl
theorem unp_none_more : ∀ (l m : List UInt8), l.length % 2 = 0 → unp l = none → unp (l ++ m) = none
  | [], m, _, h => by cases h
  | [_], _, h, _ => by simp at h
  | x :: y :: t, m, h, hn => by
    simp only [List.cons_append, unp] at hn ⊢
    by_cases hd : digI x < 0 ∨ digI y < 0
    · rw [if_pos hd]
    · rw [if_neg hd] at hn ⊢
      cases ht : unp t with
      | none => rw [unp_none_more t m (by simp at h; omega) ht]; rfl
      | some z => rw [ht] at hn; cases hn
theorem unp_odd : ∀ l : List UInt8, l.length % 2 = 1 → unp l = none
  | [], h => by simp at h
  | [_], _ => rfl
  | x :: y :: t, h => by
    simp only [unp]
    rw [unp_odd t (by simp at h; omega)]
    split <;> rfl
end Go.Proofs.YtdegjlpcbnmhgaaDoor
