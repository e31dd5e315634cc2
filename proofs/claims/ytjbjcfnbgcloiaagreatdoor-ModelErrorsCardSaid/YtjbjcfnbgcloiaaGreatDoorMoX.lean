/- A life's choices as they lie; Room of the statements of layer 22. -/
import Derived.Test.YtjbjcfnbgcloiaaGreatDoorMoE
import Derived.Test.YtjbjcfnbgcloiaaGreatDoorLaw
import Derived.Deep.Slices
import Derived.Deep.Strs
import Derived.Test.YtjbjcfnbgcloiaaGreatDoorPModelErrorsx1
namespace Go.Proofs.YtjbjcfnbgcloiaaGreatDoor
open Go.ChangeShapes Go.WideShapes Go.ChangeAt Go.RowKit Go.Deep Nam YtjbjcfnbgcloiaaGreatDoorW.PrintWords PModelErrors

/-- A choice. -/
structure Ch where
  d : Int
  bk : List UInt8
  ky : List UInt8
  dt : List UInt8
  n : Int
  a : Int
  pf : List UInt8
  fr : List UInt8
  fi : Int
  mo : Int
deriving DecidableEq

/-- Its numbers are ints, its texts are short. -/
structure Ch.Ok (x : Ch) (m : Nat) : Prop where
  d : -9223372036854775808 ≤ x.d ∧ x.d ≤ 9223372036854775807
  n : -9223372036854775808 ≤ x.n ∧ x.n ≤ 9223372036854775807
  a : -9223372036854775808 ≤ x.a ∧ x.a ≤ 9223372036854775807
  fi : -9223372036854775808 ≤ x.fi ∧ x.fi ≤ 9223372036854775807
  mo : -9223372036854775808 ≤ x.mo ∧ x.mo ≤ 9223372036854775807
  bk : x.bk.length ≤ m
  ky : x.ky.length ≤ m
  dt : x.dt.length ≤ m
  pf : x.pf.length ≤ m
  fr : x.fr.length ≤ m

def chCells (x : Ch) (v : Value) : List Value := [.int .i64 x.d, .string (mkS x.bk), .string (mkS x.ky), v, .int .i64 x.n, .int .i64 x.a, .string (mkS x.pf), .string (mkS x.fr), .int .i64 x.fi, .int .i64 x.mo]
def kCh : Kd Ch := Kd.iso (Kd.pair (Kd.int .i64) (Kd.pair Kd.string (Kd.pair Kd.string (Kd.pair (Kd.slice 5 (Kd.int .u8)) (Kd.pair (Kd.int .i64) (Kd.pair (Kd.int .i64) (Kd.pair Kd.string (Kd.pair Kd.string (Kd.pair (Kd.int .i64) (Kd.int .i64)))))))))) (fun x : Ch => (x.d, mkS x.bk, mkS x.ky, byN x.dt, x.n, x.a, mkS x.pf, mkS x.fr, x.fi, x.mo))
abbrev Dt (W : World) (ok : Nat → Prop) (v : Value) (l : List UInt8) : Prop := Kd.V (Kd.int .u8) 5 W 0 ok v (byN l)
theorem kCh_open {w : World} {x : Ch} {cs : List Value} (h : kCh.K w x cs) : ∃ A c, cs = chCells x (.slice A (byN x.dt).length c) ∧ (byN x.dt).length ≤ c ∧ (Kd.int .u8).C w A (byN x.dt).length (byN x.dt) := by
  obtain ⟨_, _, rfl, rfl, ⟨_, _, rfl, rfl, ⟨_, _, rfl, rfl, ⟨_, _, rfl, ⟨A3, c3, rfl, l3, g3⟩, ⟨_, _, rfl, rfl, ⟨_, _, rfl, rfl, ⟨_, _, rfl, rfl, ⟨_, _, rfl, rfl, ⟨_, _, rfl, rfl, rfl⟩⟩⟩⟩⟩⟩⟩⟩⟩ := h
  exact ⟨A3, c3, rfl, l3, g3⟩
theorem kCh_mk (w : World) (x : Ch) {A : Option Addr} {c : Nat} (l3 : (byN x.dt).length ≤ c) (g3 : (Kd.int .u8).C w A (byN x.dt).length (byN x.dt)) : kCh.K w x (chCells x (.slice A (byN x.dt).length c)) :=
  ⟨[_], _, rfl, rfl, ⟨[_], _, rfl, rfl, ⟨[_], _, rfl, rfl, ⟨[_], _, rfl, ⟨A, c, rfl, l3, g3⟩, ⟨[_], _, rfl, rfl, ⟨[_], _, rfl, rfl, ⟨[_], _, rfl, rfl, ⟨[_], _, rfl, rfl, ⟨[_], [_], rfl, rfl, rfl⟩⟩⟩⟩⟩⟩⟩⟩⟩
theorem kCh_openF {W : World} {ok : Nat → Prop} {x : Ch} {cs : List Value} (h : Kd.FK kCh W ok x cs) : ∃ v, cs = chCells x v ∧ Dt W ok v x.dt := by
  obtain ⟨A3, c3, rfl, l3, _⟩ := kCh_open (Kd.FK_now h)
  exact ⟨_, rfl, A3, c3, rfl, l3, fun W' hW => by
    obtain ⟨A3_, c3_, he, l3_, g3_⟩ := kCh_open (h W' hW)
    injection (Option.some.inj (show some (Value.slice A3 (byN x.dt).length c3) = some (Value.slice A3_ (byN x.dt).length c3_) from congrArg (fun l => l[3]?) he)) with ha_ _ _
    rw [ha_]; exact g3_⟩
theorem kCh_mkF {W : World} {ok : Nat → Prop} {x : Ch} {v : Value} (h : Dt W ok v x.dt) : Kd.FK kCh W ok x (chCells x v) := by
  obtain ⟨A, c, rfl, hl, hf⟩ := h
  exact fun W2 hW => kCh_mk W2 x hl (hf W2 hW)

/-- An element of a row of choices, as it is loaded. -/
theorem at_Ch {w : World} {A : Option Addr} {n : Nat} {xs : List Ch} (h : Kd.C kCh w A n xs) (k : Nat) (hk : k < xs.length) : ∃ ad A3 c3, A = some ad ∧ Dt w (fun _ => True) (.slice A3 (byN xs[k].dt).length c3) xs[k].dt ∧
    ∀ j u, (chCells xs[k] (.slice A3 (byN xs[k].dt).length c3))[j]? = some u → w.cell? (ad.add (k * 10 + j)) = some u := by
  have hn := h.1
  obtain ⟨ad, c, e, _, hK, hc0⟩ := Kd.C_get h xs[k] (k : Int) (by omega) (by omega)
  rw [List.getD_eq_getElem?_getD, Int.toNat_natCast, List.getElem?_eq_getElem hk, Option.getD_some] at hK
  obtain ⟨A3, c3, rfl, l3, g3⟩ := kCh_open hK
  refine ⟨ad, A3, c3, e, ⟨A3, c3, rfl, l3, fun W' hW => ?_⟩, fun j u hu => ?_⟩
  · exact Kd.Heap.C (Kd.heap_int .u8) (fun j hj => hW j trivial hj) g3
  · have := hc0 j u hu
    rwa [Int.toNat_natCast] at this

def toS (x : Ch) : S34 := ⟨x.d, mkS x.bk, mkS x.ky, byN x.dt, x.n, x.a, ⟨mkS x.pf, mkS x.fr, x.fi, x.mo⟩⟩
theorem C_toS {w : World} {A : Option Addr} {n : Nat} {l : List Ch} (h : Kd.C kCh w A n l) : Kd.C k34 w A n (l.map toS) := by
  obtain ⟨h1, h2, h3⟩ := h
  refine ⟨by rw [List.length_map]; exact h1, h2, fun hn => ?_⟩
  obtain ⟨ad, e, hc⟩ := h3 hn
  refine ⟨ad, e, fun j p hp => ?_⟩
  rw [List.getElem?_map] at hp
  cases hx : l[j]? with
  | none => rw [hx] at hp; cases hp
  | some x =>
    rw [hx] at hp
    simp only [Option.map_some, Option.some.injEq] at hp
    subst hp
    obtain ⟨c, hl, hK, hcell⟩ := hc j x hx
    refine ⟨c, hl, ?_, hcell⟩
    obtain ⟨A3, c3, rfl, l3, g3⟩ := kCh_open hK
    exact k34_mk w (toS x) l3 g3

/-- Few choices, short texts. -/
def roomX (x : Ch) : Bool := decide (x.bk.length ≤ 300) && decide (x.ky.length ≤ 300) && decide (x.dt.length ≤ 3000) && decide (x.pf.length ≤ 300) && decide (x.fr.length ≤ 300)
def roomB (l : List Ch) (m : Nat) : Bool := decide (l.length ≤ m) && l.all roomX
theorem room_l0 (l : List Ch) (hl : l.length ≤ 1000000) : ∀ (k j : Nat), j ≤ l.length → l.length - j < k → strongboxlaw22_Room.l0 k (l.map toS) (j : Int) = some ((l.drop j).all roomX)
  | 0, j, _, h => by omega
  | k + 1, j, hj, h => by
    rw [strongboxlaw22_Room.l0, List.length_map]
    by_cases hlt : j < l.length
    · rw [if_pos (by omega), if_pos (by omega)]
      have hrd : rd_T34 (l.map toS) (j : Int) = toS l[j] := by
        unfold rd_T34
        rw [Int.toNat_natCast, List.getD_eq_getElem?_getD, List.getElem?_map, List.getElem?_eq_getElem hlt]
        rfl
      rw [hrd]
      have hw : wrap64 ((j : Int) + 1) = ((j + 1 : Nat) : Int) := by unfold wrap64; omega
      rw [hw, room_l0 l hl k (j + 1) (by omega) (by omega), List.drop_eq_getElem_cons hlt, List.all_cons]
      obtain ⟨x, hx⟩ : ∃ x, l[j] = x := ⟨_, rfl⟩
      rw [hx]
      unfold toS roomX
      simp only [mkS_size, byN_length]
      by_cases h1 : x.bk.length ≤ 300
      · rw [if_neg (by omega), decide_eq_true h1]
        by_cases h2 : x.ky.length ≤ 300
        · rw [if_neg (by omega), decide_eq_true h2]
          by_cases h3 : x.dt.length ≤ 3000
          · rw [if_neg (by omega), decide_eq_true h3]
            by_cases h4 : x.pf.length ≤ 300
            · rw [if_neg (by omega), decide_eq_true h4]
              by_cases h5 : x.fr.length ≤ 300
              · rw [if_neg (by omega), decide_eq_true h5]; simp
              · rw [if_pos (by omega), decide_eq_false h5]; simp
            · rw [if_pos (by omega), decide_eq_false h4]; simp
          · rw [if_pos (by omega), decide_eq_false h3]; simp
        · rw [if_pos (by omega), decide_eq_false h2]; simp
      · rw [if_pos (by omega), decide_eq_false h1]; simp
    · rw [if_neg (by omega), List.drop_eq_nil_of_le (by omega)]
      rfl
theorem room_is (l : List Ch) (m : Nat) (A : Option Addr) (c : Nat) (w : World) (hc : l.length ≤ c) (hm : m ≤ 1000000) (hC : Kd.C kCh w A l.length l) :
    Calls Tryz.prog 6 #[.slice A l.length c, .int .i64 (m : Int)] w fun e w' => e = .returned (.bool (roomB l m)) ∧ Below w.heap.size w w' := by
  have h := strongboxlaw22_Room.calls (l.length + 1) A c (l.map toS) (m : Int) (roomB l m) w (by rw [List.length_map]; exact C_toS hC) (by rw [List.length_map]; exact hc) (by
    unfold strongboxlaw22_Room.f roomB
    rw [List.length_map]
    by_cases h : l.length ≤ m
    · rw [if_neg (by omega), decide_eq_true h]
      have := room_l0 l (by omega) (l.length + 1) 0 (Nat.zero_le _) (by omega)
      rw [List.drop_zero] at this
      exact this
    · rw [if_pos (by omega), decide_eq_false h]; rfl)
  rw [List.length_map] at h
  exact h
theorem roomB_ok {l : List Ch} {m : Nat} (h : roomB l m = true) : l.length ≤ m ∧ ∀ x ∈ l, x.bk.length ≤ 300 ∧ x.ky.length ≤ 300 ∧ x.dt.length ≤ 3000 ∧ x.pf.length ≤ 300 ∧ x.fr.length ≤ 300 := by
  unfold roomB at h
  simp only [Bool.and_eq_true, decide_eq_true_eq, List.all_eq_true] at h
  refine ⟨h.1, fun x hx => ?_⟩
  have := h.2 x hx
  unfold roomX at this
  simp only [Bool.and_eq_true, decide_eq_true_eq] at this
  exact ⟨this.1.1.1.1, this.1.1.1.2, this.1.1.2, this.1.2, this.2⟩

/-- Its texts are short, but for the data. -/
structure Ch.Short (x : Ch) : Prop where
  bk : x.bk.length ≤ 300
  ky : x.ky.length ≤ 300
  dt : x.dt.length ≤ 3000
  pf : x.pf.length ≤ 300
  fr : x.fr.length ≤ 300
def ofNums (zs : List Int) : List UInt8 := zs.map fun z => UInt8.ofNat z.toNat
theorem byN_ofNums (zs : List Int) (h : ∀ z ∈ zs, 0 ≤ z ∧ z ≤ 255) : byN (ofNums zs) = zs := by
  unfold byN bytesOf ofNums
  rw [mkS_list, List.map_map]
  conv => rhs; rw [← List.map_id zs]
  apply List.map_congr_left
  intro z hz
  have := h z hz
  simp
  omega

instance : Inhabited Ch := ⟨⟨0, [], [], [], 0, 0, [], [], 0, 0⟩⟩
/-- A choice's numbers are ints. -/
structure Ch.Num (x : Ch) : Prop where
  d : -9223372036854775808 ≤ x.d ∧ x.d ≤ 9223372036854775807
  n : -9223372036854775808 ≤ x.n ∧ x.n ≤ 9223372036854775807
  a : -9223372036854775808 ≤ x.a ∧ x.a ≤ 9223372036854775807
  fi : -9223372036854775808 ≤ x.fi ∧ x.fi ≤ 9223372036854775807
  mo : -9223372036854775808 ≤ x.mo ∧ x.mo ≤ 9223372036854775807

section
variable {H : Type} {enc : TypeId × Value → H}
set_option maxRecDepth 100000 in
theorem open_ch {w : World} {base : Nat} {spare : Nat → Bool} {held : Bool} {fuel : Nat} {cs : List Value} {x : DataW H × List MemPlace}
    (h : DataW.trod enc Tryz.prog w base spare held fuel 34 cs = some x) : ∃ c : Ch, kCh.K w c cs ∧ c.Num := by
  have c39 : Tryz.prog.cellsOf 34 = 10 := by kernel_rfl
  have c37 : Tryz.prog.cellsOf 32 = 4 := by kernel_rfl
  have c9 : Tryz.prog.cellsOf 9 = 1 := by kernel_rfl
  have c5 : Tryz.prog.cellsOf 30 = 1 := by kernel_rfl
  have cu : Tryz.prog.cellsOf 5 = 1 := by kernel_rfl
  have c3 : Tryz.prog.cellsOf 3 = 1 := by kernel_rfl
  obtain ⟨xs, n, _, _, hl, hxl, hf⟩ := DataW.trod_struct Tryz.underlying34 h
  rw [c39] at hl
  match cs, hl with
  | [v0, v1, v2, v3, v4, v5, v6, v7, v8, v9], _ =>
    have hxl : xs.length = 7 := hxl
    have k0 := hf 0 _ rfl
    have k1 := hf 1 _ rfl
    have k2 := hf 2 _ rfl
    have k3 := hf 3 _ rfl
    have k4 := hf 4 _ rfl
    have k5 := hf 5 _ rfl
    have k6 := hf 6 _ rfl
    rw [List.getElem?_eq_getElem (by omega)] at k0 k1 k2 k3 k4 k5 k6
    simp [c9, c5, c37, c3] at k0 k1 k2 k3 k4 k5 k6
    obtain ⟨i0, e0, _, w0⟩ := DataW.trod_int Tryz.underlying3 k0
    obtain ⟨s1, e1, _, _⟩ := DataW.trod_string Tryz.underlying9 k1
    obtain ⟨s2, e2, _, _⟩ := DataW.trod_string Tryz.underlying9 k2
    obtain ⟨i4, e4, _, w4⟩ := DataW.trod_int Tryz.underlying3 k4
    obtain ⟨i5, e5, _, w5⟩ := DataW.trod_int Tryz.underlying3 k5
    obtain ⟨ys, n', _, _, _, hyl, hg⟩ := DataW.trod_struct Tryz.underlying32 k6
    have hyl : ys.length = 4 := hyl
    have m0 := hg 0 _ rfl
    have m1 := hg 1 _ rfl
    have m2 := hg 2 _ rfl
    have m3 := hg 3 _ rfl
    rw [List.getElem?_eq_getElem (by omega)] at m0 m1 m2 m3
    simp [c9, c3] at m0 m1 m2 m3
    obtain ⟨s6, e6, _, _⟩ := DataW.trod_string Tryz.underlying9 m0
    obtain ⟨s7, e7, _, _⟩ := DataW.trod_string Tryz.underlying9 m1
    obtain ⟨i8, e8, _, w8⟩ := DataW.trod_int Tryz.underlying3 m2
    obtain ⟨i9, e9, _, w9⟩ := DataW.trod_int Tryz.underlying3 m3
    simp only [List.cons.injEq, and_true] at e0 e1 e2 e4 e5 e6 e7 e8 e9
    subst e0; subst e1; subst e2; subst e4; subst e5; subst e6; subst e7; subst e8; subst e9
    have hdt : ∃ (A : Option Addr) (zs : List Int) (c : Nat), v3 = .slice A zs.length c ∧ zs.length ≤ c ∧ (∀ z ∈ zs, 0 ≤ z ∧ z ≤ 255) ∧ (Kd.int .u8).C w A zs.length zs := by
      rcases open_ints Tryz.underlying30 Tryz.underlying5 cu k3 with ⟨hcs, _⟩ | ⟨a, len, cap, zs, hcs, _, hl, hm, hz, _, hcell, hwz⟩
      · simp only [List.cons.injEq, and_true] at hcs
        exact ⟨none, [], 0, hcs, Nat.le_refl _, (fun z hz => by cases hz), Kd.C_nil _ _⟩
      · simp only [List.cons.injEq, and_true] at hcs
        have hlz : len ≤ zs.length := by rw [hz]; split <;> omega
        have hlt : (zs.take len).length = len := by rw [List.length_take]; omega
        refine ⟨some a, zs.take len, cap, by rw [hlt]; exact hcs, by rw [hlt]; exact hl, fun z hz => wf_u8 (hwz z (List.mem_of_mem_take hz)), ?_⟩
        rw [hlt]
        unfold maxLen at hm
        refine Kd.C_of_reads (enc := Value.int .u8) (d := (0 : Int)) (h1 := fun _ => rfl) ⟨hlt, by omega, fun _ => ⟨a, rfl, fun j hj => ?_⟩⟩
        rw [hcell j (by omega), List.getD_eq_getElem?_getD, List.getD_eq_getElem?_getD, List.getElem?_take_of_lt hj]
    obtain ⟨A, zs, c, rfl, hc, hz, hC⟩ := hdt
    have hbz := byN_ofNums zs hz
    have key := kCh_mk w (⟨i0, s1.data.toList, s2.data.toList, ofNums zs, i4, i5, s6.data.toList, s7.data.toList, i8, i9⟩ : Ch) (A := A) (c := c) (by rw [hbz]; exact hc) (by rw [hbz]; exact hC)
    unfold chCells at key
    simp only [hbz, mkS_of] at key
    exact ⟨_, key, ⟨wf_i64 w0, wf_i64 w4, wf_i64 w5, wf_i64 w8, wf_i64 w9⟩⟩

set_option maxRecDepth 100000 in
/-- The row itself. -/
theorem open_chs {w : World} {base : Nat} {r : Reach} {held : Bool} {v : Value} {d : DataW H} {ps : List MemPlace} (hval : Value.okWide Tryz.prog w r base 22 v)
    (hd : DataW.Trod enc Tryz.prog w 0 (fun _ => true) held 22 v d ps) : ∃ (l : List Ch) (A : Option Addr) (c : Nat), v = .slice A l.length c ∧ l.length ≤ c ∧ Kd.C kCh w A l.length l ∧ ∀ x ∈ l, x.Num := by
  have ht : Tryz.prog.underlying 22 = some (.slice 34) := Tryz.underlying22
  have c39 : Tryz.prog.cellsOf 34 = 10 := by kernel_rfl
  obtain ⟨a0, len0, cap0, rfl⟩ := okWide_slice ht hval
  obtain ⟨fuel, hf⟩ := hd
  rcases open_slice ht hf with ⟨h, _⟩ | ⟨a, len, cap, m, n, D, Pl, h, _, hl, hm, hmm, _, hx⟩
  · simp [Value.cells] at h
    obtain ⟨rfl, rfl, rfl⟩ := h
    exact ⟨[], none, 0, rfl, Nat.le_refl _, Kd.C_nil _ _, fun x hx => by cases hx⟩
  · simp [Value.cells] at h
    obtain ⟨rfl, rfl, rfl⟩ := h
    rw [if_pos rfl] at hmm
    obtain rfl : cap0 = m := hmm.symm
    have key : ∀ i, i < len0 → ∃ c : Ch, c.Num ∧ ∃ cs, cs.length = 10 ∧ kCh.K w c cs ∧ ∀ k u, cs[k]? = some u → w.cell? (a.add (i * 10 + k)) = some u := fun i hi => by
      obtain ⟨cs', h1, h2⟩ := hx i (by omega)
      rw [c39] at h1
      obtain ⟨c, hK, hN⟩ := open_ch h2
      obtain ⟨_, hl', hcell⟩ := World.cells?_some h1
      refine ⟨c, hN, cs', hl', hK, fun k u hu => ?_⟩
      have hk : k < 10 := by rw [← hl']; exact (List.getElem?_eq_some_iff.1 hu).1
      have := hcell k hk
      rw [hu, Go.Deep.add_add] at this
      exact this
    obtain ⟨E, hE⟩ := choose_lt (α := Ch) (p := fun i c => c.Num ∧ ∃ cs, cs.length = 10 ∧ kCh.K w c cs ∧ ∀ k u, cs[k]? = some u → w.cell? (a.add (i * 10 + k)) = some u) key
    refine ⟨(List.range len0).map E, some a, cap0, by simp, by simpa using hl, ?_, fun x hx => ?_⟩
    · unfold maxLen at hm
      refine ⟨by simp, by simp; omega, fun _ => ⟨a, rfl, fun j p hp => ?_⟩⟩
      rw [List.getElem?_map] at hp
      have hj : j < len0 := by
        by_cases h : j < len0
        · exact h
        · rw [List.getElem?_eq_none (by simp; omega)] at hp; cases hp
      rw [List.getElem?_range hj] at hp
      simp only [Option.map_some, Option.some.injEq] at hp
      subst hp
      exact (hE j hj).2
    · obtain ⟨j, hj, rfl⟩ := List.mem_map.1 hx
      exact (hE j (List.mem_range.1 hj)).1

end
theorem ch_ok {x : Ch} (h : x.Num) (hs : x.Short) : x.Ok 3000 := ⟨h.d, h.n, h.a, h.fi, h.mo, by have := hs.bk; omega, by have := hs.ky; omega, hs.dt, by have := hs.pf; omega, by have := hs.fr; omega⟩
theorem ch_short {l : List Ch} {m : Nat} (h : roomB l m = true) : ∀ x ∈ l, x.Short := fun x hx => by
  obtain ⟨h1, h2, h3, h4, h5⟩ := (roomB_ok h).2 x hx
  exact ⟨h1, h2, h3, h4, h5⟩
/-- What lies in a row of choices, and stays. -/
def HasC (w : World) (A : Option Addr) (l : List Ch) : Prop := ∀ w', Below w.heap.size w w' → Kd.C kCh w' A l.length l
theorem HasC.of {w : World} {A : Option Addr} {l : List Ch} (h : Kd.C kCh w A l.length l) : HasC w A l := fun _ hb => Kd.C_below h hb
theorem HasC.below {w w' : World} {A : Option Addr} {l : List Ch} (h : HasC w A l) (hb : Below w.heap.size w w') : HasC w' A l := fun _ hb2 => h _ (hb.trans (hb2.mono hb.size))
theorem HasC.now {w : World} {A : Option Addr} {l : List Ch} (h : HasC w A l) : Kd.C kCh w A l.length l := h _ (Below.refl _ _)
/-- Data that stays. -/
def HasD (w : World) (v : Value) (l : List UInt8) : Prop := ∀ w', Below w.heap.size w w' → Dt w' (fun _ => True) v l
theorem HasD.of {w : World} {ok : Nat → Prop} {v : Value} {l : List UInt8} (h : Dt w ok v l) : HasD w v l := fun _ hb => Kd.V_mono (Kd.V_below h hb) (fun _ _ => trivial)
theorem HasD.below {w w' : World} {v : Value} {l : List UInt8} (h : HasD w v l) (hb : Below w.heap.size w w') : HasD w' v l := fun _ hb2 => h _ (hb.trans (hb2.mono hb.size))
theorem HasD.now {w : World} {v : Value} {l : List UInt8} (h : HasD w v l) : Dt w (fun _ => True) v l := h _ (Below.refl _ _)
end Go.Proofs.YtjbjcfnbgcloiaaGreatDoor
