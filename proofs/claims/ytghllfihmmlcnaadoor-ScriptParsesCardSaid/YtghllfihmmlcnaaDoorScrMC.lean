/- A life's choices: their cells, and what they lead to; word, set and count of package script. -/
import Derived.Test.YtghllfihmmlcnaaDoorScrMB
import Derived.Test.YtghllfihmmlcnaaDoorWN
import Derived.Test.YtghllfihmmlcnaaDoorWNEv
import Derived.Test.YtghllfihmmlcnaaDoorWKept
import Derived.Test.YtghllfihmmlcnaaDoorWShare
import Derived.Test.YtghllfihmmlcnaaDoorWFoot
import Derived.Test.YtghllfihmmlcnaaDoorPScriptPrintsx4

namespace Go.Proofs.YtghllfihmmlcnaaDoor
open Go.RowKit Nam YtghllfihmmlcnaaDoorW.PrintWords

/-- A choice. -/
structure Ch where
  d : Int
  bk : List UInt8
  ky : List UInt8
  dt : List UInt8
  n : Int
  a : Int
  pf : List UInt8
  fr : List UInt8
  fi : Int
  mo : Int
deriving DecidableEq

/-- Its numbers are ints, its texts are short. -/
structure Ch.Ok (x : Ch) (m : Nat) : Prop where
  d : -9223372036854775808 ≤ x.d ∧ x.d ≤ 9223372036854775807
  n : -9223372036854775808 ≤ x.n ∧ x.n ≤ 9223372036854775807
  a : -9223372036854775808 ≤ x.a ∧ x.a ≤ 9223372036854775807
  fi : -9223372036854775808 ≤ x.fi ∧ x.fi ≤ 9223372036854775807
  mo : -9223372036854775808 ≤ x.mo ∧ x.mo ≤ 9223372036854775807
  bk : x.bk.length ≤ m
  ky : x.ky.length ≤ m
  dt : x.dt.length ≤ m
  pf : x.pf.length ≤ m
  fr : x.fr.length ≤ m

def byN (l : List UInt8) : List Int := bytesOf (mkS l)
theorem byN_length (l : List UInt8) : (byN l).length = l.length := by unfold byN; rw [bytesOf_length, mkS_size]
theorem byN_str (l : List UInt8) : strOfNums (byN l) = mkS l := by
  apply ByteArray.ext
  apply Array.toList_inj.1
  rw [strOfNums_data]
  unfold byN bytesOf
  rw [List.map_map, mkS_list]
  conv => rhs; rw [← List.map_id l]
  apply List.map_congr_left
  intro c _
  simp
def chCells (x : Ch) (v : Value) : List Value := [.int .i64 x.d, .string (mkS x.bk), .string (mkS x.ky), v, .int .i64 x.n, .int .i64 x.a, .string (mkS x.pf), .string (mkS x.fr), .int .i64 x.fi, .int .i64 x.mo]
def kCh : Kd Ch := Kd.iso (Kd.pair (Kd.int .i64) (Kd.pair Kd.string (Kd.pair Kd.string (Kd.pair (Kd.slice 5 (Kd.int .u8)) (Kd.pair (Kd.int .i64) (Kd.pair (Kd.int .i64) (Kd.pair Kd.string (Kd.pair Kd.string (Kd.pair (Kd.int .i64) (Kd.int .i64)))))))))) (fun x : Ch => (x.d, mkS x.bk, mkS x.ky, byN x.dt, x.n, x.a, mkS x.pf, mkS x.fr, x.fi, x.mo))
abbrev Dt (W : World) (ok : Nat → Prop) (v : Value) (l : List UInt8) : Prop := Kd.V (Kd.int .u8) 5 W 0 ok v (byN l)
theorem kCh_open {w : World} {x : Ch} {cs : List Value} (h : kCh.K w x cs) : ∃ A c, cs = chCells x (.slice A (byN x.dt).length c) ∧ (byN x.dt).length ≤ c ∧ (Kd.int .u8).C w A (byN x.dt).length (byN x.dt) := by
  obtain ⟨_, _, rfl, rfl, ⟨_, _, rfl, rfl, ⟨_, _, rfl, rfl, ⟨_, _, rfl, ⟨A3, c3, rfl, l3, g3⟩, ⟨_, _, rfl, rfl, ⟨_, _, rfl, rfl, ⟨_, _, rfl, rfl, ⟨_, _, rfl, rfl, ⟨_, _, rfl, rfl, rfl⟩⟩⟩⟩⟩⟩⟩⟩⟩ := h
  exact ⟨A3, c3, rfl, l3, g3⟩
theorem kCh_mk (w : World) (x : Ch) {A : Option Addr} {c : Nat} (l3 : (byN x.dt).length ≤ c) (g3 : (Kd.int .u8).C w A (byN x.dt).length (byN x.dt)) : kCh.K w x (chCells x (.slice A (byN x.dt).length c)) :=
  ⟨[_], _, rfl, rfl, ⟨[_], _, rfl, rfl, ⟨[_], _, rfl, rfl, ⟨[_], _, rfl, ⟨A, c, rfl, l3, g3⟩, ⟨[_], _, rfl, rfl, ⟨[_], _, rfl, rfl, ⟨[_], _, rfl, rfl, ⟨[_], _, rfl, rfl, ⟨[_], [_], rfl, rfl, rfl⟩⟩⟩⟩⟩⟩⟩⟩⟩
theorem kCh_openF {W : World} {ok : Nat → Prop} {x : Ch} {cs : List Value} (h : Kd.FK kCh W ok x cs) : ∃ v, cs = chCells x v ∧ Dt W ok v x.dt := by
  obtain ⟨A3, c3, rfl, l3, _⟩ := kCh_open (Kd.FK_now h)
  exact ⟨_, rfl, A3, c3, rfl, l3, fun W' hW => by
    obtain ⟨A3_, c3_, he, l3_, g3_⟩ := kCh_open (h W' hW)
    injection (Option.some.inj (show some (Value.slice A3 (byN x.dt).length c3) = some (Value.slice A3_ (byN x.dt).length c3_) from congrArg (fun l => l[3]?) he)) with ha_ _ _
    rw [ha_]; exact g3_⟩
theorem kCh_mkF {W : World} {ok : Nat → Prop} {x : Ch} {v : Value} (h : Dt W ok v x.dt) : Kd.FK kCh W ok x (chCells x v) := by
  obtain ⟨A, c, rfl, hl, hf⟩ := h
  exact fun W2 hW => kCh_mk W2 x hl (hf W2 hW)

/-- '[]byte(s)', read. -/
theorem bytes_V (W : World) (l : List UInt8) (ok : Nat → Prop) (hl : l.length ≤ 1000000) (c : Nat) (hc : l.length ≤ c) (hok : ok W.heap.size) : Dt (Lib.bytesWorld W 5 (mkS l)) ok (.slice (some ⟨W.heap.size, 0, none⟩) l.length c) l := by
  refine ⟨_, c, by rw [byN_length], by rw [byN_length]; exact hc, fun W' hW => ?_⟩
  refine Kd.C_of_reads (enc := Value.int .u8) (d := (0 : Int)) (h1 := fun _ => rfl) ?_
  have h := bytes_reads W 5 (mkS l) (by rw [mkS_size]; omega)
  have hb := hW W.heap.size hok (by rw [Lib.bytesWorld_size]; omega)
  rw [byN_length]
  rw [mkS_size] at h
  refine ⟨h.1, h.2.1, fun hn => ?_⟩
  obtain ⟨ad, e, hcell⟩ := h.2.2 hn
  injection e with e
  subst e
  refine ⟨_, rfl, fun j hj => ?_⟩
  have := hcell j hj
  rw [add_plain] at this ⊢
  rw [World.cell?] at this ⊢
  rw [hb]
  exact this
theorem Dt_string {W : World} {ok : Nat → Prop} {v : Value} {l : List UInt8} (h : Dt W ok v l) : (convert 35 9 v).run Tryd.prog W = .ok (.string (mkS l)) W := by
  obtain ⟨A, c, rfl, _, hf⟩ := h
  rw [Kd.C_string (P := Tryd.prog) (c := c) Tryd.underlying35 Tryd.underlying5 Tryd.underlying9 (Kd.F_now hf), byN_str]

/-- A field's text. -/
def wordC (x : Ch) : Nat → List UInt8
  | 0 => textB x.bk
  | 1 => textB x.ky
  | 2 => textB x.dt
  | 3 => Lib.itoa x.n
  | 4 => Lib.itoa x.a
  | 5 => textB x.pf
  | 6 => textB x.fr
  | 7 => Lib.itoa x.fi
  | _ => Lib.itoa x.mo

set_option maxHeartbeats 4000000 in
theorem word_is (x : Ch) (f : Nat) (hf : f ≤ 8) (v : Value) (ok : Nat → Prop) (w : World) (hx : x.Ok 65536) (hv : Dt w ok v x.dt) (hE : Env w) :
    Calls Tryd.prog 28 #[.agg (chCells x v).toArray, .int .i64 f] w fun e w' => e = .returned (.string (mkS (wordC x f))) ∧ Below w.heap.size w w' := by
  have HE := Lib.hid hE; clear hE
  have hcv : ∀ o, (convert 35 9 v).run Tryd.prog (w.alloc o) = .ok (.string (mkS x.dt)) (w.alloc o) := fun o => Dt_string (Kd.V_alloc hv o)
  have HX := Lib.hid hx; clear hx
  have HV := Lib.hid hv; clear hv
  have hb : ∀ o, Below w.heap.size w (w.alloc o) := fun o => (Below.refl _ _).alloc (Nat.le_refl _) o
  have HB := Lib.hid hb; clear hb
  obtain ⟨d, bk, ky, dt, n, a, pf, fr, fi, mo⟩ := x
  unfold chCells
  match f, hf with
  | 0, _ =>
    go_enter Tryd.func28, Tryd.ntmps28
    go_wp2_with (go_at_call 40; refine (ptext_is _ _ HX.out.bk).mono ?_; rintro e w' ⟨rfl, hb⟩)
    go_ret
    exact ⟨rfl, (HB.out _).trans (hb.mono (HB.out _).size)⟩
  | 1, _ =>
    go_enter Tryd.func28, Tryd.ntmps28
    go_wp2_with (go_at_call 40; refine (ptext_is _ _ HX.out.ky).mono ?_; rintro e w' ⟨rfl, hb⟩)
    go_ret
    exact ⟨rfl, (HB.out _).trans (hb.mono (HB.out _).size)⟩
  | 2, _ =>
    go_enter Tryd.func28, Tryd.ntmps28
    go_wp2_with (go_at_call 40; refine (ptext_is _ _ HX.out.dt).mono ?_; rintro e w' ⟨rfl, hb⟩)
    go_ret
    exact ⟨rfl, (HB.out _).trans (hb.mono (HB.out _).size)⟩
  | 3, _ =>
    go_enter Tryd.func28, Tryd.ntmps28
    go_wp2_with (go_at_call 41; refine (itoa_is _ _ HX.out.n.1 HX.out.n.2 (HE.out.below (HB.out _))).mono ?_; rintro e w' ⟨rfl, hb⟩)
    go_ret
    exact ⟨rfl, (HB.out _).trans (hb.mono (HB.out _).size)⟩
  | 4, _ =>
    go_enter Tryd.func28, Tryd.ntmps28
    go_wp2_with (go_at_call 41; refine (itoa_is _ _ HX.out.a.1 HX.out.a.2 (HE.out.below (HB.out _))).mono ?_; rintro e w' ⟨rfl, hb⟩)
    go_ret
    exact ⟨rfl, (HB.out _).trans (hb.mono (HB.out _).size)⟩
  | 5, _ =>
    go_enter Tryd.func28, Tryd.ntmps28
    go_wp2_with (go_at_call 40; refine (ptext_is _ _ HX.out.pf).mono ?_; rintro e w' ⟨rfl, hb⟩)
    go_ret
    exact ⟨rfl, (HB.out _).trans (hb.mono (HB.out _).size)⟩
  | 6, _ =>
    go_enter Tryd.func28, Tryd.ntmps28
    go_wp2_with (go_at_call 40; refine (ptext_is _ _ HX.out.fr).mono ?_; rintro e w' ⟨rfl, hb⟩)
    go_ret
    exact ⟨rfl, (HB.out _).trans (hb.mono (HB.out _).size)⟩
  | 7, _ =>
    go_enter Tryd.func28, Tryd.ntmps28
    go_wp2_with (go_at_call 41; refine (itoa_is _ _ HX.out.fi.1 HX.out.fi.2 (HE.out.below (HB.out _))).mono ?_; rintro e w' ⟨rfl, hb⟩)
    go_ret
    exact ⟨rfl, (HB.out _).trans (hb.mono (HB.out _).size)⟩
  | 8, _ =>
    go_enter Tryd.func28, Tryd.ntmps28
    go_wp2_with (go_at_call 41; refine (itoa_is _ _ HX.out.mo.1 HX.out.mo.2 (HE.out.below (HB.out _))).mono ?_; rintro e w' ⟨rfl, hb⟩)
    go_ret
    exact ⟨rfl, (HB.out _).trans (hb.mono (HB.out _).size)⟩
end Go.Proofs.YtghllfihmmlcnaaDoor

/- set and count of package script: a field of a choice in memory. -/
namespace Go.Proofs.YtghllfihmmlcnaaDoor
open Go.RowKit Nam YtghllfihmmlcnaaDoorW.PrintWords

/-- A choice of the call's own in block g; its bytes lie elsewhere. -/
def Box (w : World) (g : Nat) (P : Nat → Prop) (x : Ch) : Prop := ∃ v, w.heap[g]? = some (.cells (chCells x v).toArray 44 (0, 0)) ∧ Dt w (fun k => P k ∧ k ≠ g) v x.dt
/-- A field is set as it was written; none: so none is written. -/
def setC (x : Ch) (f : Nat) (s : List UInt8) : Option Ch :=
  match f with
  | 0 => if (readB s).2 then some { x with bk := (readB s).1 } else none
  | 1 => if (readB s).2 then some { x with ky := (readB s).1 } else none
  | 2 => if (readB s).2 then some { x with dt := (readB s).1 } else none
  | 3 => (numOf s).map fun v => { x with n := v }
  | 4 => (numOf s).map fun v => { x with a := v }
  | 5 => if (readB s).2 then some { x with pf := (readB s).1 } else none
  | 6 => if (readB s).2 then some { x with fr := (readB s).1 } else none
  | 7 => (numOf s).map fun v => { x with fi := v }
  | _ => (numOf s).map fun v => { x with mo := v }
def SetIs (x : Ch) (f : Nat) (s : List UInt8) (w : World) (g : Nat) (P : Nat → Prop) (e : Ending) (w' : World) : Prop :=
  ∃ y, e = .returned (.bool (setC x f s).isSome) ∧ (∀ z, setC x f s = some z → y = z) ∧ Box w' g P y ∧ w.grownBy w' (some g) ∧ (∀ m, x.Ok m → s.length ≤ m → y.Ok m)

theorem unp_le : ∀ (s m : List UInt8), unp s = some m → m.length ≤ s.length
  | [], m, h => by simp only [unp, Option.some.injEq] at h; subst h; exact Nat.le_refl _
  | [_], m, h => by simp [unp] at h
  | x :: y :: t, m, h => by
    simp only [unp] at h
    split at h
    · cases h
    · cases ht : unp t with
      | none => rw [ht] at h; cases h
      | some z =>
        rw [ht] at h
        simp only [Option.map_some, Option.some.injEq] at h
        subst h
        have := unp_le t z ht
        simp; omega
theorem readB_le (s : List UInt8) : (readB s).1.length ≤ s.length := by
  unfold readB
  split
  · exact Nat.zero_le _
  · cases h : unp s with
    | none => exact Nat.zero_le _
    | some m => exact unp_le s m h

theorem grown_set {w w1 : World} (hb : Below w.heap.size w w1) (g j : Nat) (u : Value) : w.grownBy (w1.setCell ⟨g, j, none⟩ u) (some g) :=
  ⟨hb.os, hb.tape, hb.output, by rw [show (w1.setCell ⟨g, j, none⟩ u).heap.size = w1.heap.size by simp [World.setCell]]; exact hb.size, fun k hk hne => by
    rw [Below.heap_setCell w1 _ u k (fun e => hne (by rw [e]))]
    exact hb.block k hk⟩
theorem box_set {w w1 : World} {g : Nat} {P : Nat → Prop} {x y : Ch} {v : Value} (hb : Below w.heap.size w w1) (h1 : w.heap[g]? = some (.cells (chCells x v).toArray 44 (0, 0))) (h2 : Dt w (fun k => P k ∧ k ≠ g) v x.dt) (j : Nat) (u : Value)
    (e : (chCells x v).toArray.setIfInBounds j u = (chCells y v).toArray) (hd : y.dt = x.dt) : Box (w1.setCell ⟨g, j, none⟩ u) g P y :=
  ⟨v, blk_put (blk_below h1 hb) j u e, by rw [hd]; exact Kd.V_far (Kd.V_below h2 hb) (p := ⟨g, j, none⟩) (fun _ hk => hk.2) u⟩

set_option maxHeartbeats 4000000 in
theorem count_is (x : Ch) (f : Nat) (hf : f = 3 ∨ f = 4 ∨ f = 7 ∨ f = 8) (s : List UInt8) (g : Nat) (P : Nat → Prop) (w : World) (hb : Box w g P x) (hs : s.length ≤ 65536) (hE : Env w) :
    Calls Tryd.prog 43 #[.pointer (some ⟨g, 0, none⟩), .int .i64 f, .string (mkS s)] w (SetIs x f s w g P) := by
  have hnum : ∀ (n : Int) (w1 : World) (y : Ch) (b : Bool), b = (numOf s).isSome → (∀ v, numOf s = some v → n = v) → setC x f s = (numOf s).map (fun _ => y) → Box w1 g P y → w.grownBy w1 (some g) → (∀ m, x.Ok m → y.Ok m) → SetIs x f s w g P (.returned (.bool b)) w1 := by
    intro n w1 y b hbe hn hset hbox hgr hok
    refine ⟨y, ?_, fun z hz => ?_, hbox, hgr, fun m h1 _ => hok m h1⟩
    · rw [hset, hbe, Option.isSome_map]
    · rw [hset] at hz
      cases hh : numOf s with
      | none => rw [hh] at hz; cases hz
      | some v => rw [hh] at hz; injection hz
  have HN := Lib.hid hnum; clear hnum
  obtain ⟨v, hblk, hdt⟩ := hb
  have c4 := blk_cell hblk 4
  have HBL := Lib.hid hblk; clear hblk
  have HD := Lib.hid hdt; clear hdt
  have HE := Lib.hid hE; clear hE
  have key : ∀ (n : Int) (hn : ∀ v, numOf s = some v → n = v) (f' : Nat → Int → Ch → Ch), True := fun _ _ _ => trivial
  clear key c4
  rcases hf with rfl | rfl | rfl | rfl
  all_goals
    go_enter Tryd.func43, Tryd.ntmps43
    go_wp2_with fail
    refine (preadnumber_is s _ hs HE.out).mono ?_
    rintro e w1 ⟨⟨n, rfl, hn, hn0, hn1⟩, hb1⟩
    have HNN := Lib.hid hn; clear hn
    have hb2 := blk_below HBL.out hb1
    have c4 := (blk_cell hb2 4).trans rfl
    have c5 := (blk_cell hb2 5).trans rfl
    have c8 := (blk_cell hb2 8).trans rfl
    have c9 := (blk_cell hb2 9).trans rfl
    have f4 := blk_frozen hb2 4
    have f5 := blk_frozen hb2 5
    have f8 := blk_frozen hb2 8
    have f9 := blk_frozen hb2 9
    have HB1 := Lib.hid hb1; clear hb1 hb2
    go_wp2
    go_ret
  · exact HN.out n _ { x with n := n } _ rfl HNN.out (by unfold setC; cases h : numOf s with | none => rfl | some v => rw [HNN.out v h]; rfl) (box_set HB1.out HBL.out HD.out 4 _ rfl rfl) (grown_set HB1.out g 4 _) (fun m h => { h with n := ⟨hn0, hn1⟩ })
  · exact HN.out n _ { x with a := n } _ rfl HNN.out (by unfold setC; cases h : numOf s with | none => rfl | some v => rw [HNN.out v h]; rfl) (box_set HB1.out HBL.out HD.out 5 _ rfl rfl) (grown_set HB1.out g 5 _) (fun m h => { h with a := ⟨hn0, hn1⟩ })
  · exact HN.out n _ { x with fi := n } _ rfl HNN.out (by unfold setC; cases h : numOf s with | none => rfl | some v => rw [HNN.out v h]; rfl) (box_set HB1.out HBL.out HD.out 8 _ rfl rfl) (grown_set HB1.out g 8 _) (fun m h => { h with fi := ⟨hn0, hn1⟩ })
  · exact HN.out n _ { x with mo := n } _ rfl HNN.out (by unfold setC; cases h : numOf s with | none => rfl | some v => rw [HNN.out v h]; rfl) (box_set HB1.out HBL.out HD.out 9 _ rfl rfl) (grown_set HB1.out g 9 _) (fun m h => { h with mo := ⟨hn0, hn1⟩ })
end Go.Proofs.YtghllfihmmlcnaaDoor

/- set of package script. -/
namespace Go.Proofs.YtghllfihmmlcnaaDoor
open Go.RowKit Nam YtghllfihmmlcnaaDoorW.PrintWords

theorem setC_text {x : Ch} {s : List UInt8} {f : Nat} {y : Ch} (h : setC x f s = if (readB s).2 then some y else none) : (setC x f s).isSome = (readB s).2 ∧ ∀ z, setC x f s = some z → y = z := by
  rw [h]
  cases (readB s).2
  · exact ⟨rfl, fun z hz => by simp at hz⟩
  · exact ⟨rfl, fun z hz => by simpa using hz⟩

set_option maxHeartbeats 4000000 in
theorem set_is (x : Ch) (f : Nat) (hf : f ≤ 8) (s : List UInt8) (g : Nat) (P : Nat → Prop) (w : World) (hb : Box w g P x) (hs : s.length ≤ 65536) (hP : ∀ k, w.heap.size ≤ k → P k) (hE : Env w) :
    Calls Tryd.prog 29 #[.pointer (some ⟨g, 0, none⟩), .int .i64 f, .string (mkS s)] w (SetIs x f s w g P) := by
  have HP := Lib.hid hP; clear hP
  have hle := readB_le s
  obtain ⟨t, b, hr⟩ : ∃ t b, readB s = (t, b) := ⟨_, _, rfl⟩
  have htx : ∀ y : Ch, setC x f s = (if (readB s).2 then some y else none) → (setC x f s).isSome = b ∧ ∀ z, setC x f s = some z → y = z := fun y hy => by
    have := setC_text hy
    rw [hr] at this
    exact this
  rw [hr] at hle
  simp only [] at hle
  have HTX := Lib.hid htx; clear htx
  have HR := Lib.hid hr; clear hr
  have HE := Lib.hid hE; clear hE
  have HBX := Lib.hid hb
  obtain ⟨v, hblk, hdt⟩ := hb
  have hgl : g < w.heap.size := blk_lt hblk
  have HBL := Lib.hid hblk; clear hblk
  have HD := Lib.hid hdt; clear hdt
  by_cases hnum : f = 3 ∨ f = 4 ∨ f = 7 ∨ f = 8
  · have HCT := fun w1 (hb1 : Below w.heap.size w w1) => count_is x f hnum s g P w1 ⟨v, blk_below HBL.out hb1, Kd.V_below HD.out hb1⟩ hs (HE.out.below hb1)
    have HC := Lib.hid HCT; clear HCT
    have h3 : (f : Int) ≠ 0 ∧ (f : Int) ≠ 1 ∧ (f : Int) ≠ 2 ∧ (f : Int) ≠ 5 ∧ (f : Int) ≠ 6 := by omega
    obtain ⟨q0, q1, q2, q5, q6⟩ := h3
    have b0 : ((f : Int) == 0) = false := beq_eq_false_iff_ne.2 q0
    have b1 : ((f : Int) == 1) = false := beq_eq_false_iff_ne.2 q1
    have b2 : ((f : Int) == 2) = false := beq_eq_false_iff_ne.2 q2
    have b5 : ((f : Int) == 5) = false := beq_eq_false_iff_ne.2 q5
    have b6 : ((f : Int) == 6) = false := beq_eq_false_iff_ne.2 q6
    clear q0 q1 q2 q5 q6 hnum
    go_enter Tryd.func29, Tryd.ntmps29
    go_wp2_with fail
    refine (preadtext_is s _ hs).mono ?_
    rintro e w1 ⟨rfl, hb1⟩
    have HB1 := Lib.hid hb1; clear hb1
    go_wp2_with fail
    refine (HC.out _ HB1.out).mono ?_
    rintro e w2 ⟨y, rfl, hy, hbox, hg2, hok⟩
    have HY := Lib.hid hy; clear hy
    have HBo := Lib.hid hbox; clear hbox
    have HOK := Lib.hid hok; clear hok
    go_wp2
    go_ret
    exact ⟨y, rfl, HY.out, HBo.out, ⟨hg2.os.trans HB1.out.os, hg2.tape.trans HB1.out.tape, hg2.output.trans HB1.out.output, Nat.le_trans HB1.out.size hg2.size, fun k hk hne => (hg2.block k (Nat.lt_of_lt_of_le hk HB1.out.size) hne).trans (HB1.out.block k hk)⟩, HOK.out⟩
  · by_cases h2 : f = 2
    · subst h2
      clear hnum hf
      have kb := fun W => print_bytes (P := Tryd.prog) 9 35 5 Tryd.underlying9 Tryd.underlying35 Tryd.underlying5 (mkS t) W
      go_enter Tryd.func29, Tryd.ntmps29
      go_wp2_with fail
      refine (preadtext_is s _ hs).mono ?_
      rintro e w1 ⟨rfl, hb1⟩
      rw [HR.out]
      simp only []
      have hbw : Below w.heap.size w (Lib.bytesWorld w1 5 (mkS t)) := bytes_below hb1 hb1.size _ _
      have hbk := blk_below HBL.out hbw
      have c3 := (blk_cell hbk 3).trans (rfl : _ = some v)
      have f3 := blk_frozen hbk 3
      have HBK := Lib.hid hbk; clear hbk
      have hge := grownCap_ge w1 (mkS t).size 0 5
      have HGE := Lib.hid hge; clear hge
      have hsz1 := hb1.size
      have HB1 := Lib.hid hb1; clear hb1
      have HBW := Lib.hid hbw; clear hbw
      go_wp2
      go_ret
      have h := HTX.out { x with dt := t } (by simp only [setC, HR.out])
      refine ⟨{ x with dt := t }, by rw [h.1]; rfl, h.2, ⟨.slice (some ⟨w1.heap.size, 0, none⟩) (mkS t).size (grownCap w1 (mkS t).size 0 5), ?_, ?_⟩, grown_set HBW.out g 3 _, fun m h1 h2 => { h1 with dt := Nat.le_trans hle h2 }⟩
      · exact blk_put HBK.out 3 _ rfl
      · refine Kd.V_far (p := ⟨g, 3, none⟩) ?_ (fun _ hk => hk.2) _
        have hge := HGE.out
        rw [mkS_size] at hge ⊢
        exact bytes_V w1 t _ (by omega) _ hge ⟨HP.out _ hsz1, by omega⟩
    · have hf' : f = 0 ∨ f = 1 ∨ f = 5 ∨ f = 6 := by omega
      clear hnum h2 hf
      rcases hf' with rfl | rfl | rfl | rfl
      all_goals
        go_enter Tryd.func29, Tryd.ntmps29
        go_wp2_with fail
        refine (preadtext_is s _ hs).mono ?_
        rintro e w1 ⟨rfl, hb1⟩
        rw [HR.out]
        simp only []
        have hbk := blk_below HBL.out hb1
        have c1 := (blk_cell hbk 1).trans (rfl : _ = some (Value.string (mkS x.bk)))
        have c2 := (blk_cell hbk 2).trans (rfl : _ = some (Value.string (mkS x.ky)))
        have c6 := (blk_cell hbk 6).trans (rfl : _ = some (Value.string (mkS x.pf)))
        have c7 := (blk_cell hbk 7).trans (rfl : _ = some (Value.string (mkS x.fr)))
        have f1 := blk_frozen hbk 1
        have f2 := blk_frozen hbk 2
        have f6 := blk_frozen hbk 6
        have f7 := blk_frozen hbk 7
        have HB1 := Lib.hid hb1; clear hb1 hbk
        go_wp2
        go_ret
      · have h := HTX.out { x with bk := t } (by simp only [setC, HR.out])
        exact ⟨{ x with bk := t }, by rw [h.1]; rfl, h.2, box_set HB1.out HBL.out HD.out 1 _ rfl rfl, grown_set HB1.out g 1 _, fun m h1 h2 => { h1 with bk := Nat.le_trans hle h2 }⟩
      · have h := HTX.out { x with ky := t } (by simp only [setC, HR.out])
        exact ⟨{ x with ky := t }, by rw [h.1]; rfl, h.2, box_set HB1.out HBL.out HD.out 2 _ rfl rfl, grown_set HB1.out g 2 _, fun m h1 h2 => { h1 with ky := Nat.le_trans hle h2 }⟩
      · have h := HTX.out { x with pf := t } (by simp only [setC, HR.out])
        exact ⟨{ x with pf := t }, by rw [h.1]; rfl, h.2, box_set HB1.out HBL.out HD.out 6 _ rfl rfl, grown_set HB1.out g 6 _, fun m h1 h2 => { h1 with pf := Nat.le_trans hle h2 }⟩
      · have h := HTX.out { x with fr := t } (by simp only [setC, HR.out])
        exact ⟨{ x with fr := t }, by rw [h.1]; rfl, h.2, box_set HB1.out HBL.out HD.out 7 _ rfl rfl, grown_set HB1.out g 7 _, fun m h1 h2 => { h1 with fr := Nat.le_trans hle h2 }⟩
end Go.Proofs.YtghllfihmmlcnaaDoor

/- A choice's line, plainly. -/
namespace Go.Proofs.YtghllfihmmlcnaaDoor
open Go.RowKit Nam YtghllfihmmlcnaaDoorW.PrintWords PScriptPrints

/-- A line's word, and its fields: 0 bucket, 1 key, 2 data, 3 N, 4 At, 5 prefix, 6 from, 7 FromID, 8 Most. -/
def formC (d : Int) : List UInt8 × List Nat :=
  if d = 1 then ([109, 97, 107, 101], [0]) else if d = 2 then ([114, 101, 109, 111, 118, 101], [0]) else if d = 3 then ([98, 117, 99, 107, 101, 116, 115], [])
  else if d = 4 then ([112, 117, 116], [0, 1, 2]) else if d = 5 then ([103, 101, 116], [0, 1, 3]) else if d = 6 then ([104, 101, 97, 100], [0, 1, 3])
  else if d = 7 then ([100, 101, 108, 101, 116, 101], [0, 1]) else if d = 8 then ([101, 114, 97, 115, 101], [0, 1, 3]) else if d = 9 then ([111, 98, 106, 101, 99, 116, 115], [0, 5, 6, 8])
  else if d = 10 then ([118, 101, 114, 115, 105, 111, 110, 115], [0, 5, 6, 7, 8]) else if d = 11 then ([104, 101, 97, 108], []) else if d = 12 then ([111, 102, 102, 108, 105, 110, 101], [3])
  else if d = 13 then ([111, 110, 108, 105, 110, 101], [3]) else if d = 14 then ([119, 105, 112, 101], [3]) else if d = 15 then ([102, 108, 105, 112], [3, 4, 2])
  else if d = 16 then ([102, 97, 105, 108], [3, 4]) else if d = 17 then ([102, 117, 115, 101], [3]) else if d = 18 then ([99, 114, 97, 115, 104], [4])
  else if d = 19 then ([115, 116, 97, 114, 116], []) else ([], [])
theorem form_f (d : Int) : script_form.f d = some (mkS (formC d).1, (formC d).2.map fun f : Nat => (f : Int)) := by
  by_cases h1 : 1 ≤ d ∧ d ≤ 19
  · obtain ⟨n, hn⟩ : ∃ n : Nat, d = n := ⟨d.toNat, by omega⟩
    subst hn
    have key : ∀ n : Fin 20, script_form.f (n.val : Int) = some (mkS (formC (n.val : Int)).1, (formC (n.val : Int)).2.map fun f : Nat => (f : Int)) := by decide
    exact key ⟨n, by omega⟩
  · unfold script_form.f formC
    iterate 19 rw [if_neg (by omega)]
    iterate 19 rw [if_neg (by omega)]
    rfl
theorem form_is (d : Int) (w : World) : Calls Tryd.prog 27 #[.int .i64 d] w fun e w' => ∃ v : Value, e = .returned (.tuple #[.string (mkS (formC d).1), v]) ∧ Kd.R (Kd.int .i64) 3 w' w.heap.size (fun _ => True) v ((formC d).2.map fun f : Nat => (f : Int)) ∧ Below w.heap.size w w' :=
  script_form.calls d _ _ w (form_f d)
theorem form_cases (d : Int) (P : List UInt8 × List Nat → Prop) (h : ∀ n : Fin 20, P (formC (n.val : Int))) (h0 : P ([], [])) : P (formC d) := by
  by_cases h1 : 1 ≤ d ∧ d ≤ 19
  · obtain ⟨n, hn⟩ : ∃ n : Nat, d = n := ⟨d.toNat, by omega⟩
    subst hn
    exact h ⟨n, by omega⟩
  · have e : formC d = ([], []) := by
      unfold formC
      iterate 19 rw [if_neg (by omega)]
    rw [e]; exact h0
theorem form_le (d : Int) : ∀ f ∈ (formC d).2, f ≤ 8 := form_cases d (fun p => ∀ f ∈ p.2, f ≤ 8) (by decide) (by simp)
theorem form_len (d : Int) : (formC d).2.length ≤ 5 ∧ (formC d).1.length ≤ 8 := form_cases d (fun p => p.2.length ≤ 5 ∧ p.1.length ≤ 8) (by decide) (by decide)

/-- A field as the other has it. -/
def putC (x y : Ch) (f : Nat) : Ch :=
  match f with
  | 0 => { y with bk := x.bk }
  | 1 => { y with ky := x.ky }
  | 2 => { y with dt := x.dt }
  | 3 => { y with n := x.n }
  | 4 => { y with a := x.a }
  | 5 => { y with pf := x.pf }
  | 6 => { y with fr := x.fr }
  | 7 => { y with fi := x.fi }
  | _ => { y with mo := x.mo }
def bareC (d : Int) : Ch := ⟨d, [], [], [], 0, 0, [], [], 0, 0⟩
def onlyC (x : Ch) (fs : List Nat) : Ch := fs.foldl (putC x) (bareC x.d)
def lineC (x : Ch) (fs : List Nat) : List UInt8 := fs.flatMap fun f => 32 :: wordC x f
/-- A choice's line; none: it has none. -/
def textC (x : Ch) : Option (List UInt8) :=
  if (formC x.d).1 = [] then none else if onlyC x (formC x.d).2 = x then some ((formC x.d).1 ++ lineC x (formC x.d).2) else none

theorem readB_textB (l : List UInt8) : readB (textB l) = (l, true) := by
  unfold textB readB
  by_cases h : l = []
  · subst h; rfl
  · rw [if_neg h]
    have h1 : pathB l ≠ [46] := fun e => by
      have := congrArg List.length e
      rw [pathB_length] at this
      simp at this
      omega
    rw [if_neg h1, unp_path]
    simp [h]
theorem setC_word (x y : Ch) (hx : x.Ok 65536) (f : Nat) : setC y f (wordC x f) = some (putC x y f) := by
  unfold setC wordC putC
  split <;> simp only [readB_textB, if_true, numOf_itoa _ hx.n.1 hx.n.2, numOf_itoa _ hx.a.1 hx.a.2, numOf_itoa _ hx.fi.1 hx.fi.2, numOf_itoa _ hx.mo.1 hx.mo.2, Option.map_some]

theorem textB_le (l : List UInt8) : (textB l).length ≤ 2 * l.length + 1 := by
  unfold textB
  split
  · simp
  · rw [pathB_length]; omega
theorem wordC_le (x : Ch) (m : Nat) (hx : x.Ok m) (f : Nat) : (wordC x f).length ≤ 2 * m + 21 := by
  have hb := hx.bk
  have hk := hx.ky
  have hd := hx.dt
  have hp := hx.pf
  have hr := hx.fr
  have ht := textB_le x.bk
  have ht2 := textB_le x.ky
  have ht3 := textB_le x.dt
  have ht4 := textB_le x.pf
  have ht5 := textB_le x.fr
  unfold wordC
  split
  · omega
  · omega
  · omega
  · have := Lib.itoa_length_le x.n hx.n.1 hx.n.2; omega
  · have := Lib.itoa_length_le x.a hx.a.1 hx.a.2; omega
  · omega
  · omega
  · have := Lib.itoa_length_le x.fi hx.fi.1 hx.fi.2; omega
  · have := Lib.itoa_length_le x.mo hx.mo.1 hx.mo.2; omega
theorem onlyC_snoc (x : Ch) (fs : List Nat) (f : Nat) : onlyC x (fs ++ [f]) = putC x (onlyC x fs) f := by unfold onlyC; rw [List.foldl_append]; rfl
theorem lineC_snoc (x : Ch) (fs : List Nat) (f : Nat) : lineC x (fs ++ [f]) = lineC x fs ++ 32 :: wordC x f := by unfold lineC; rw [List.flatMap_append]; simp
theorem onlyC_d (x : Ch) (fs : List Nat) : (onlyC x fs).d = x.d := by
  unfold onlyC
  have key : ∀ (fs : List Nat) (y : Ch), y.d = x.d → (fs.foldl (putC x) y).d = x.d := by
    intro fs
    induction fs with
    | nil => intro y h; exact h
    | cons f t ih =>
      intro y h
      refine ih _ ?_
      unfold putC
      split <;> exact h
  exact key fs _ rfl
theorem lineC_le (x : Ch) (m : Nat) (hx : x.Ok m) (fs : List Nat) : (lineC x fs).length ≤ fs.length * (2 * m + 22) := by
  induction fs with
  | nil => exact Nat.zero_le _
  | cons f t ih =>
    have := wordC_le x m hx f
    unfold lineC at ih ⊢
    rw [List.flatMap_cons, List.length_append, List.length_cons, List.length_cons, Nat.add_mul]
    omega
end Go.Proofs.YtghllfihmmlcnaaDoor
