/- A life's choices: their cells, and what they lead to; word, set and count of package script. -/
import Derived.Test.YtghllfihmmlcnaaDoorScrE
import Derived.Test.YtghllfihmmlcnaaDoorWN
import Derived.Test.YtghllfihmmlcnaaDoorWNEv
import Derived.Test.YtghllfihmmlcnaaDoorWKept
import Derived.Test.YtghllfihmmlcnaaDoorWShare
import Derived.Test.YtghllfihmmlcnaaDoorWFoot
namespace Go.Proofs.YtghllfihmmlcnaaDoor
open Go.RowKit Nam YtghllfihmmlcnaaDoorW.PrintWords

/-- A choice. -/
structure Ch where
  d : Int
  bk : List UInt8
  ky : List UInt8
  dt : List UInt8
  n : Int
  a : Int
  pf : List UInt8
  fr : List UInt8
  fi : Int
  mo : Int
deriving DecidableEq

/-- Its numbers are ints, its texts are short. -/
structure Ch.Ok (x : Ch) (m : Nat) : Prop where
  d : -9223372036854775808 ≤ x.d ∧ x.d ≤ 9223372036854775807
  n : -9223372036854775808 ≤ x.n ∧ x.n ≤ 9223372036854775807
  a : -9223372036854775808 ≤ x.a ∧ x.a ≤ 9223372036854775807
  fi : -9223372036854775808 ≤ x.fi ∧ x.fi ≤ 9223372036854775807
  mo : -9223372036854775808 ≤ x.mo ∧ x.mo ≤ 9223372036854775807
  bk : x.bk.length ≤ m
  ky : x.ky.length ≤ m
  dt : x.dt.length ≤ m
  pf : x.pf.length ≤ m
  fr : x.fr.length ≤ m

def byN (l : List UInt8) : List Int := bytesOf (mkS l)
theorem byN_length (l : List UInt8) : (byN l).length = l.length := by unfold byN; rw [bytesOf_length, mkS_size]
theorem byN_str (l : List UInt8) : strOfNums (byN l) = mkS l := by
  apply ByteArray.ext
  apply Array.toList_inj.1
  rw [strOfNums_data]
  unfold byN bytesOf
  rw [List.map_map, mkS_list]
  conv => rhs; rw [← List.map_id l]
  apply List.map_congr_left
  intro c _
  simp
def chCells (x : Ch) (v : Value) : List Value := [.int .i64 x.d, .string (mkS x.bk), .string (mkS x.ky), v, .int .i64 x.n, .int .i64 x.a, .string (mkS x.pf), .string (mkS x.fr), .int .i64 x.fi, .int .i64 x.mo]
def kCh : Kd Ch := Kd.iso (Kd.pair (Kd.int .i64) (Kd.pair Kd.string (Kd.pair Kd.string (Kd.pair (Kd.slice 5 (Kd.int .u8)) (Kd.pair (Kd.int .i64) (Kd.pair (Kd.int .i64) (Kd.pair Kd.string (Kd.pair Kd.string (Kd.pair (Kd.int .i64) (Kd.int .i64)))))))))) (fun x : Ch => (x.d, mkS x.bk, mkS x.ky, byN x.dt, x.n, x.a, mkS x.pf, mkS x.fr, x.fi, x.mo))
abbrev Dt (W : World) (ok : Nat → Prop) (v : Value) (l : List UInt8) : Prop := Kd.V (Kd.int .u8) 5 W 0 ok v (byN l)
theorem kCh_open {w : World} {x : Ch} {cs : List Value} (h : kCh.K w x cs) : ∃ A c, cs = chCells x (.slice A (byN x.dt).length c) ∧ (byN x.dt).length ≤ c ∧ (Kd.int .u8).C w A (byN x.dt).length (byN x.dt) := by
  obtain ⟨_, _, rfl, rfl, ⟨_, _, rfl, rfl, ⟨_, _, rfl, rfl, ⟨_, _, rfl, ⟨A3, c3, rfl, l3, g3⟩, ⟨_, _, rfl, rfl, ⟨_, _, rfl, rfl, ⟨_, _, rfl, rfl, ⟨_, _, rfl, rfl, ⟨_, _, rfl, rfl, rfl⟩⟩⟩⟩⟩⟩⟩⟩⟩ := h
  exact ⟨A3, c3, rfl, l3, g3⟩
theorem kCh_mk (w : World) (x : Ch) {A : Option Addr} {c : Nat} (l3 : (byN x.dt).length ≤ c) (g3 : (Kd.int .u8).C w A (byN x.dt).length (byN x.dt)) : kCh.K w x (chCells x (.slice A (byN x.dt).length c)) :=
  ⟨[_], _, rfl, rfl, ⟨[_], _, rfl, rfl, ⟨[_], _, rfl, rfl, ⟨[_], _, rfl, ⟨A, c, rfl, l3, g3⟩, ⟨[_], _, rfl, rfl, ⟨[_], _, rfl, rfl, ⟨[_], _, rfl, rfl, ⟨[_], _, rfl, rfl, ⟨[_], [_], rfl, rfl, rfl⟩⟩⟩⟩⟩⟩⟩⟩⟩
theorem kCh_openF {W : World} {ok : Nat → Prop} {x : Ch} {cs : List Value} (h : Kd.FK kCh W ok x cs) : ∃ v, cs = chCells x v ∧ Dt W ok v x.dt := by
  obtain ⟨A3, c3, rfl, l3, _⟩ := kCh_open (Kd.FK_now h)
  exact ⟨_, rfl, A3, c3, rfl, l3, fun W' hW => by
    obtain ⟨A3_, c3_, he, l3_, g3_⟩ := kCh_open (h W' hW)
    injection (Option.some.inj (show some (Value.slice A3 (byN x.dt).length c3) = some (Value.slice A3_ (byN x.dt).length c3_) from congrArg (fun l => l[3]?) he)) with ha_ _ _
    rw [ha_]; exact g3_⟩
theorem kCh_mkF {W : World} {ok : Nat → Prop} {x : Ch} {v : Value} (h : Dt W ok v x.dt) : Kd.FK kCh W ok x (chCells x v) := by
  obtain ⟨A, c, rfl, hl, hf⟩ := h
  exact fun W2 hW => kCh_mk W2 x hl (hf W2 hW)

/-- '[]byte(s)', read. -/
theorem bytes_V (W : World) (l : List UInt8) (ok : Nat → Prop) (hl : l.length ≤ 1000000) (c : Nat) (hc : l.length ≤ c) (hok : ok W.heap.size) : Dt (Lib.bytesWorld W 5 (mkS l)) ok (.slice (some ⟨W.heap.size, 0, none⟩) l.length c) l := by
  refine ⟨_, c, by rw [byN_length], by rw [byN_length]; exact hc, fun W' hW => ?_⟩
  refine Kd.C_of_reads (enc := Value.int .u8) (d := (0 : Int)) (h1 := fun _ => rfl) ?_
  have h := bytes_reads W 5 (mkS l) (by rw [mkS_size]; omega)
  have hb := hW W.heap.size hok (by rw [Lib.bytesWorld_size]; omega)
  rw [byN_length]
  rw [mkS_size] at h
  refine ⟨h.1, h.2.1, fun hn => ?_⟩
  obtain ⟨ad, e, hcell⟩ := h.2.2 hn
  injection e with e
  subst e
  refine ⟨_, rfl, fun j hj => ?_⟩
  have := hcell j hj
  rw [add_plain] at this ⊢
  rw [World.cell?] at this ⊢
  rw [hb]
  exact this
theorem Dt_string {W : World} {ok : Nat → Prop} {v : Value} {l : List UInt8} (h : Dt W ok v l) : (convert 35 9 v).run Tryd.prog W = .ok (.string (mkS l)) W := by
  obtain ⟨A, c, rfl, _, hf⟩ := h
  rw [Kd.C_string (P := Tryd.prog) (c := c) Tryd.underlying35 Tryd.underlying5 Tryd.underlying9 (Kd.F_now hf), byN_str]

/-- A field's text. -/
def wordC (x : Ch) : Nat → List UInt8
  | 0 => textB x.bk
  | 1 => textB x.ky
  | 2 => textB x.dt
  | 3 => Lib.itoa x.n
  | 4 => Lib.itoa x.a
  | 5 => textB x.pf
  | 6 => textB x.fr
  | 7 => Lib.itoa x.fi
  | _ => Lib.itoa x.mo

set_option maxHeartbeats 4000000 in
theorem word_is (x : Ch) (f : Nat) (hf : f ≤ 8) (v : Value) (ok : Nat → Prop) (w : World) (hx : x.Ok 65536) (hv : Dt w ok v x.dt) (hE : Env w) :
    Calls Tryd.prog 28 #[.agg (chCells x v).toArray, .int .i64 f] w fun e w' => e = .returned (.string (mkS (wordC x f))) ∧ Below w.heap.size w w' := by
  have HE := Lib.hid hE; clear hE
  have hcv : ∀ o, (convert 35 9 v).run Tryd.prog (w.alloc o) = .ok (.string (mkS x.dt)) (w.alloc o) := fun o => Dt_string (Kd.V_alloc hv o)
  have HX := Lib.hid hx; clear hx
  have HV := Lib.hid hv; clear hv
  have hb : ∀ o, Below w.heap.size w (w.alloc o) := fun o => (Below.refl _ _).alloc (Nat.le_refl _) o
  have HB := Lib.hid hb; clear hb
  obtain ⟨d, bk, ky, dt, n, a, pf, fr, fi, mo⟩ := x
  unfold chCells
  match f, hf with
  | 0, _ =>
    go_enter Tryd.func28, Tryd.ntmps28
    go_wp2_with (go_at_call 40; refine (ptext_is _ _ HX.out.bk).mono ?_; rintro e w' ⟨rfl, hb⟩)
    go_ret
    exact ⟨rfl, (HB.out _).trans (hb.mono (HB.out _).size)⟩
  | 1, _ =>
    go_enter Tryd.func28, Tryd.ntmps28
    go_wp2_with (go_at_call 40; refine (ptext_is _ _ HX.out.ky).mono ?_; rintro e w' ⟨rfl, hb⟩)
    go_ret
    exact ⟨rfl, (HB.out _).trans (hb.mono (HB.out _).size)⟩
  | 2, _ =>
    go_enter Tryd.func28, Tryd.ntmps28
    go_wp2_with (go_at_call 40; refine (ptext_is _ _ HX.out.dt).mono ?_; rintro e w' ⟨rfl, hb⟩)
    go_ret
    exact ⟨rfl, (HB.out _).trans (hb.mono (HB.out _).size)⟩
  | 3, _ =>
    go_enter Tryd.func28, Tryd.ntmps28
    go_wp2_with (go_at_call 41; refine (itoa_is _ _ HX.out.n.1 HX.out.n.2 (HE.out.below (HB.out _))).mono ?_; rintro e w' ⟨rfl, hb⟩)
    go_ret
    exact ⟨rfl, (HB.out _).trans (hb.mono (HB.out _).size)⟩
  | 4, _ =>
    go_enter Tryd.func28, Tryd.ntmps28
    go_wp2_with (go_at_call 41; refine (itoa_is _ _ HX.out.a.1 HX.out.a.2 (HE.out.below (HB.out _))).mono ?_; rintro e w' ⟨rfl, hb⟩)
    go_ret
    exact ⟨rfl, (HB.out _).trans (hb.mono (HB.out _).size)⟩
  | 5, _ =>
    go_enter Tryd.func28, Tryd.ntmps28
    go_wp2_with (go_at_call 40; refine (ptext_is _ _ HX.out.pf).mono ?_; rintro e w' ⟨rfl, hb⟩)
    go_ret
    exact ⟨rfl, (HB.out _).trans (hb.mono (HB.out _).size)⟩
  | 6, _ =>
    go_enter Tryd.func28, Tryd.ntmps28
    go_wp2_with (go_at_call 40; refine (ptext_is _ _ HX.out.fr).mono ?_; rintro e w' ⟨rfl, hb⟩)
    go_ret
    exact ⟨rfl, (HB.out _).trans (hb.mono (HB.out _).size)⟩
  | 7, _ =>
    go_enter Tryd.func28, Tryd.ntmps28
    go_wp2_with (go_at_call 41; refine (itoa_is _ _ HX.out.fi.1 HX.out.fi.2 (HE.out.below (HB.out _))).mono ?_; rintro e w' ⟨rfl, hb⟩)
    go_ret
    exact ⟨rfl, (HB.out _).trans (hb.mono (HB.out _).size)⟩
  | 8, _ =>
    go_enter Tryd.func28, Tryd.ntmps28
    go_wp2_with (go_at_call 41; refine (itoa_is _ _ HX.out.mo.1 HX.out.mo.2 (HE.out.below (HB.out _))).mono ?_; rintro e w' ⟨rfl, hb⟩)
    go_ret
    exact ⟨rfl, (HB.out _).trans (hb.mono (HB.out _).size)⟩
end Go.Proofs.YtghllfihmmlcnaaDoor
