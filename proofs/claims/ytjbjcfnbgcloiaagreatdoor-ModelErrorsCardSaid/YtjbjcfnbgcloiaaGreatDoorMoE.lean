/- named and more of package model. -/
import Derived.Test.YtjbjcfnbgcloiaaGreatDoorMoD
namespace Go.Proofs.YtjbjcfnbgcloiaaGreatDoor
open Go.RowKit Nam YtjbjcfnbgcloiaaGreatDoorW.PrintWords

def namedB (b k : List UInt8) : Bool := bucketB b && keyB k
set_option maxHeartbeats 1000000 in
theorem named_is (w : World) (g mb : Nat) (b k : List UInt8) (hb : b.length ≤ 100000) (hk : k.length ≤ 100000) (hT : Tabs w) (hc : w.heap[g]? = some (.cells #[.map (some mb)] 59 (0, 0))) :
    Calls Tryz.prog 50 #[.pointer (some ⟨g, 0, none⟩), .string (mkS b), .string (mkS k)] w fun e w' => e = .returned (.int .i64 (if namedB b k = true then 0 else 12)) ∧ Below w.heap.size w w' := by
  have hsb : (mkS b).size ≤ maxLen := by rw [mkS_size]; unfold maxLen; omega
  have hsk : (mkS k).size ≤ maxLen := by rw [mkS_size]; unfold maxLen; omega
  have HTh := Lib.hid (there_is w g mb hc)
  have HT := Lib.hid hT; clear hT hc
  obtain ⟨ok, hok⟩ : ∃ ok, bucketB b = ok := ⟨_, rfl⟩
  obtain ⟨kk, hkk⟩ : ∃ kk, keyB k = kk := ⟨_, rfl⟩
  have HBk : Hid (∀ W, Calls Tryz.prog 49 #[.string (mkS b)] W fun e w' => e = .returned (.bool ok) ∧ Below W.heap.size W w') := fun W => by
    have := bucket_is (mkS b) W hsb
    rw [mkS_list, hok] at this
    exact this
  have HKy : Hid (∀ W, Below w.heap.size w W → Calls Tryz.prog 78 #[.string (mkS k)] W fun e w' => e = .returned (.bool kk) ∧ Below W.heap.size W w') := fun W hW => by
    have := key_is (mkS k) W hsk (HT.out.below hW)
    rw [mkS_list, hkk] at this
    exact this
  have hn : namedB b k = (ok && kk) := by unfold namedB; rw [hok, hkk]
  rw [hn]
  clear hok hkk hn hsb hsk
  cases ok with
  | false =>
    go_enter Tryz.func50, Tryz.ntmps50
    go_wp2_with fail
    refine HTh.out.mono ?_
    rintro e w' ⟨rfl, rfl⟩
    go_wp2_with fail
    refine (HBk.out _).mono ?_
    rintro e w1 ⟨rfl, hb1⟩
    go_wp2_with fail
    go_ret
    exact ⟨rfl, hb1⟩
  | true =>
    cases kk
    all_goals
      go_enter Tryz.func50, Tryz.ntmps50
      go_wp2_with fail
      refine HTh.out.mono ?_
      rintro e w' ⟨rfl, rfl⟩
      go_wp2_with fail
      refine (HBk.out _).mono ?_
      rintro e w1 ⟨rfl, hb1⟩
      go_wp2_with fail
      refine (HKy.out _ hb1).mono ?_
      rintro e w2 ⟨rfl, hb2⟩
      go_wp2_with fail
      go_ret
      exact ⟨rfl, hb1.trans (hb2.mono hb1.size)⟩

/-! ### a version more -/
def St.put (S : St) (b k : List UInt8) (l : List Kp) : St := { S with V := fun b' k' => if b' = b ∧ k' = k then l else S.V b' k' }
def moreE (l : List Kp) (x : Kp) : Int :=
  if 64 ≤ l.length then 18 else if x.id < 1 ∨ 2147483647 < x.id then 1 else match l.getLast? with
    | some y => if x.id ≤ y.id then 1 else 0
    | none => 0
def St.more (S : St) (b k : List UInt8) (x : Kp) : St := if moreE (S.V b k) x = 0 then S.put b k (S.V b k ++ [x]) else S
def kp0 : Kp := ⟨0, false, 0, 0, []⟩
def verV (x : Kp) : Value := .agg #[.int .i64 x.id, .bool x.mark, .int .i64 x.sz, .int .u32 x.sum]
def MoreIs (S : St) (n : Nat) (Q F Fx : Nat → Prop) (g : Nat) (b k : List UInt8) (x : Kp) (w : World) (e : Ending) (w' : World) : Prop :=
  e = .returned (.tuple #[verV (if moreE (S.V b k) x = 0 then x else kp0), .int .i64 (moreE (S.V b k) x)]) ∧ (∃ F', HasM w' g (S.more b k x) (n + 1) Q F' ∧ ∀ j, F' j → F j ∨ Fx j ∨ w.heap.size ≤ j) ∧ Moved Q w w'

/-- A key's versions are others: what was known as the call began, and what the world is then. -/
theorem stored {w w2 : World} {g n mb ib : Nat} {S : St} {Q F F' : Nat → Prop} {D D2 : DataW Unit} {b k : List UInt8} {l : List Kp} {v : Value} {d : DataW Unit} (hq : ∀ k, Q k → IsM w k) (hF : ∀ k, F k → IsC w k) (hF1 : ∀ k, F k → F' k) (hF2 : ∀ k, F' k → IsC w2 k) (nd : S.B.Nodup) (off : ∀ s, s ∉ S.B → ∀ k, S.V s k = []) (h : Outer w g S n Q F mb D) (hb : b ∈ S.B)
    (hat : D.atKey (.string b) .nil = .lit (.int .i64 ib)) (hqi : Q ib) (hne : ib ≠ mb) (hin : w.ownsMap Tryz.prog 9 R2 ib n D2) (hv2 : ∀ s, ∃ v ps, R2 v = some (D2.atKey (.string s) .nil, ps) ∧ RowV w F v (S.V b s))
    (hv : R2 v = some (d, [])) (hown : w2.ownsMap Tryz.prog 9 R2 ib (n + 1) (D2.put (.string k) d)) (hg : Moved (fun j => j = ib) w w2) (hrow : RowV w2 F' v l) : HasM w2 g (S.put b k l) (n + 1) Q F' ∧ Moved Q w w2 := by
  have hold : ∀ j, j < w.heap.size → j ≠ ib → w2.heap[j]? = w.heap[j]? := fun j hj hn => hg.block j hj hn
  have hck : FKept F w w2 := fun j hj => hold j (isC_lt (hF j hj)) (fun e => isC_not (hF j hj) (hq j (by rw [e]; exact hqi)))
  obtain ⟨h1, hfg, h2, h3, h4, h5, h6, h7⟩ := h
  have hmq : mb < w.heap.size := isM_lt (hq mb h3)
  refine ⟨⟨fun j hj => ?_, hF2, nd, fun t ht k' => ?_, mb, D, ⟨(hck g hfg).trans h1, hF1 g hfg, (ownsMap_kept h2 (hold mb hmq (fun e => hne e.symm))).mono (by omega), h3, h4, h5, fun t ht => ?_, h7⟩⟩, ⟨hg.os, hg.tape, hg.output, hg.size, fun j hj hn => hg.block j hj (fun e => hn (by rw [e]; exact hqi))⟩⟩
  · by_cases e : j = ib
    · subst e; exact ownsMap_isM hown
    · obtain ⟨a, c, hh⟩ := hq j hj
      exact ⟨a, c, (hold j (isM_lt (hq j hj)) e).trans hh⟩
  · show (if t = b ∧ k' = k then l else S.V t k') = []
    rw [if_neg (fun e => ht (by rw [e.1]; exact hb))]
    exact off t ht k'
  · by_cases e : t = b
    · subst e
      refine ⟨ib, hat, hqi, hne, _, hown, fun s => ?_⟩
      show ∃ v ps, _ ∧ RowV w2 F' v (if t = t ∧ s = k then l else S.V t s)
      by_cases es : s = k
      · subst es
        rw [if_pos ⟨rfl, rfl⟩, Maps.atKey_put_same hin.isMap (isKey_str s)]
        exact ⟨v, [], hv, hrow⟩
      · rw [if_neg (fun e => es e.2), Maps.atKey_put_other (fun e' => es (by injection e'))]
        obtain ⟨u, ps, e1, e2⟩ := hv2 s
        exact ⟨u, ps, e1, (e2.kept hck).mono hF1⟩
    · obtain ⟨b', e1, e2, e3, e4⟩ := h6 t ht
      have hbb : b' ≠ ib := fun eb => e (h7 t ht b hb (by rw [e1, hat, eb]))
      refine ⟨b', e1, e2, e3, ?_⟩
      have hf : (S.put b k l).V t = S.V t := by
        funext s
        show (if t = b ∧ s = k then l else S.V t s) = _
        rw [if_neg (fun e' => e e'.1)]
      rw [hf]
      exact ((e4.kept (hold b' (isM_lt (hq b' e2)) hbb) hck).more hF1).mono (by omega)
theorem Moved.setRow {Q : Nat → Prop} {w a : World} (h : Moved Q w a) (r : Nat) (hr : w.heap.size ≤ r) (cs : Array Value) : Moved Q w (a.setRow r cs) := by
  have hb := below_setRow (Below.refl w.heap.size a) hr cs
  exact ⟨hb.os.trans h.os, hb.tape.trans h.tape, hb.output.trans h.output, Nat.le_trans h.size hb.size, fun k hk hq => (hb.block k hk).trans (h.block k hk hq)⟩
end Go.Proofs.YtjbjcfnbgcloiaaGreatDoor
