/- The small parts of package script: text, readText, readNumber, cut; what of the library's variables they read. -/
import Derived.Test.YtghllfihmmlcnaaDoorScrB
import Derived.Test.YtghllfihmmlcnaaDoorScrP
import Derived.Test.YtghllfihmmlcnaaDoorScrN
import Derived.Test.YtghllfihmmlcnaaDoorWWords
import Derived.Test.YtghllfihmmlcnaaDoorWMore
import Derived.Lib.OthersKept
import Derived.Lib.ItoaLen
import Derived.Deep.RegionWith
import Derived.BigGuardPart
namespace Go.Proofs.YtghllfihmmlcnaaDoor
open Go.RowKit Nam YtghllfihmmlcnaaDoorW.PrintWords

/-- What of the library's variables is read: the table of powers, two errors. -/
structure Env (w : World) : Prop where
  tab : Lib.TabIs Tryd.prog w "internal/strconv.uint64pow10" .u64 Lib.pow10Tab
  syn : ∃ tp p, w.var? Tryd.prog "strconv.ErrSyntax" = some #[.iface tp p]
  rng : ∃ tp p, w.var? Tryd.prog "strconv.ErrRange" = some #[.iface tp p]
theorem var_later {w w' : World} {n : String} {cs : Array Value} (hb : Below w.heap.size w w') (h : w.var? Tryd.prog n = some cs) : w'.var? Tryd.prog n = some cs := by
  unfold World.var? at h ⊢
  cases hg : Tryd.prog.globalNamed n with
  | none => rw [hg] at h; cases h
  | some g =>
    rw [hg] at h
    simp only [Option.bind_some] at h ⊢
    have hlt : g < w.heap.size := by
      rcases Nat.lt_or_ge g w.heap.size with h' | h'
      · exact h'
      · rw [Array.getElem?_eq_none h'] at h; cases h
    rw [hb.block g hlt]
    exact h
theorem Env.below {w w' : World} (h : Env w) (hb : Below w.heap.size w w') : Env w' :=
  ⟨var_later hb h.tab, let ⟨a, b, e⟩ := h.syn; ⟨a, b, var_later hb e⟩, let ⟨a, b, e⟩ := h.rng; ⟨a, b, var_later hb e⟩⟩

theorem below_grow {B : Nat} {a w : World} (h : Below B a w) (hB : B ≤ w.heap.size) (os : Array Obj) : Below B a (Go.Sort.grow w os) :=
  h.trans ⟨rfl, rfl, rfl, by simp [Go.Sort.grow], fun k hk => by simp [Go.Sort.grow, Array.getElem?_append, show k < w.heap.size by omega]⟩

theorem itoa_is (n : Int) (w : World) (h0 : -9223372036854775808 ≤ n) (h1 : n ≤ 9223372036854775807) (hE : Env w) :
    Calls Tryd.prog 41 #[.int .i64 n] w fun e w' => e = .returned (.string (mkS (Lib.itoa n))) ∧ Below w.heap.size w w' :=
  (Any.strconv_Itoa Tryd.laysItoa n h0 h1 w hE.tab).mono fun e w' h => ⟨h.1, by
    obtain ⟨_, k, os, rfl⟩ := h
    exact below_grow ((Below.refl _ _).drewN k) (Nat.le_refl _) os⟩
theorem atoi_ok (s : ByteArray) (w : World) (hs : s.size ≤ 100000) (v : Int) (h : Lib.atoiAll s.data.toList = .ok v) :
    Calls Tryd.prog 49 #[.string s] w fun e w' => e = .returned (.tuple #[.int .i64 v, .nilIface]) ∧ Below w.heap.size w w' :=
  (Any.strconv_Atoi_ok Tryd.laysAtoi s (by omega) v h w).mono fun e w' h => ⟨h.1, by
    rcases h.2 with rfl | ⟨t, rfl⟩
    · exact Below.refl _ _
    · exact ⟨rfl, rfl, rfl, by rw [Lib.bytesWorld_size]; omega, fun k hk => Lib.bytesWorld_at_old w _ t k hk⟩⟩
theorem atoi_no (s : ByteArray) (w : World) (hs : s.size ≤ 100000) (h : ∀ v, Lib.atoiAll s.data.toList ≠ .ok v) (hE : Env w) :
    Calls Tryd.prog 49 #[.string s] w fun e w' => (∃ (n : Int) (a : Addr), e = .returned (.tuple #[.int .i64 n, .iface 105 (.pointer (some a))]) ∧ -9223372036854775808 ≤ n ∧ n ≤ 9223372036854775807) ∧ Below w.heap.size w w' := by
  rcases hh : Lib.atoiAll s.data.toList with v | _ | _
  · exact absurd hh (h v)
  · obtain ⟨tp, p, hv⟩ := hE.syn
    refine (Any.strconv_Atoi_syntax_var Tryd.laysAtoi s (by omega) hh tp p w hv).mono ?_
    rintro e w' ⟨N, he, _, _, hb⟩
    exact ⟨⟨0, _, he, by omega, by omega⟩, hb⟩
  · obtain ⟨tp, p, hv⟩ := hE.rng
    refine (Any.strconv_Atoi_range_var Tryd.laysAtoi s (by omega) hh tp p w hv).mono ?_
    rintro e w' ⟨N, he, _, _, hb⟩
    exact ⟨⟨_, _, he, by unfold Lib.atoiSat; split <;> omega, by unfold Lib.atoiSat; split <;> omega⟩, hb⟩

theorem beq_mkS (a b : List UInt8) : ((mkS a).toList == (mkS b).toList) = decide (a = b) := by
  rw [ByteArray.toList_eq, ByteArray.toList_eq, mkS_list, mkS_list, Bool.eq_iff_iff]
  simp
theorem isEmpty_mkS (a : List UInt8) : (mkS a).toList.isEmpty = decide (a = []) := by
  rw [ByteArray.toList_eq, mkS_list, Bool.eq_iff_iff]; simp

set_option maxHeartbeats 1000000 in
theorem ptext_is (l : List UInt8) (w : World) (hs : l.length ≤ 65536) : Calls Tryd.prog 40 #[.string (mkS l)] w fun e w' => e = .returned (.string (mkS (textB l))) ∧ Below w.heap.size w w' := by
  have hz : (mkS l).size ≤ 65536 := by rw [mkS_size]; exact hs
  by_cases h : l = []
  · subst h
    have h0 : (mkS []).toList.isEmpty = true := by rw [isEmpty_mkS]; rfl
    go_enter Tryd.func40, Tryd.ntmps40
    go_wp2
    go_ret
    exact ⟨rfl, Below.refl _ _⟩
  · have h0 : (mkS l).toList.isEmpty = false := by rw [isEmpty_mkS]; exact decide_eq_false h
    have hx : textB l = pathB l := by unfold textB; rw [if_neg h]
    have HX := Lib.hid hx; clear hx
    have HL := Lib.hid h; clear h
    have h00 : (mkS l).toList ≠ [] := by simpa using h0
    go_enter Tryd.func40, Tryd.ntmps40
    go_wp2_with fail
    refine (path_is _ _ hz).mono ?_
    rintro e w1 ⟨⟨t, rfl, ht⟩, hb⟩
    rw [mkS_list] at ht
    obtain rfl := eq_mkS ht
    go_wp2
    go_ret
    exact ⟨by rw [HX.out]; rfl, hb⟩
end Go.Proofs.YtghllfihmmlcnaaDoor
