/- part of package model: a page of a bucket's entries. -/
import Derived.Test.YtjbjcfnbgcloiaaDoorCb5
import Derived.Test.YtjbjcfnbgcloiaaDoorLaysB
import Derived.Deep.RegionLaw
import Derived.Deep.RegionHeldLaw
import Derived.Deep.RegionHeld3
set_option linter.unusedSimpArgs false
set_option linter.unusedVariables false

namespace Go.Proofs.YtjbjcfnbgcloiaaDoor
open Go.RowKit Nam YtjbjcfnbgcloiaaDoorW.PrintWords

/-! ### a bucket's entries -/
def entK (k : List UInt8) (n : Nat) (x : Kp) (i : Nat) : Ent := ⟨mkS k, x.id, x.mark, x.sz, x.sum, decide (i + 1 = n)⟩
def entsK (k : List UInt8) (l : List Kp) : List Ent := l.zipIdx.map fun p => entK k l.length p.1 p.2
theorem entsK_length (k : List UInt8) (l : List Kp) : (entsK k l).length = l.length := by simp [entsK]
theorem entsK_at (k : List UInt8) (l : List Kp) (i : Nat) (x : Kp) (h : l[i]? = some x) : (entsK k l)[i]? = some (entK k l.length x i) := by
  unfold entsK
  rw [List.getElem?_map, List.getElem?_zipIdx, h]
  simp
theorem entsK_take (k : List UInt8) (l : List Kp) (i : Nat) (x : Kp) (h : l[i]? = some x) : (entsK k l).take (i + 1) = (entsK k l).take i ++ [entK k l.length x i] := by
  rw [List.take_add_one, entsK_at k l i x h]
  rfl
def entsOf (f : List UInt8 → List Kp) (ks : List (List UInt8)) : List Ent := ks.flatMap fun k => entsK k (f k)
/-- The keys that have come. -/
def KeysIn (D : DataW Unit) (left : Lit → Bool) (ks : List (List UInt8)) : Prop := ks.Nodup ∧ ∀ k, k ∈ ks ↔ Maps.has D (.string k) = true ∧ left (.string k) = false
theorem keysIn_start (D : DataW Unit) : KeysIn D (Maps.has D) [] := ⟨List.nodup_nil, fun k => ⟨fun h => absurd h List.not_mem_nil, fun ⟨h1, h2⟩ => by rw [h1] at h2; cases h2⟩⟩
theorem keysIn_step {D : DataW Unit} {left : Lit → Bool} {ks : List (List UInt8)} (h : KeysIn D left ks) {k : List UInt8} (hk : left (.string k) = true) (hD : Maps.has D (.string k) = true) : KeysIn D (fun x => left x && !x.sameKey (.string k)) (ks ++ [k]) := by
  have hne : k ∉ ks := fun e => by
    have := ((h.2 k).1 e).2
    rw [hk] at this
    cases this
  refine ⟨List.nodup_append.2 ⟨h.1, by simp, fun a ha b hb e => hne (by rw [List.mem_singleton] at hb; subst hb; subst e; exact ha)⟩, fun j => ?_⟩
  rw [List.mem_append, List.mem_singleton]
  by_cases e : j = k
  · subst e
    simp [WideAt.sameKey_self (isKey_str j), hD]
  · have hsk : (Lit.string j).sameKey (.string k) = false := by
      cases hs : (Lit.string j).sameKey (.string k) with
      | false => rfl
      | true =>
        have := WideAt.sameKey_eq hs
        injection this with this
        exact absurd this e
    simp [hsk, e, h.2 j]
/-- All entries of a bucket, in some order of its keys. -/
def AllOf (f : List UInt8 → List Kp) (ks : List (List UInt8)) : Prop := ks.Nodup ∧ ∀ k, f k ≠ [] → k ∈ ks
theorem allOf_end {w : World} {F : Nat → Prop} {D : DataW Unit} {f : List UInt8 → List Kp} {left : Lit → Bool} {ks : List (List UInt8)} (h2 : ∀ k, ∃ v ps, R2 v = some (D.atKey (.string k) .nil, ps) ∧ RowV w F v (f k)) (h : KeysIn D left ks) (hl : ∀ x, left x = false) : AllOf f ks := by
  refine ⟨h.1, fun k hk => (h.2 k).2 ⟨?_, hl _⟩⟩
  cases hh : Maps.has D (.string k) with
  | true => rfl
  | false => exact absurd (inner_off h2 k hh) hk
theorem entsOf_len {f : List UInt8 → List Kp} (h : ∀ k, (f k).length ≤ 64) : ∀ ks : List (List UInt8), (entsOf f ks).length ≤ ks.length * 64
  | [] => Nat.le_refl _
  | k :: r => by
    have e : entsOf f (k :: r) = entsK k (f k) ++ entsOf f r := rfl
    have := entsOf_len h r
    have h1 := h k
    rw [e, List.length_append, entsK_length, List.length_cons]
    omega
theorem entsOf_snoc (f : List UInt8 → List Kp) (ks : List (List UInt8)) (k : List UInt8) : entsOf f (ks ++ [k]) = entsOf f ks ++ entsK k (f k) := by
  unfold entsOf
  rw [List.flatMap_append]
  simp
theorem nodup_le {α : Type} [DecidableEq α] : ∀ {l m : List α}, l.Nodup → (∀ x ∈ l, x ∈ m) → l.length ≤ m.length
  | [], _, _, _ => Nat.zero_le _
  | a :: l, m, hl, h => by
    have ha : a ∈ m := h a List.mem_cons_self
    have := nodup_le (m := m.erase a) (List.nodup_cons.1 hl).2 fun x hx => (List.mem_erase_of_ne (fun e => (List.nodup_cons.1 hl).1 (by rw [← e]; exact hx))).2 (h x (List.mem_cons_of_mem _ hx))
    rw [List.length_erase_of_mem ha] at this
    have hp := List.length_pos_of_mem ha
    simp only [List.length_cons]
    omega
theorem keysIn_len {w : World} {R : Value → Option (DataW Unit × List MemPlace)} {b n : Nat} {D : DataW Unit} (ho : w.ownsMap Tryd.prog 9 R b n D) {left : Lit → Bool} {ks : List (List UInt8)} (h : KeysIn D left ks) : ks.length ≤ n := by
  obtain ⟨es, hD, _⟩ := strMap_of ho
  have hsz := ho.size_le
  have h1 : ks.length ≤ (es.map Prod.fst).length := nodup_le h.1 fun k hk => by
    have := ((h.2 k).1 hk).1
    rw [hD, sm_has] at this
    exact of_decide_eq_true this
  have h2 : Maps.size D = es.length := by
    rw [hD]
    show (es.map fun p => (Lit.string p.1, p.2)).length = _
    rw [List.length_map]
  rw [List.length_map] at h1
  omega
theorem own_lt {w : World} {base n : Nat} {e : TypeId} {size : Nat} {v : Value} {xs : List Value} (h : w.ownsRow base e size v n xs) : ∀ k, v.ownBlock = some k → k < w.heap.size := by
  intro k hk
  rcases h.2 with ⟨h1, _⟩ | ⟨g, cap, cur, h1, h2, h3, _⟩
  · subst h1; cases hk
  · subst h1; cases hk; exact (Array.getElem?_eq_some_iff.1 h3).1
theorem ranges_at {V V' : World} {R : Value → Option (DataW Unit × List MemPlace)} {b r n cnt : Nat} {D : DataW Unit} {left : Lit → Bool} (h : V.ranges Tryd.prog 9 R b r n D left cnt) (hb : V'.heap[b]? = V.heap[b]?) (hr : V'.heap[r]? = V.heap[r]?) : V'.ranges Tryd.prog 9 R b r n D left cnt := by
  obtain ⟨es, clock, since, seen, c0, hb', F, hs, hD, hr', rest⟩ := h
  exact ⟨es, clock, since, seen, c0, hb.trans hb', F, hs, hD, hr.trans hr', rest⟩
theorem has_of_hat {D : DataW Unit} {kl : Lit} {y : DataW Unit} (h : ∀ zd, D.atKey kl zd = y) : Maps.has D kl = true := by
  cases hh : Maps.has D kl with
  | true => rfl
  | false =>
    have h1 := (Maps.atKey_of_not_has (z := .nil) hh).symm.trans (h _)
    have h2 := (Maps.atKey_of_not_has (z := .lit (.int .i64 0)) hh).symm.trans (h _)
    rw [← h2] at h1
    cases h1
theorem entsOf_key {f : List UInt8 → List Kp} {ks : List (List UInt8)} {x : Ent} (h : x ∈ entsOf f ks) : ∃ k ∈ ks, x.key = mkS k := by
  unfold entsOf at h
  obtain ⟨k, hk, hx⟩ := List.mem_flatMap.1 h
  unfold entsK at hx
  obtain ⟨p, _, rfl⟩ := List.mem_map.1 hx
  exact ⟨k, hk, rfl⟩
/-- The elements of a row, one by one, in every world that keeps it. -/
theorem row_els {w : World} {F : Nat → Prop} {A : Option Addr} {m c : Nat} {l : List Kp} (hF : ∀ k, F k → IsC w k) (h : RowV w F (.slice A m c) l) (V : World) (hV : Below w.heap.size w V) (i : Nat) (hi : i < m) :
    ∃ (x : Kp) (A1 : Option Addr) (c1 g1 : Nat), A = some ⟨g1, 0, none⟩ ∧ l[i]? = some x ∧ KAt V g1 (i * 5) x A1 c1 ∧ g1 < w.heap.size := by
  obtain ⟨news, hn, hr⟩ := id h
  rcases hn with ⟨e, e2, _⟩ | ⟨g, c', e, _, hg, _⟩
  · injection e with _ e _
    omega
  · injection e with eA em _
    subst eA
    subst em
    obtain ⟨x, A1, c1, hx, _, hk⟩ := h.kat i hi
    exact ⟨x, A1, c1, g, rfl, hx, hk.below hV (isC_lt (hF g hg)), isC_lt (hF g hg)⟩
theorem own_at {w w' : World} {base n : Nat} {e : TypeId} {size : Nat} {v : Value} {xs : List Value} (h : w.ownsRow base e size v n xs) (hb : ∀ g, v.ownBlock = some g → w'.heap[g]? = w.heap[g]?) : w'.ownsRow base e size v n xs := by
  refine ⟨h.1, ?_⟩
  rcases h.2 with h1 | ⟨g, cap, cur, h1, h2, h3, h4⟩
  · exact .inl h1
  · exact .inr ⟨g, cap, cur, h1, h2, (hb g (by rw [h1]; rfl)).trans h3, h4⟩
/-- What part answers. -/
def PartIs (S : St) (s : List UInt8) (q : AskV) (Res : List Ent → List Ent → Bool → ByteArray → Int → Prop) (w : World) (e : Ending) (w' : World) : Prop :=
  Below w.heap.size w w' ∧
  if bucketB s = false then e = ansP (.slice none 0 0) false ⟨#[]⟩ 0 12
  else if okA q = false then e = ansP (.slice none 0 0) false ⟨#[]⟩ 0 1
  else if s ∉ S.B then e = ansP (.slice none 0 0) false ⟨#[]⟩ 0 13
  else ∃ (ks : List (List UInt8)) (sv : Value) (o : List Ent) (m : Bool) (k : ByteArray) (i : Int), AllOf (S.V s) ks ∧ e = ansP sv m k i 0 ∧ RowE w' sv o ∧ (∀ b f n c, sv = .slice (some ⟨b, f, none⟩) n c → w.heap.size ≤ b) ∧ Res (entsOf (S.V s) ks) o m k i
theorem part_12 {S : St} {s : List UInt8} {q : AskV} {Res : List Ent → List Ent → Bool → ByteArray → Int → Prop} {w w' : World} (h : bucketB s = false) (hb : Below w.heap.size w w') : PartIs S s q Res w (ansP (.slice none 0 0) false ⟨#[]⟩ 0 12) w' := by
  unfold PartIs
  rw [if_pos h]
  exact ⟨hb, rfl⟩
theorem part_1 {S : St} {s : List UInt8} {q : AskV} {Res : List Ent → List Ent → Bool → ByteArray → Int → Prop} {w w' : World} (h : bucketB s = true) (ho : okA q = false) (hb : Below w.heap.size w w') : PartIs S s q Res w (ansP (.slice none 0 0) false ⟨#[]⟩ 0 1) w' := by
  unfold PartIs
  rw [if_neg (by rw [h]; simp), if_pos ho]
  exact ⟨hb, rfl⟩
theorem part_13 {S : St} {s : List UInt8} {q : AskV} {Res : List Ent → List Ent → Bool → ByteArray → Int → Prop} {w w' : World} (h : bucketB s = true) (ho : okA q = true) (hs : s ∉ S.B) (hb : Below w.heap.size w w') : PartIs S s q Res w (ansP (.slice none 0 0) false ⟨#[]⟩ 0 13) w' := by
  unfold PartIs
  rw [if_neg (by rw [h]; simp), if_neg (by rw [ho]; simp), if_pos hs]
  exact ⟨hb, rfl⟩
theorem part_0 {S : St} {s : List UInt8} {q : AskV} {Res : List Ent → List Ent → Bool → ByteArray → Int → Prop} {w w' : World} (h : bucketB s = true) (ho : okA q = true) (hs : s ∈ S.B) (hb : Below w.heap.size w w') {ks : List (List UInt8)} {sv : Value} {o : List Ent} {m : Bool} {k : ByteArray} {i : Int} (ha : AllOf (S.V s) ks) (hr : RowE w' sv o) (hf : ∀ b f n c, sv = .slice (some ⟨b, f, none⟩) n c → w.heap.size ≤ b) (hR : Res (entsOf (S.V s) ks) o m k i) : PartIs S s q Res w (ansP sv m k i 0) w' := by
  unfold PartIs
  rw [if_neg (by rw [h]; simp), if_neg (by rw [ho]; simp), if_neg (fun e => e hs)]
  exact ⟨hb, ks, sv, o, m, k, i, ha, rfl, hr, hf, hR⟩
set_option maxHeartbeats 4000000 in
set_option maxRecDepth 100000 in
theorem part_is (w : World) (g : Nat) (S : St) (n : Nat) (Q F : Nat → Prop) (s : List UInt8) (q : AskV) (gp : Nat) (Res : List Ent → List Ent → Bool → ByteArray → Int → Prop) (hs : s.length ≤ 100000) (hm : HasM w g S n Q F) (hF : PageF gp q Res)
    (hfi : S.Fine) (hn : n ≤ 10000) :
    Calls Tryd.prog 27 #[.pointer (some ⟨g, 0, none⟩), .string (mkS s), .agg #[.string q.pre, .string q.fr, .int .i64 q.fid, .int .i64 q.most], .func (.func gp) #[] #[]] w (PartIs S s q Res w) := by
  obtain ⟨pre, fr, fid, most⟩ := q
  have hsz : (mkS s).size ≤ maxLen := by rw [mkS_size]; unfold maxLen; omega
  have hsm : s.length ≤ maxLen := by unfold maxLen; omega
  obtain ⟨w2, hw2⟩ : ∃ w2, (w.alloc (.cells #[.string pre, .string fr, .int .i64 fid, .int .i64 most] 47)).alloc (.cells #[.slice none 0 0, .bool false, .string ⟨#[]⟩, .int .i64 0] 44) = w2 := ⟨_, rfl⟩
  have hs2 : w2.heap.size = w.heap.size + 2 := by rw [← hw2]; simp
  have hb2 : Below w.heap.size w w2 := by
    rw [← hw2]
    exact ((Below.refl _ _).alloc (Nat.le_refl _) _).alloc (by simp) _
  have h20 : w2.heap[w.heap.size]? = some (.cells #[.string pre, .string fr, .int .i64 fid, .int .i64 most] 47 (0, 0)) := by
    rw [← hw2, heap_alloc_old _ _ (by simp), heap_alloc_new]
  have h21 : w2.heap[w.heap.size + 1]? = some (.cells #[.slice none 0 0, .bool false, .string ⟨#[]⟩, .int .i64 0] 44 (0, 0)) := by
    rw [← hw2]
    have := heap_alloc_new (w.alloc (.cells #[.string pre, .string fr, .int .i64 fid, .int .i64 most] 47)) (.cells #[.slice none 0 0, .bool false, .string ⟨#[]⟩, .int .i64 0] 44)
    simpa using this
  have HW := Lib.hid hw2; clear hw2
  obtain ⟨mb, D, hO⟩ := (hm.below hb2).ex
  have HTh := Lib.hid (there_is w2 g mb hO.c)
  obtain ⟨ok, hok⟩ : ∃ ok, bucketB s = ok := ⟨_, rfl⟩
  have HBk : Hid (Calls Tryd.prog 20 #[.string (mkS s)] w2 fun e w' => e = .returned (.bool ok) ∧ Below w2.heap.size w2 w') := by
    have := bucket_is (mkS s) w2 hsz
    rw [mkS_list, hok] at this
    exact this
  have HCm : Hid (∀ V, Below w2.heap.size w2 V → V.cell? ⟨g, 0, none⟩ = some (.map (some mb)) ∧ Outer V g S n Q F mb D) := fun V hV => by
    have hO' := hO.below (hm.below hb2).q (hm.below hb2).f hV
    exact ⟨(blk_cell hO'.c 0).trans rfl, hO'⟩
  have HBX : Hid (∀ V, Below w2.heap.size w2 V → V.heap[w.heap.size]? = some (.cells #[.string pre, .string fr, .int .i64 fid, .int .i64 most] 47 (0, 0)) ∧ V.heap[w.heap.size + 1]? = some (.cells #[.slice none 0 0, .bool false, .string ⟨#[]⟩, .int .i64 0] 44 (0, 0)) ∧ w.heap.size + 2 ≤ V.heap.size) := fun V hV =>
    ⟨(hV.block _ (by omega)).trans h20, (hV.block _ (by omega)).trans h21, by have := hV.size; omega⟩
  have HEnd : Hid (∀ (V : World) (a : Value) (b c d : Value), Below w2.heap.size w2 V → Below w.heap.size w ((((V.setCell ⟨w.heap.size + 1, 0, none⟩ a).setCell ⟨w.heap.size + 1, 1, none⟩ b).setCell ⟨w.heap.size + 1, 2, none⟩ c).setCell ⟨w.heap.size + 1, 3, none⟩ d)) := fun V a b c d hV =>
    (((((hb2.trans (hV.mono (by omega))).setCell (p := ⟨w.heap.size + 1, 0, none⟩) (Nat.le_succ _) _).setCell (p := ⟨w.heap.size + 1, 1, none⟩) (Nat.le_succ _) _).setCell (p := ⟨w.heap.size + 1, 2, none⟩) (Nat.le_succ _) _).setCell (p := ⟨w.heap.size + 1, 3, none⟩) (Nat.le_succ _) _)
  have HM := Lib.hid hm
  have HFi := Lib.hid (hm.below hb2).f
  have HOK := Lib.hid hok
  have HFn := Lib.hid hF.2
  have eg := hF.1
  have HNs := Lib.hid hfi.len
  have HS2 := Lib.hid hs2
  clear hok hO hm hF hfi h20 h21 hb2 hs2
  cases ok with
  | false =>
    go_enter Tryd.func27, Tryd.ntmps27
    go_wp2_with fail
    rw [show (w.alloc (.cells #[.string pre, .string fr, .int .i64 fid, .int .i64 most] 47)).alloc (.cells #[.slice none 0 0, .bool false, .string ⟨#[]⟩, .int .i64 0] 44) = w2 from HW.out]
    refine HTh.out.mono ?_
    rintro e w' ⟨rfl, rfl⟩
    go_wp2_with fail
    refine HBk.out.mono ?_
    rintro e w3 ⟨rfl, hb3⟩
    obtain ⟨_, h31, _⟩ := HBX.out w3 hb3
    have r0 : w3.cell? ⟨w.heap.size + 1, 0, none⟩ = some (.slice none 0 0) := (cells_of_heap h31).1 0 _ rfl
    have r1 : w3.cell? ⟨w.heap.size + 1, 1, none⟩ = some (.bool false) := (cells_of_heap h31).1 1 _ rfl
    have r2 : w3.cell? ⟨w.heap.size + 1, 2, none⟩ = some (.string ⟨#[]⟩) := (cells_of_heap h31).1 2 _ rfl
    have r3 : w3.cell? ⟨w.heap.size + 1, 3, none⟩ = some (.int .i64 0) := (cells_of_heap h31).1 3 _ rfl
    have z0 : w3.frozen? ⟨w.heap.size + 1, 0, none⟩ = false := (cells_of_heap h31).2 0
    have z1 : w3.frozen? ⟨w.heap.size + 1, 1, none⟩ = false := (cells_of_heap h31).2 1
    have z2 : w3.frozen? ⟨w.heap.size + 1, 2, none⟩ = false := (cells_of_heap h31).2 2
    have z3 : w3.frozen? ⟨w.heap.size + 1, 3, none⟩ = false := (cells_of_heap h31).2 3
    have H31 := Lib.hid h31; clear h31
    have HB3 := Lib.hid hb3; clear hb3
    go_wp2
    (try simp only [Exit.inBlock, Exit.then])
    have h61 := heap_set (heap_set (heap_set (heap_set H31.out 0 (.slice none 0 0)) 1 (.bool false)) 2 (.string ⟨#[]⟩)) 3 (.int .i64 0)
    refine bodyPost_ret (ret_pair rfl _ _ (w.heap.size + 1) _ _ _ _ rfl h61 Tryd.underlying44 rfl (by kernel_rfl)) rfl ?_
    exact part_12 HOK.out (HEnd.out _ _ _ _ _ HB3.out)
  | true =>
    obtain ⟨oa, hoa⟩ : ∃ oa, okA ⟨pre, fr, fid, most⟩ = oa := ⟨_, rfl⟩
    have HOA := Lib.hid hoa
    rw [hoa] at HFn
    clear hoa
    go_enter Tryd.func27, Tryd.ntmps27
    go_wp2_with fail
    rw [show (w.alloc (.cells #[.string pre, .string fr, .int .i64 fid, .int .i64 most] 47)).alloc (.cells #[.slice none 0 0, .bool false, .string ⟨#[]⟩, .int .i64 0] 44) = w2 from HW.out]
    refine HTh.out.mono ?_
    rintro e w' ⟨rfl, rfl⟩
    go_wp2_with fail
    refine HBk.out.mono ?_
    rintro e w3 ⟨rfl, hb3⟩
    obtain ⟨h30, h31, hsz3⟩ := HBX.out w3 hb3
    have q0 : w3.cell? ⟨w.heap.size, 0, none⟩ = some (.string pre) := (cells_of_heap h30).1 0 _ rfl
    have q1 : w3.cell? ⟨w.heap.size, 1, none⟩ = some (.string fr) := (cells_of_heap h30).1 1 _ rfl
    have q2 : w3.cell? ⟨w.heap.size, 2, none⟩ = some (.int .i64 fid) := (cells_of_heap h30).1 2 _ rfl
    have q3 : w3.cell? ⟨w.heap.size, 3, none⟩ = some (.int .i64 most) := (cells_of_heap h30).1 3 _ rfl
    have HC1 := Lib.hid (HFn.out [] (.slice none 0 0) w3 (Nat.zero_le _) (fun x hx => absurd hx List.not_mem_nil) (.inl ⟨rfl, rfl⟩))
    have HB3 := Lib.hid hb3
    clear h30 h31 hb3
    cases oa with
    | false =>
      go_upto_region 6 with (go_at_fn gp; refine HC1.out.mono ?_; intro e w4 hpa; obtain ⟨rfl, hb4⟩ := pageAns_bad.1 hpa; have HB4 : Hid (Below w2.heap.size w2 w4) := HB3.out.trans (hb4.mono HB3.out.size); clear hb4 hpa HC1 q0 q1 q2 q3)
      obtain ⟨W5, hW5⟩ : ∃ W5, w4.alloc (.cells #[.slice none 0 0, .bool false, .string ⟨#[]⟩, .int .i64 0] 44) = W5 := ⟨_, rfl⟩
      rw [hW5]
      have HB5 : Hid (Below w2.heap.size w2 W5) := by show Below _ _ _; rw [← hW5]; exact HB4.out.alloc HB4.out.size _
      clear hW5
      obtain ⟨_, h31, _⟩ := HBX.out W5 HB5.out
      have r0 : W5.cell? ⟨w.heap.size + 1, 0, none⟩ = some (.slice none 0 0) := (cells_of_heap h31).1 0 _ rfl
      have r1 : W5.cell? ⟨w.heap.size + 1, 1, none⟩ = some (.bool false) := (cells_of_heap h31).1 1 _ rfl
      have r2 : W5.cell? ⟨w.heap.size + 1, 2, none⟩ = some (.string ⟨#[]⟩) := (cells_of_heap h31).1 2 _ rfl
      have r3 : W5.cell? ⟨w.heap.size + 1, 3, none⟩ = some (.int .i64 0) := (cells_of_heap h31).1 3 _ rfl
      have z0 : W5.frozen? ⟨w.heap.size + 1, 0, none⟩ = false := (cells_of_heap h31).2 0
      have z1 : W5.frozen? ⟨w.heap.size + 1, 1, none⟩ = false := (cells_of_heap h31).2 1
      have z2 : W5.frozen? ⟨w.heap.size + 1, 2, none⟩ = false := (cells_of_heap h31).2 2
      have z3 : W5.frozen? ⟨w.heap.size + 1, 3, none⟩ = false := (cells_of_heap h31).2 3
      have H31 := Lib.hid h31; clear h31
      go_wp2
      (try simp only [Exit.inBlock, Exit.then])
      have h61 := heap_set (heap_set (heap_set (heap_set H31.out 0 (.slice none 0 0)) 1 (.bool false)) 2 (.string ⟨#[]⟩)) 3 (.int .i64 0)
      refine bodyPost_ret (ret_pair rfl _ _ (w.heap.size + 1) _ _ _ _ rfl h61 Tryd.underlying44 rfl (by kernel_rfl)) rfl ?_
      exact part_1 HOK.out HOA.out (HEnd.out _ _ _ _ _ HB5.out)
    | true =>
      go_upto_region 6 with (go_at_fn gp; refine HC1.out.mono ?_; intro e w4 hpa; obtain ⟨⟨sv1, o1, m1, k1, i1, rfl, hro1, _, _⟩, hb4⟩ := pageAns_ok.1 hpa; obtain ⟨p1, c1, rfl, _⟩ := len_of_row hro1; obtain ⟨n1, hn1⟩ : ∃ n1, o1.length = n1 := ⟨_, rfl⟩; rw [hn1]; have HB4 : Hid (Below w2.heap.size w2 w4) := HB3.out.trans (hb4.mono HB3.out.size); clear hro1 hn1 hb4 hpa HC1 q0 q1 q2 q3)
      obtain ⟨W5, hW5⟩ : ∃ W5, w4.alloc (.cells #[.slice p1 n1 c1, .bool m1, .string k1, .int .i64 i1] 44) = W5 := ⟨_, rfl⟩
      rw [hW5]
      have HB5 : Hid (Below w2.heap.size w2 W5) := by show Below _ _ _; rw [← hW5]; exact HB4.out.alloc HB4.out.size _
      clear hW5
      obtain ⟨c0, hO5⟩ := HCm.out W5 HB5.out
      have hqe := fun (w : World) (r : Option Nat) => run_eql_map_nil (P := Tryd.prog) w 63 _ _ r Tryd.underlying63
      rcases look1 hO5 s hsm with ⟨hsB, hrun⟩ | ⟨hsB, ib, _, hq, _, hin, hrun⟩
      · obtain ⟨_, h31, _⟩ := HBX.out W5 HB5.out
        have r0 : W5.cell? ⟨w.heap.size + 1, 0, none⟩ = some (.slice none 0 0) := (cells_of_heap h31).1 0 _ rfl
        have r1 : W5.cell? ⟨w.heap.size + 1, 1, none⟩ = some (.bool false) := (cells_of_heap h31).1 1 _ rfl
        have r2 : W5.cell? ⟨w.heap.size + 1, 2, none⟩ = some (.string ⟨#[]⟩) := (cells_of_heap h31).1 2 _ rfl
        have r3 : W5.cell? ⟨w.heap.size + 1, 3, none⟩ = some (.int .i64 0) := (cells_of_heap h31).1 3 _ rfl
        have z0 : W5.frozen? ⟨w.heap.size + 1, 0, none⟩ = false := (cells_of_heap h31).2 0
        have z1 : W5.frozen? ⟨w.heap.size + 1, 1, none⟩ = false := (cells_of_heap h31).2 1
        have z2 : W5.frozen? ⟨w.heap.size + 1, 2, none⟩ = false := (cells_of_heap h31).2 2
        have z3 : W5.frozen? ⟨w.heap.size + 1, 3, none⟩ = false := (cells_of_heap h31).2 3
        have H31 := Lib.hid h31
        have HSB := Lib.hid hsB
        clear h31 hO5 hsB
        go_wp2
        (try simp only [Exit.inBlock, Exit.then])
        have h61 := heap_set (heap_set (heap_set (heap_set H31.out 0 (.slice none 0 0)) 1 (.bool false)) 2 (.string ⟨#[]⟩)) 3 (.int .i64 0)
        refine bodyPost_ret (ret_pair rfl _ _ (w.heap.size + 1) _ _ _ _ rfl h61 Tryd.underlying44 rfl (by kernel_rfl)) rfl ?_
        exact part_13 HOK.out HOA.out HSB.out (HEnd.out _ _ _ _ _ HB5.out)
      · obtain ⟨D2, o2, hv2⟩ := hin
        have HV2 := Lib.hid hv2
        have HSB := Lib.hid hsB
        have HF5 : Hid (∀ k, F k → IsC W5 k) := fun k hk => by
          obtain ⟨a, b, c, hh⟩ := HFi.out k hk
          exact ⟨a, b, c, (HB5.out.block k (isC_lt (HFi.out k hk))).trans hh⟩
        have HO2 := Lib.hid o2
        have hib : ib < W5.heap.size := o2.lt
        have HIB := Lib.hid hib
        clear hv2 hsB hO5 hq hib
        go_wp2_with (at_range; refine wpList_range_own _ rfl _ 63 rfl 9 77 KS Tryd.underlying63 R2 ib n D2 rfl o2 ?_; intro w6 hrg6 hg6 hs6)
        obtain ⟨r, hr⟩ : ∃ r, W5.heap.size = r := ⟨_, rfl⟩
        have HR := Lib.hid hr
        have HB6 : Hid (Below r W5 w6 ∧ r + 1 ≤ w6.heap.size) := ⟨by rw [← hr]; exact grown_below' hg6, by omega⟩
        rw [hr] at hrg6 ⊢
        clear hg6 hs6 o2 hrun c0 hr
        have HLen : Hid (∀ (V : World) (left : Lit → Bool) (ks : List (List UInt8)), KeysIn D2 left ks → (entsOf (S.V s) ks).length ≤ 640000) := fun V left ks hk => by
          have h1 := keysIn_len HO2.out hk
          have h2 := entsOf_len (HNs.out s) ks
          omega
        go_frame
        go_loopw [12] (fun va wr => ∃ (left : Lit → Bool) (cnt : Nat) (ks : List (List UInt8)) (sv : Value), sv = va ∧ Hid (Below r W5 wr ∧ r + 1 ≤ wr.heap.size) ∧ wr.ranges Tryd.prog 9 R2 ib r n D2 left cnt ∧ Hid (KeysIn D2 left ks ∧ ∀ k ∈ ks, k.length ≤ maxLen) ∧ Hid (wr.ownsRow (r + 1) 49 6 sv (entsOf (S.V s) ks).length ((entsOf (S.V s) ks).flatMap encE))) (fun _ wr => wr.rangeLeft ib r)
        case atStart => exact ⟨_, _, [], _, rfl, HB6, hrg6, (show Hid _ from ⟨keysIn_start D2, fun k hk => absurd hk List.not_mem_nil⟩), (show Hid _ from ⟨rfl, .inl ⟨rfl, rfl⟩⟩)⟩
        case round =>
          clear HB6 hrg6
          obtain ⟨left, cnt, ks, sv, hsv, HB, hrg, HK, HO⟩ := hrel
          subst hsv
          go_wp2_with (at_next; refine wpList_next_ranges _ rfl _ rfl 9 KS R2 (fun k : List UInt8 => .string (mkS k)) (fun q : Option Addr × Nat × Nat => .slice q.1 q.2.1 q.2.2) key_inv r2_inv ib r n D2 left cnt rfl hrg ?_ ?_)
          · intro h0 hl0
            have hall := allOf_end HV2.out HK.out.1 hl0
            obtain ⟨l, hl⟩ : ∃ l, entsOf (S.V s) ks = l := ⟨_, rfl⟩
            have hll : l.length ≤ 1000000 := by have := HLen.out wr left ks HK.out.1; rw [hl] at this; omega
            have hlk : ∀ x ∈ l, x.key.size ≤ maxLen := fun x hx => by
              rw [← hl] at hx
              obtain ⟨k, hk, e⟩ := entsOf_key hx
              rw [e, mkS_size]
              exact HK.out.2 k hk
            have hro := (rowE_own (by rw [← hl]; exact HO.out) : RowE wr sv l ∧ _).1
            have HBw : Hid (Below w2.heap.size w2 wr) := HB5.out.trans ((HR.out ▸ HB.out.1 : Below W5.heap.size W5 wr).mono HB5.out.size)
            have HC2 := Lib.hid (HFn.out l sv wr hll hlk hro)
            obtain ⟨h30, _, _⟩ := HBX.out wr HBw.out
            have q0 : wr.cell? ⟨w.heap.size, 0, none⟩ = some (.string pre) := (cells_of_heap h30).1 0 _ rfl
            have q1 : wr.cell? ⟨w.heap.size, 1, none⟩ = some (.string fr) := (cells_of_heap h30).1 1 _ rfl
            have q2 : wr.cell? ⟨w.heap.size, 2, none⟩ = some (.int .i64 fid) := (cells_of_heap h30).1 2 _ rfl
            have q3 : wr.cell? ⟨w.heap.size, 3, none⟩ = some (.int .i64 most) := (cells_of_heap h30).1 3 _ rfl
            have HALL := Lib.hid hall
            have HL := Lib.hid hl
            clear h30 hall hl hll hlk hro hl0
            go_wp2_with fail
            refine HC2.out.mono ?_
            intro e w8 hpa
            obtain ⟨⟨sv2, o2, m2, k2, i2, rfl, hro2, hfr2, hres⟩, hb8⟩ := pageAns_ok.1 hpa
            have HB8 : Hid (Below w2.heap.size w2 w8) := HBw.out.trans (hb8.mono HBw.out.size)
            obtain ⟨_, h31, hsz8⟩ := HBX.out w8 HB8.out
            have r0 : w8.cell? ⟨w.heap.size + 1, 0, none⟩ = some (.slice none 0 0) := (cells_of_heap h31).1 0 _ rfl
            have r1 : w8.cell? ⟨w.heap.size + 1, 1, none⟩ = some (.bool false) := (cells_of_heap h31).1 1 _ rfl
            have r2 : w8.cell? ⟨w.heap.size + 1, 2, none⟩ = some (.string ⟨#[]⟩) := (cells_of_heap h31).1 2 _ rfl
            have r3 : w8.cell? ⟨w.heap.size + 1, 3, none⟩ = some (.int .i64 0) := (cells_of_heap h31).1 3 _ rfl
            have z0 : w8.frozen? ⟨w.heap.size + 1, 0, none⟩ = false := (cells_of_heap h31).2 0
            have z1 : w8.frozen? ⟨w.heap.size + 1, 1, none⟩ = false := (cells_of_heap h31).2 1
            have z2 : w8.frozen? ⟨w.heap.size + 1, 2, none⟩ = false := (cells_of_heap h31).2 2
            have z3 : w8.frozen? ⟨w.heap.size + 1, 3, none⟩ = false := (cells_of_heap h31).2 3
            have HN2 : Hid (∀ b f n c, sv2 = .slice (some ⟨b, f, none⟩) n c → w.heap.size + 2 ≤ b) := fun b f n c h => by
              have h1 := hfr2 b f n c h
              have h2 := HBw.out.size
              have h3 := HS2.out
              omega
            obtain ⟨p2, c2, rfl, _⟩ := len_of_row hro2
            obtain ⟨n2, hn2⟩ : ∃ n2, o2.length = n2 := ⟨_, rfl⟩
            rw [hn2] at hro2 HN2 ⊢
            have HRO := Lib.hid hro2
            have HRES := Lib.hid hres
            have H31 := Lib.hid h31
            clear h31 hro2 hfr2 hres hb8 hpa hn2
            go_wp2
            (try simp only [Exit.inBlock, Exit.then])
            have h61 := heap_set (heap_set (heap_set (heap_set H31.out 0 (.slice p2 n2 c2)) 1 (.bool m2)) 2 (.string k2)) 3 (.int .i64 i2)
            refine bodyPost_ret (ret_pair rfl _ _ (w.heap.size + 1) _ _ _ _ rfl h61 Tryd.underlying44 rfl (by kernel_rfl)) rfl ?_
            exact part_0 HOK.out HOA.out HSB.out (HEnd.out _ _ _ _ _ HB8.out) HALL.out (rowE_set (rowE_set (rowE_set (rowE_set HRO.out (fun b f n c h => by have := HN2.out b f n c h; omega) _ _) (fun b f n c h => by have := HN2.out b f n c h; omega) _ _) (fun b f n c h => by have := HN2.out b f n c h; omega) _ _) (fun b f n c h => by have := HN2.out b f n c h; omega) _ _) (fun b f n c h => by have := HN2.out b f n c h; omega) (by rw [HL.out]; exact HRES.out)
          · intro k A m c kl yd yp w7 cnt3 hkey hlk hv hat hrg7 hlt hg7 hs7 hen
            obtain ⟨hkl, rfl, hrow⟩ := inner_came HV2.out hkey hv hat
            obtain ⟨A', c', hve, _⟩ := hrow.slice
            injection hve with hva hve hvc
            clear hva hvc
            have HVE : Hid (m = (S.V s k).length) := hve
            have hm64 : m ≤ 64 := by have := HNs.out s k; omega
            have HB7 : Hid (Below r W5 w7 ∧ r + 1 ≤ w7.heap.size) := ⟨⟨hg7.os.trans HB.out.1.os, hg7.tape.trans HB.out.1.tape, hg7.output.trans HB.out.1.output, Nat.le_trans HB.out.1.size hg7.size, fun i hi => (hg7.block i (by have := HB.out.2; omega) (fun e => by injection e with e; omega)).trans (HB.out.1.block i hi)⟩, Nat.le_trans HB.out.2 hg7.size⟩
            have HO7 : Hid (w7.ownsRow (r + 1) 49 6 sv (entsOf (S.V s) ks).length ((entsOf (S.V s) ks).flatMap encE)) := own_at HO.out fun g hg => hg7.block g (own_lt HO.out g hg) (fun e => by injection e with e; have := own_ge HO.out g hg; omega)
            have HEl : Hid (∀ V, Below r W5 V → ∀ i, i < m → ∃ (x : Kp) (A1 : Option Addr) (c1 g1 : Nat), A = some ⟨g1, 0, none⟩ ∧ (S.V s k)[i]? = some x ∧ KAt V g1 (i * 5) x A1 c1 ∧ g1 < r) := fun V hV i hi => by
              have := row_els HF5.out hrow V (by rw [HR.out]; exact hV) i hi
              rw [HR.out] at this
              exact this
            have HKL := Lib.hid hkl
            have HLT := Lib.hid hlt
            have HLK := Lib.hid hlk
            have HHas := Lib.hid (has_of_hat hat)
            have hkz : (mkS k).size ≤ maxLen := by rw [mkS_size]; exact hkl
            obtain ⟨wo, rfl⟩ : ∃ wo : World, wo = wr := ⟨_, rfl⟩
            clear hkey hlk hv hat hg7 hs7 hkl hrow hve hlt
            go_wp2_with fail
            go_loopw [12, 57] (fun va vi wr => ∃ (i : Nat) (sv : Value), sv = va ∧ vi = .int .i64 i ∧ i ≤ m ∧ Hid (Below (r + 1) w7 wr ∧ r + 1 ≤ wr.heap.size) ∧ Hid (wr.ownsRow (r + 1) 49 6 sv (entsOf (S.V s) ks ++ (entsK k (S.V s k)).take i).length ((entsOf (S.V s) ks ++ (entsK k (S.V s k)).take i).flatMap encE))) (fun _ vi _ => m - (intOf vi).toNat)
            case atStart => exact ⟨0, _, rfl, rfl, Nat.zero_le _, ⟨Below.refl _ _, HB7.out.2⟩, (by show World.ownsRow _ _ _ _ _ _ _; rw [List.take_zero, List.append_nil]; exact HO7.out)⟩
            case round =>
              obtain ⟨i, sw, hsw, rfl, hi, HBi, HOi⟩ := hrel
              subst hsw
              by_cases hlt2 : i < m
              · have hltz : (i : Int) < (m : Int) := by omega
                obtain ⟨x, A1, c1, g1, rfl, hx, ⟨a0, a1, a2, a3, a4⟩, hg1⟩ := HEl.out wr (HB7.out.1.trans (HBi.out.1.mono (Nat.le_succ r))) i hlt2
                obtain ⟨la, hla⟩ : ∃ la, ((i : Int) == (m : Int) - 1) = la := ⟨_, rfl⟩
                have HLA : Hid (la = decide (i + 1 = m)) := by
                  show _ = _
                  rw [← hla, Bool.eq_iff_iff, beq_iff_eq, decide_eq_true_eq]
                  omega
                have HX := Lib.hid hx
                clear hx
                have hcnt : (entsOf (S.V s) ks ++ (entsK k (S.V s k)).take i).length ≤ 700000 := by
                  have h1 := HLen.out wr left ks HK.out.1
                  rw [List.length_append, List.length_take]
                  omega
                obtain ⟨E, hE⟩ : ∃ E, entsOf (S.V s) ks ++ (entsK k (S.V s k)).take i = E := ⟨_, rfl⟩
                rw [hE] at HOi hcnt
                have HE := Lib.hid hE
                obtain ⟨ps, cs, rfl⟩ : ∃ ps cs, sw = .slice ps E.length cs := by
                  rcases HOi.out.2 with ⟨h1, h2⟩ | ⟨g2, c2, _, h1, _⟩
                  · exact ⟨none, 0, by rw [h1, h2]⟩
                  · exact ⟨_, _, h1⟩
                obtain ⟨i0, hi0, hz0, hz1, hz2⟩ := info_parts infoE
                have hg1r : g1 ≠ wr.heap.size := by have := HBi.out.2; omega
                clear hE
                go_wp2_with (first
                  | (at_builtin; refine wpList_append_lies _ rfl _ _ 37 rfl (r + 1) 49 i0 _ 6 56 Tryd.underlying37 hi0 hz0 hz1 hz2 rfl (by omega) (.slice ps E.length cs) E.length (E.flatMap encE) rfl ((HOi.out.alloc _).alloc _) ⟨wr.heap.size + 1, 0, none⟩ 1 1 (encE ⟨mkS k, x.id, x.mark, x.sz, x.sum, la⟩) rfl rfl (World.news_of_block (cs := (encE ⟨mkS k, x.id, x.mark, x.sz, x.sum, la⟩).toArray) (t := 49) (fr := (0, 0)) (by have := heap_alloc_new (wr.alloc (.cells #[.int .i64 x.id, .bool x.mark, .int .i64 x.sz, .int .u32 x.sum, .slice A1 x.dt.length c1] 74)) (.cells (encE ⟨mkS k, x.id, x.mark, x.sz, x.sum, la⟩).toArray 49); simpa [encE] using this)) (encE_one _) (by omega) (by unfold maxLen; omega) (by omega) (by have := HBi.out.2; simp; omega) (wr.heap.size + 2) (by simp) ?_; intro g9 cap9 w9 hown9 hgrow9 _ hlt9; have HO9 := Lib.hid hown9; clear hown9; have HG9 := Lib.hid hgrow9; clear hgrow9))
                have HB9 : Hid (Below (r + 1) w7 w9 ∧ r + 1 ≤ w9.heap.size) := by
                  have h1 := HBi.out.2
                  have hb : Below (r + 1) w7 w9 := ((HBi.out.1.alloc h1 _).alloc (by simp; omega) _).grown HG9.out (by simp; omega) (own_ge HOi.out)
                  exact ⟨hb, Nat.le_trans (by simp; omega) HG9.out.size⟩
                have HO10 : Hid (w9.ownsRow (r + 1) 49 6 (.slice (some ⟨g9, 0, none⟩) (E.length + 1) cap9) (entsOf (S.V s) ks ++ (entsK k (S.V s k)).take (i + 1)).length ((entsOf (S.V s) ks ++ (entsK k (S.V s k)).take (i + 1)).flatMap encE)) := by
                  show World.ownsRow _ _ _ _ _ _ _
                  have e : entsOf (S.V s) ks ++ (entsK k (S.V s k)).take (i + 1) = E ++ [⟨mkS k, x.id, x.mark, x.sz, x.sum, la⟩] := by
                    rw [entsK_take k _ i x HX.out, ← List.append_assoc, HE.out, HLA.out, HVE.out]
                    rfl
                  rw [e, List.length_append, List.flatMap_append]
                  simpa using HO9.out
                clear HG9 HO9
                go_roundw
                case rel => exact ⟨i + 1, _, rfl, by go_num, by omega, HB9, HO10⟩
                case measure => simp [intOf]; omega
              · obtain rfl : i = m := by omega
                go_wp2
                go_roundw
                case rel =>
                  refine ⟨_, cnt3, ks ++ [k], _, rfl, ⟨HB7.out.1.trans (HBi.out.1.mono (Nat.le_succ r)), HBi.out.2⟩, ranges_at hrg7 (HBi.out.1.block ib (by have := HIB.out; have := HR.out; omega)) (HBi.out.1.block r (Nat.lt_succ_self r)), (show Hid _ from ⟨keysIn_step HK.out.1 HLK.out HHas.out, fun k' hk' => ?_⟩), ?_⟩
                  · rcases List.mem_append.1 hk' with h | h
                    · exact HK.out.2 k' h
                    · rw [List.mem_singleton.1 h]
                      exact HKL.out
                  · show World.ownsRow _ _ _ _ _ _ _
                    rw [entsOf_snoc]
                    have := HOi.out
                    rwa [List.take_of_length_le (by rw [entsK_length, HVE.out]; exact Nat.le_refl _)] at this
                case measure => rw [(ranges_at hrg7 (HBi.out.1.block ib (by have := HIB.out; have := HR.out; omega)) (HBi.out.1.block r (Nat.lt_succ_self r))).left_eq, hrg.left_eq]; exact HLT.out
end Go.Proofs.YtjbjcfnbgcloiaaDoor

/- Objects and Versions of package model. -/
set_option linter.unusedSimpArgs false
set_option linter.unusedVariables false
namespace Go.Proofs.YtjbjcfnbgcloiaaDoor
open Go.RowKit Nam YtjbjcfnbgcloiaaDoorW.PrintWords Go.Lib

/-- An answer of part, taken apart: whoever keeps it keeps what it says. -/
theorem part_cases {S : St} {s : List UInt8} {q : AskV} {Res : List Ent → List Ent → Bool → ByteArray → Int → Prop} {w2 : World} {e : Ending} {w3 : World} (h : PartIs S s q Res w2 e w3) :
    ∃ (p : Option Addr) (nn cc : Nat) (m : Bool) (k : ByteArray) (i er : Int), e = ansP (.slice p nn cc) m k i er ∧ Below w2.heap.size w2 w3 ∧ ∀ (w : World), Below w.heap.size w w2 → ∀ {g : Nat}, g < w2.heap.size → ∀ {w4 : World}, Below w.heap.size w w4 → (∀ {o : List Ent}, RowE w3 (.slice p nn cc) o → (∀ b f n c, Value.slice p nn cc = .slice (some ⟨b, f, none⟩) n c → b ≠ g) → RowE w4 (.slice p nn cc) o) → PartIs S s q Res w (ansP (.slice p nn cc) m k i er) w4 := by
  obtain ⟨hb, h⟩ := h
  by_cases h1 : bucketB s = false
  · rw [if_pos h1] at h
    exact ⟨_, _, _, _, _, _, _, h, hb, fun w _ _ _ w4 h4 _ => part_12 h1 h4⟩
  · rw [if_neg h1] at h
    have h1 : bucketB s = true := by simpa using h1
    by_cases h2 : okA q = false
    · rw [if_pos h2] at h
      exact ⟨_, _, _, _, _, _, _, h, hb, fun w _ _ _ w4 h4 _ => part_1 h1 h2 h4⟩
    · rw [if_neg h2] at h
      have h2 : okA q = true := by simpa using h2
      by_cases h3 : s ∈ S.B
      · rw [if_neg (fun e => e h3)] at h
        obtain ⟨ks, sv, o, m, k, i, ha, rfl, hr, hf, hR⟩ := h
        obtain ⟨p, cc, rfl, _⟩ := len_of_row hr
        exact ⟨p, _, cc, m, k, i, 0, rfl, hb, fun w hw g hg w4 h4 hk => part_0 h1 h2 h3 h4 ha (hk hr fun b f n c e => by have := hf b f n c e; omega) (fun b f n c e => Nat.le_trans hw.size (hf b f n c e)) hR⟩
      · rw [if_pos h3] at h
        exact ⟨_, _, _, _, _, _, _, h, hb, fun w _ _ _ w4 h4 _ => part_13 h1 h2 h3 h4⟩
set_option maxHeartbeats 2000000 in
set_option maxRecDepth 100000 in
theorem mobjects_is (w : World) (g : Nat) (S : St) (n : Nat) (Q F : Nat → Prop) (s : List UInt8) (q : AskV) (hs : s.length ≤ 100000) (hq : q.pre.size ≤ maxLen) (hm : HasM w g S n Q F) (hfi : S.Fine) (hn : n ≤ 10000) :
    Calls Tryd.prog 12 #[.pointer (some ⟨g, 0, none⟩), .string (mkS s), .agg #[.string q.pre, .string q.fr, .int .i64 q.fid, .int .i64 q.most]] w (PartIs S s q (ObjR q) w) := by
  obtain ⟨w2, hw2⟩ : ∃ w2, (w.alloc (.cells #[.string q.pre, .string q.fr, .int .i64 q.fid, .int .i64 q.most] 47)).alloc (.cells #[.slice none 0 0, .bool false, .string ⟨#[]⟩, .int .i64 0] 44) = w2 := ⟨_, rfl⟩
  have hs2 : w2.heap.size = w.heap.size + 2 := by rw [← hw2]; simp
  have hb2 : Below w.heap.size w w2 := by
    rw [← hw2]
    exact ((Below.refl _ _).alloc (Nat.le_refl _) _).alloc (by simp) _
  have h21 : w2.heap[w.heap.size + 1]? = some (.cells #[.slice none 0 0, .bool false, .string ⟨#[]⟩, .int .i64 0] 44 (0, 0)) := by
    rw [← hw2]
    have := heap_alloc_new (w.alloc (.cells #[.string q.pre, .string q.fr, .int .i64 q.fid, .int .i64 q.most] 47)) (.cells #[.slice none 0 0, .bool false, .string ⟨#[]⟩, .int .i64 0] 44)
    simpa using this
  have HC := Lib.hid (part_is w2 g S n Q F s q _ _ hs (hm.below hb2) (objsF q hq) hfi hn)
  have HW := Lib.hid hw2
  have H21 := Lib.hid h21
  have HB2 := Lib.hid hb2
  have HS2 := Lib.hid hs2
  obtain ⟨pre, fr, fid, most⟩ := q
  clear hm hfi hq hw2 h21 hb2 hs2
  go_enter Tryd.func12, Tryd.ntmps12
  go_wp2_with fail
  rw [show (w.alloc (.cells #[.string pre, .string fr, .int .i64 fid, .int .i64 most] 47)).alloc (.cells #[.slice none 0 0, .bool false, .string ⟨#[]⟩, .int .i64 0] 44) = w2 from HW.out]
  refine HC.out.mono ?_
  intro e w3 hpa
  obtain ⟨p, nn, cc, m, k, i, er, rfl, hb3, htell⟩ := part_cases hpa
  have h31 := (hb3.block _ (by have := HS2.out; omega)).trans H21.out
  have r0 : w3.cell? ⟨w.heap.size + 1, 0, none⟩ = some (.slice none 0 0) := (cells_of_heap h31).1 0 _ rfl
  have r1 : w3.cell? ⟨w.heap.size + 1, 1, none⟩ = some (.bool false) := (cells_of_heap h31).1 1 _ rfl
  have r2 : w3.cell? ⟨w.heap.size + 1, 2, none⟩ = some (.string ⟨#[]⟩) := (cells_of_heap h31).1 2 _ rfl
  have r3 : w3.cell? ⟨w.heap.size + 1, 3, none⟩ = some (.int .i64 0) := (cells_of_heap h31).1 3 _ rfl
  have z0 : w3.frozen? ⟨w.heap.size + 1, 0, none⟩ = false := (cells_of_heap h31).2 0
  have z1 : w3.frozen? ⟨w.heap.size + 1, 1, none⟩ = false := (cells_of_heap h31).2 1
  have z2 : w3.frozen? ⟨w.heap.size + 1, 2, none⟩ = false := (cells_of_heap h31).2 2
  have z3 : w3.frozen? ⟨w.heap.size + 1, 3, none⟩ = false := (cells_of_heap h31).2 3
  have H31 := Lib.hid h31
  have HB3 : Hid (Below w.heap.size w w3) := HB2.out.trans (hb3.mono HB2.out.size)
  have HT := Lib.hid htell
  clear h31 hb3 htell hpa
  go_wp2
  (try simp only [Exit.inBlock, Exit.then])
  have h61 := heap_set (heap_set (heap_set (heap_set H31.out 0 (.slice p nn cc)) 1 (.bool m)) 2 (.string k)) 3 (.int .i64 i)
  refine bodyPost_ret (ret_pair rfl _ _ (w.heap.size + 1) _ _ _ _ rfl h61 Tryd.underlying44 rfl (by kernel_rfl)) rfl ?_
  exact HT.out _ HB2.out (by have := HS2.out; omega) ((((HB3.out.setCell (p := ⟨w.heap.size + 1, 0, none⟩) (Nat.le_succ _) _).setCell (p := ⟨w.heap.size + 1, 1, none⟩) (Nat.le_succ _) _).setCell (p := ⟨w.heap.size + 1, 2, none⟩) (Nat.le_succ _) _).setCell (p := ⟨w.heap.size + 1, 3, none⟩) (Nat.le_succ _) _) (fun h hn => rowE_set (rowE_set (rowE_set (rowE_set h hn _ _) hn _ _) hn _ _) hn _ _)
set_option maxHeartbeats 2000000 in
set_option maxRecDepth 100000 in
theorem mversions_is (w : World) (g : Nat) (S : St) (n : Nat) (Q F : Nat → Prop) (s : List UInt8) (q : AskV) (hs : s.length ≤ 100000) (hq : q.pre.size ≤ maxLen) (hm : HasM w g S n Q F) (hfi : S.Fine) (hn : n ≤ 10000) :
    Calls Tryd.prog 11 #[.pointer (some ⟨g, 0, none⟩), .string (mkS s), .agg #[.string q.pre, .string q.fr, .int .i64 q.fid, .int .i64 q.most]] w (PartIs S s q (VerR q) w) := by
  obtain ⟨w2, hw2⟩ : ∃ w2, (w.alloc (.cells #[.string q.pre, .string q.fr, .int .i64 q.fid, .int .i64 q.most] 47)).alloc (.cells #[.slice none 0 0, .bool false, .string ⟨#[]⟩, .int .i64 0] 44) = w2 := ⟨_, rfl⟩
  have hs2 : w2.heap.size = w.heap.size + 2 := by rw [← hw2]; simp
  have hb2 : Below w.heap.size w w2 := by
    rw [← hw2]
    exact ((Below.refl _ _).alloc (Nat.le_refl _) _).alloc (by simp) _
  have h21 : w2.heap[w.heap.size + 1]? = some (.cells #[.slice none 0 0, .bool false, .string ⟨#[]⟩, .int .i64 0] 44 (0, 0)) := by
    rw [← hw2]
    have := heap_alloc_new (w.alloc (.cells #[.string q.pre, .string q.fr, .int .i64 q.fid, .int .i64 q.most] 47)) (.cells #[.slice none 0 0, .bool false, .string ⟨#[]⟩, .int .i64 0] 44)
    simpa using this
  have HC := Lib.hid (part_is w2 g S n Q F s q _ _ hs (hm.below hb2) (versF q hq) hfi hn)
  have HW := Lib.hid hw2
  have H21 := Lib.hid h21
  have HB2 := Lib.hid hb2
  have HS2 := Lib.hid hs2
  obtain ⟨pre, fr, fid, most⟩ := q
  clear hm hfi hq hw2 h21 hb2 hs2
  go_enter Tryd.func11, Tryd.ntmps11
  go_wp2_with fail
  rw [show (w.alloc (.cells #[.string pre, .string fr, .int .i64 fid, .int .i64 most] 47)).alloc (.cells #[.slice none 0 0, .bool false, .string ⟨#[]⟩, .int .i64 0] 44) = w2 from HW.out]
  refine HC.out.mono ?_
  intro e w3 hpa
  obtain ⟨p, nn, cc, m, k, i, er, rfl, hb3, htell⟩ := part_cases hpa
  have h31 := (hb3.block _ (by have := HS2.out; omega)).trans H21.out
  have r0 : w3.cell? ⟨w.heap.size + 1, 0, none⟩ = some (.slice none 0 0) := (cells_of_heap h31).1 0 _ rfl
  have r1 : w3.cell? ⟨w.heap.size + 1, 1, none⟩ = some (.bool false) := (cells_of_heap h31).1 1 _ rfl
  have r2 : w3.cell? ⟨w.heap.size + 1, 2, none⟩ = some (.string ⟨#[]⟩) := (cells_of_heap h31).1 2 _ rfl
  have r3 : w3.cell? ⟨w.heap.size + 1, 3, none⟩ = some (.int .i64 0) := (cells_of_heap h31).1 3 _ rfl
  have z0 : w3.frozen? ⟨w.heap.size + 1, 0, none⟩ = false := (cells_of_heap h31).2 0
  have z1 : w3.frozen? ⟨w.heap.size + 1, 1, none⟩ = false := (cells_of_heap h31).2 1
  have z2 : w3.frozen? ⟨w.heap.size + 1, 2, none⟩ = false := (cells_of_heap h31).2 2
  have z3 : w3.frozen? ⟨w.heap.size + 1, 3, none⟩ = false := (cells_of_heap h31).2 3
  have H31 := Lib.hid h31
  have HB3 : Hid (Below w.heap.size w w3) := HB2.out.trans (hb3.mono HB2.out.size)
  have HT := Lib.hid htell
  clear h31 hb3 htell hpa
  go_wp2
  (try simp only [Exit.inBlock, Exit.then])
  have h61 := heap_set (heap_set (heap_set (heap_set H31.out 0 (.slice p nn cc)) 1 (.bool m)) 2 (.string k)) 3 (.int .i64 i)
  refine bodyPost_ret (ret_pair rfl _ _ (w.heap.size + 1) _ _ _ _ rfl h61 Tryd.underlying44 rfl (by kernel_rfl)) rfl ?_
  exact HT.out _ HB2.out (by have := HS2.out; omega) ((((HB3.out.setCell (p := ⟨w.heap.size + 1, 0, none⟩) (Nat.le_succ _) _).setCell (p := ⟨w.heap.size + 1, 1, none⟩) (Nat.le_succ _) _).setCell (p := ⟨w.heap.size + 1, 2, none⟩) (Nat.le_succ _) _).setCell (p := ⟨w.heap.size + 1, 3, none⟩) (Nat.le_succ _) _) (fun h hn => rowE_set (rowE_set (rowE_set (rowE_set h hn _ _) hn _ _) hn _ _) hn _ _)
end Go.Proofs.YtjbjcfnbgcloiaaDoor

/- Buckets of package model: its buckets' names, rising. -/
namespace Go.Proofs.YtjbjcfnbgcloiaaDoor
open Go.RowKit Nam YtjbjcfnbgcloiaaDoorW.PrintWords Go.Shelf Go.Sort

abbrev fK : Nat := 47
abbrev fI : Nat := 63
abbrev fS : Nat := 46
theorem sortsB (m : Nat) : AnyZ.SortsIn Tryd.prog Tryd.sortedB_ren Fence.wide m :=
  ⟨fun blk off cap ss W hH hblk hsz => callsIn_wide.2 (AnyM.slices_Sort_string Tryd.sortB blk off cap ss W hH hblk hsz),
   fun p cap W => callsIn_wide.2 (AnyM.slices_Sort_string_none Tryd.sortB p cap W)⟩
theorem keysB_is (mb : Option Nat) (W : World) : Calls Tryd.prog fK #[.map mb] W fun e w' => e = .returned (.func (.func fI) #[] #[.pointer (some ⟨W.heap.size, 0, none⟩)]) ∧ w' = W.alloc (.cells #[.map mb] 59) :=
  (callsIn_wide (n := 5)).1 (AnyZ.keys_in Tryd.keysB Fence.wide 5 trivial rfl mb W)
set_option maxHeartbeats 1000000 in
theorem sortedB_is (b nn : Nat) (D0 : DataW Unit) (R : Value → Option (DataW Unit × List MemPlace)) (w : World) (hown : w.ownsMap Tryd.prog 9 R b nn D0) (hmax : Maps.size D0 ≤ maxLen) (hbytes : Maps.size D0 * 16 ≤ 140737488355328) :
    Calls Tryd.prog fS #[.func (.func fI) #[] #[.pointer (some ⟨w.heap.size, 0, none⟩)]] (w.alloc (.cells #[.map (some b)] 59)) fun e w' => ∃ (v : Value) (ss : List (List UInt8)), e = .returned v ∧ ss.Perm (strKeys D0) ∧
      w'.ownsRow (w.alloc (.cells #[.map (some b)] 59)).heap.size 9 1 v ss.length ((ss.mergeSort (fun x y => decide (x ≤ y))).map encStr) ∧ (v = .slice none 0 0 ↔ ss = []) ∧ Below (w.alloc (.cells #[.map (some b)] 59)).heap.size (w.alloc (.cells #[.map (some b)] 59)) w' := by
  have hbl := hown.lt
  have hseq : SeqGives Fence.wide 2 Tryd.prog fI #[.pointer (some ⟨w.heap.size, 0, none⟩)] encStr (fun ss => ss.Perm (strKeys D0)) (Maps.size D0) (w.alloc (.cells #[.map (some b)] 59)) :=
    AnyZ.keys_gives (ρ := Tryd.keysB_ren) { Tryd.keysB with } Fence.wide _ trivial rfl (by omega) w.heap.size b nn D0 _ (by simp) (by simp) (by
      obtain ⟨es, clock, hb, Ft, hs, hD⟩ := hown
      exact ⟨es, clock, (Below.heap_alloc _ _ b hbl).trans hb, Ft, hs, hD⟩)
  exact (callsIn_wide (n := 5)).1 (AnyZ.sorted_in Tryd.sortedB Fence.wide 5 trivial trivial trivial trivial rfl (by omega) (sortsB _) (enters_of Tryd.func62 (by kernel_rfl) rfl) fI #[.pointer (some ⟨w.heap.size, 0, none⟩)] trivial (enters_of Tryd.func63 (by kernel_rfl) rfl) _ _ hmax hbytes _ hseq)

theorem nodup_perm {α : Type} [DecidableEq α] : ∀ {l m : List α}, l.Nodup → m.Nodup → (∀ x, x ∈ l ↔ x ∈ m) → l.Perm m
  | [], m, _, _, h => by
    cases m with
    | nil => exact List.Perm.refl _
    | cons a r => exact absurd ((h a).2 List.mem_cons_self) List.not_mem_nil
  | a :: l, m, hl, hm, h => by
    have ha : a ∈ m := (h a).1 List.mem_cons_self
    have hp : m.Perm (a :: m.erase a) := List.perm_cons_erase ha
    refine List.Perm.trans (List.Perm.cons a (nodup_perm (List.nodup_cons.1 hl).2 (hm.erase a) fun x => ?_)) hp.symm
    rw [List.Nodup.mem_erase_iff hm]
    constructor
    · intro hx
      exact ⟨fun e => (List.nodup_cons.1 hl).1 (by rw [← e]; exact hx), (h x).1 (List.mem_cons_of_mem _ hx)⟩
    · rintro ⟨h1, h2⟩
      exact (List.mem_cons.1 ((h x).2 h2)).resolve_left h1
theorem keys_perm {w : World} {g n mb : Nat} {S : St} {Q F : Nat → Prop} {D : DataW Unit} (h : Outer w g S n Q F mb D) (nd : S.B.Nodup) : (strKeys D).Perm S.B := by
  obtain ⟨es, hD, hn⟩ := strMap_of h.o
  have hk : strKeys D = es.map Prod.fst := by
    rw [hD]
    show ((es.map fun p => (Lit.string p.1, p.2)).map fun p => strOf p.1) = _
    rw [List.map_map]
    rfl
  rw [hk]
  refine nodup_perm hn nd fun s => ?_
  have := h.hs s
  rw [hD, sm_has] at this
  exact decide_eq_decide.1 this
def BuckIs (S : St) (w : World) (e : Ending) (w' : World) : Prop :=
  (∃ (v : Value) (ss : List (List UInt8)), e = .returned v ∧ ss.Perm S.B ∧ w'.ownsRow w.heap.size 9 1 v ss.length ((ss.mergeSort (fun x y => decide (x ≤ y))).map encStr)) ∧ Below w.heap.size w w'
set_option maxHeartbeats 1000000 in
theorem buckets_is (w : World) (g : Nat) (S : St) (n : Nat) (Q F : Nat → Prop) (hl : S.B.length ≤ 1000) (hm : HasM w g S n Q F) :
    Calls Tryd.prog 22 #[.pointer (some ⟨g, 0, none⟩)] w (BuckIs S w) := by
  obtain ⟨mb, D, hO⟩ := hm.ex
  have c0 := (blk_cell hO.c 0).trans (rfl : _ = some (Value.map (some mb)))
  have hp := keys_perm hO hm.nd
  have HKe : Hid (Calls Tryd.prog fK #[.map (some mb)] w fun e w' => e = .returned (.func (.func fI) #[] #[.pointer (some ⟨w.heap.size, 0, none⟩)]) ∧ w' = w.alloc (.cells #[.map (some mb)] 59)) := keysB_is (some mb) w
  have HSo : Hid (Calls Tryd.prog fS #[.func (.func fI) #[] #[.pointer (some ⟨w.heap.size, 0, none⟩)]] (w.alloc (.cells #[.map (some mb)] 59)) (BuckIs S w)) :=
    (sortedB_is mb n D R1 w hO.o (by rw [hO.sz]; unfold maxLen; omega) (by rw [hO.sz]; omega)).mono fun e w' ⟨v, ss, he, h1, h2, _, hb⟩ => by
      have hb1 : Below w.heap.size w (w.alloc (.cells #[.map (some mb)] 59)) := (Below.refl _ _).alloc (Nat.le_refl _) _
      exact ⟨⟨v, ss, he, h1.trans hp, own_weaken h2 hb1.size⟩, hb1.trans (hb.mono hb1.size)⟩
  clear hO hm hp
  go_enter Tryd.func22, Tryd.ntmps22
  go_wp2_with fail
  refine HKe.out.mono ?_
  rintro e w' ⟨rfl, rfl⟩
  go_wp2_with fail
  refine HSo.out.mono ?_
  rintro e w2 ⟨⟨v, ss, rfl, h1, h2⟩, hb⟩
  have HH := Lib.hid (And.intro h1 (And.intro h2 hb))
  clear h1 h2 hb
  go_wp2_with fail
  go_ret
  exact ⟨⟨v, ss, rfl, HH.out.1, HH.out.2.1⟩, HH.out.2.2⟩
end Go.Proofs.YtjbjcfnbgcloiaaDoor

/- Call of the statements of layer 22: make, remove. -/
set_option linter.unusedSimpArgs false
set_option linter.unusedVariables false
namespace Go.Proofs.YtjbjcfnbgcloiaaDoor
open Go.RowKit Nam YtjbjcfnbgcloiaaDoorW.PrintWords

/-- An answer; the model may have new maps. -/
def AnsQ (P : Kp → Value → World → Prop) (S' : St) (n : Nat) (Q F : Nat → Prop) (g : Nat) (err : Int) (w : World) (e : Ending) (w' : World) : Prop :=
  (∃ y dv, e = .returned (.agg (ansL err y dv).toArray) ∧ P y dv w') ∧ (∃ Q' F', HasM w' g S' (n + 1) Q' F' ∧ (∀ j, Q' j → Q j ∨ w.heap.size ≤ j) ∧ ∀ j, F' j → F j ∨ w.heap.size ≤ j) ∧ Moved Q w w'
theorem ans_finQ {w W3 w4 V : World} {g n n' : Nat} {S S' : St} {Q F : Nat → Prop} {cs : Array Value} (hm : HasM w g S n' Q F) (hbx : Boxed w W3 cs) (hf : ∃ Q' F', HasM w4 g S' (n + 1) Q' F' ∧ (∀ j, Q' j → Q j ∨ W3.heap.size ≤ j) ∧ ∀ j, F' j → F j ∨ W3.heap.size ≤ j) (hmv : Moved Q W3 w4) (ho : Only w.heap.size (w.heap.size + 3) w4 V) :
    (∃ Q' F', HasM V g S' (n + 1) Q' F' ∧ (∀ j, Q' j → Q j ∨ w.heap.size ≤ j) ∧ ∀ j, F' j → F j ∨ w.heap.size ≤ j) ∧ Moved Q w V := by
  obtain ⟨Q', F', h1, h2, h3⟩ := hf
  have hs := hbx.s
  refine ⟨⟨Q', F', h1.kept (fun k hk => ho.block k (isC_lt (h1.f k hk)) ?_) (fun k hk => ho.block k (isM_lt (h1.q k hk)) ?_), fun j hj => (h2 j hj).imp_right fun e => by omega, fun j hj => (h3 j hj).imp_right fun e => by omega⟩, ?_⟩
  · rcases h3 k hk with h | h
    · exact .inl (isC_lt (hm.f k h))
    · exact .inr (by omega)
  · rcases h2 k hk with h | h
    · exact .inl (isM_lt (hm.q k h))
    · exact .inr (by omega)
  · refine ⟨ho.os.trans (hmv.os.trans hbx.b.os), ho.tape.trans (hmv.tape.trans hbx.b.tape), ho.output.trans (hmv.output.trans hbx.b.output), Nat.le_trans hbx.b.size (Nat.le_trans hmv.size ho.size), fun k hk hn => ?_⟩
    rw [ho.block k (by have := hmv.size; omega) (.inl hk), hmv.block k (by omega) hn, hbx.b.block k hk]
set_option maxHeartbeats 2000000 in
set_option maxRecDepth 100000 in
theorem call_make (w : World) (g : Nat) (S : St) (n : Nat) (Q F : Nat → Prop) (b k pf fr : List UInt8) (dv : Value) (id nn a fi mo : Int) (hb : b.length ≤ 100000) (hn : n ≤ 100000) (hm : HasM w g S n Q F) :
    Calls Tryd.prog 10 #[.pointer (some ⟨g, 0, none⟩), .agg #[.int .i64 1, .string (mkS b), .string (mkS k), dv, .int .i64 nn, .int .i64 a, .string (mkS pf), .string (mkS fr), .int .i64 fi, .int .i64 mo], .int .i64 id] w
      (AnsQ (fun y dv _ => y = kp0 ∧ dv = .slice none 0 0) (S.make b).1 n Q F g (S.make b).2 w) := by
  obtain ⟨W3, hW3⟩ : ∃ W3, ((w.alloc (.cells #[.int .i64 1, .string (mkS b), .string (mkS k), dv, .int .i64 nn, .int .i64 a, .string (mkS pf), .string (mkS fr), .int .i64 fi, .int .i64 mo] 33)).alloc (.cells ans0 42)).alloc (.cells ans0 42) = W3 := ⟨_, rfl⟩
  have hbx := boxed_mk w #[.int .i64 1, .string (mkS b), .string (mkS k), dv, .int .i64 nn, .int .i64 a, .string (mkS pf), .string (mkS fr), .int .i64 fi, .int .i64 mo]
  rw [hW3] at hbx
  have HC : Hid (Calls Tryd.prog 9 #[.pointer (some ⟨g, 0, none⟩), .string (mkS b)] W3 fun e w' => e = .returned (.int .i64 ((S.make b).2)) ∧ Hid ((∃ Q' F', HasM w' g (S.make b).1 (n + 1) Q' F' ∧ (∀ j, Q' j → Q j ∨ W3.heap.size ≤ j) ∧ ∀ j, F' j → F j ∨ W3.heap.size ≤ j) ∧ Moved Q W3 w') ∧ Hid (w'.heap[w.heap.size + 1]? = some (.cells ans0 42 (0, 0)) ∧ w'.heap[w.heap.size + 1 + 1]? = some (.cells ans0 42 (0, 0)) ∧ w.heap.size + 3 ≤ w'.heap.size)) :=
    (make_is W3 g S n Q F b hb hn (hm.below hbx.b)).mono fun e w' ⟨Q', h1, h2, h3, h4⟩ => ⟨h1, ⟨⟨Q', F, h2, h4, fun j hj => .inl hj⟩, h3⟩, boxed_after hbx hm.q h3⟩
  have HBX := Lib.hid hbx
  have HM := Lib.hid hm
  have HW3 := Lib.hid hW3
  obtain ⟨c0, c1, c2, c3, c4, c5, c6, c7, c8, c9⟩ := chAt_of hbx.k4
  clear c2 c3 c4 c5 c6 c7 c8 c9
  obtain ⟨er, her⟩ : ∃ er, (S.make b).2 = er := ⟨_, rfl⟩
  rw [her] at HC ⊢
  clear hm hbx hW3 her
  go_enter Tryd.func10, Tryd.ntmps10
  go_upto_region 2 with (fail)
  rw [HW3.out]
  clear HW3
  go_wp2_with fail
  refine HC.out.mono ?_
  rintro e w4 ⟨rfl, HF, HB⟩
  obtain ⟨z0, z1, z2, z3, z4, z5, z6, z7, z8, z9, z10⟩ := zeros_of HB.out.2.1
  have f0 := blk_frozen HB.out.2.1 0
  have HB6 : Hid (∀ u, (w4.setCell ⟨w.heap.size + 1 + 1, 0, none⟩ u).heap[w.heap.size + 1]? = some (.cells ans0 42 (0, 0))) := fun u => blk_far HB.out.1 (by simp) u
  go_wp2_with (refine wpList_store_row rfl 42 (.tmp 6) (.tmp 159) rfl (w.heap.size + 1) (ansL er kp0 (.slice none 0 0)).toArray rfl rfl 42 _ (HB6.out _) (by kernel_rfl) rfl (by simp [ansL, Value.oneCell']) ?_)
  refine bodyPost_ret (results_single rfl (.cell (w.heap.size + 1) 42 (ansL er kp0 (.slice none 0 0)).toArray (0, 0) _ rfl (setRow_heap _ _ _ _ _ _ (HB6.out _)) Tryd.underlying42 rfl (by kernel_rfl) .nil)) rfl ?_
  exact ⟨⟨kp0, .slice none 0 0, rfl, rfl, rfl⟩, ans_finQ HM.out HBX.out HF.out.1 HF.out.2 (((Only.refl _ _ _).put 0 _ (by omega) (by omega)).row _ (by omega) (by omega))⟩
set_option maxHeartbeats 2000000 in
set_option maxRecDepth 100000 in
theorem call_rem (w : World) (g : Nat) (S : St) (n : Nat) (Q F : Nat → Prop) (b k pf fr : List UInt8) (dv : Value) (id nn a fi mo : Int) (hb : b.length ≤ 100000) (hn : n ≤ 100000) (hm : HasM w g S n Q F) :
    Calls Tryd.prog 10 #[.pointer (some ⟨g, 0, none⟩), .agg #[.int .i64 2, .string (mkS b), .string (mkS k), dv, .int .i64 nn, .int .i64 a, .string (mkS pf), .string (mkS fr), .int .i64 fi, .int .i64 mo], .int .i64 id] w
      (AnsIs (fun y dv _ => y = kp0 ∧ dv = .slice none 0 0) (S.remove b).1 n Q F g (S.remove b).2 w) := by
  obtain ⟨W3, hW3⟩ : ∃ W3, ((w.alloc (.cells #[.int .i64 2, .string (mkS b), .string (mkS k), dv, .int .i64 nn, .int .i64 a, .string (mkS pf), .string (mkS fr), .int .i64 fi, .int .i64 mo] 33)).alloc (.cells ans0 42)).alloc (.cells ans0 42) = W3 := ⟨_, rfl⟩
  have hbx := boxed_mk w #[.int .i64 2, .string (mkS b), .string (mkS k), dv, .int .i64 nn, .int .i64 a, .string (mkS pf), .string (mkS fr), .int .i64 fi, .int .i64 mo]
  rw [hW3] at hbx
  have HC : Hid (Calls Tryd.prog 21 #[.pointer (some ⟨g, 0, none⟩), .string (mkS b)] W3 fun e w' => e = .returned (.int .i64 ((S.remove b).2)) ∧ Hid ((∃ F', HasM w' g (S.remove b).1 (n + 1) Q F' ∧ ∀ j, F' j → F j ∨ W3.heap.size ≤ j) ∧ Moved Q W3 w') ∧ Hid (w'.heap[w.heap.size + 1]? = some (.cells ans0 42 (0, 0)) ∧ w'.heap[w.heap.size + 1 + 1]? = some (.cells ans0 42 (0, 0)) ∧ w.heap.size + 3 ≤ w'.heap.size)) :=
    (remove_is W3 g S n Q F b hb (hm.below hbx.b)).mono fun e w' ⟨h1, h2, h3⟩ => ⟨h1, ⟨⟨F, h2.mono (by omega), fun j hj => .inl hj⟩, h3⟩, boxed_after hbx hm.q h3⟩
  have HBX := Lib.hid hbx
  have HM := Lib.hid hm
  have HW3 := Lib.hid hW3
  obtain ⟨c0, c1, c2, c3, c4, c5, c6, c7, c8, c9⟩ := chAt_of hbx.k4
  clear c2 c3 c4 c5 c6 c7 c8 c9
  obtain ⟨er, her⟩ : ∃ er, (S.remove b).2 = er := ⟨_, rfl⟩
  rw [her] at HC ⊢
  clear hm hbx hW3 her
  go_enter Tryd.func10, Tryd.ntmps10
  go_upto_region 2 with (fail)
  rw [HW3.out]
  clear HW3
  go_wp2_with fail
  refine HC.out.mono ?_
  rintro e w4 ⟨rfl, HF, HB⟩
  obtain ⟨z0, z1, z2, z3, z4, z5, z6, z7, z8, z9, z10⟩ := zeros_of HB.out.2.1
  have f0 := blk_frozen HB.out.2.1 0
  have HB6 : Hid (∀ u, (w4.setCell ⟨w.heap.size + 1 + 1, 0, none⟩ u).heap[w.heap.size + 1]? = some (.cells ans0 42 (0, 0))) := fun u => blk_far HB.out.1 (by simp) u
  go_wp2_with (refine wpList_store_row rfl 42 (.tmp 6) (.tmp 159) rfl (w.heap.size + 1) (ansL er kp0 (.slice none 0 0)).toArray rfl rfl 42 _ (HB6.out _) (by kernel_rfl) rfl (by simp [ansL, Value.oneCell']) ?_)
  refine bodyPost_ret (results_single rfl (.cell (w.heap.size + 1) 42 (ansL er kp0 (.slice none 0 0)).toArray (0, 0) _ rfl (setRow_heap _ _ _ _ _ _ (HB6.out _)) Tryd.underlying42 rfl (by kernel_rfl) .nil)) rfl ?_
  exact ⟨⟨kp0, .slice none 0 0, rfl, rfl, rfl⟩, ans_fin HM.out HBX.out HF.out.1 HF.out.2 (((Only.refl _ _ _).put 0 _ (by omega) (by omega)).row _ (by omega) (by omega))⟩
end Go.Proofs.YtjbjcfnbgcloiaaDoor

/- Call of the statements of layer 22: buckets. -/
set_option linter.unusedSimpArgs false
set_option linter.unusedVariables false
namespace Go.Proofs.YtjbjcfnbgcloiaaDoor
open Go.RowKit Nam YtjbjcfnbgcloiaaDoorW.PrintWords

abbrev ansN (v : Value) : Array Value := #[.int .i64 0, .int .i64 0, .bool false, .int .i64 0, .int .u32 0, .slice none 0 0, .slice none 0 0, .bool false, .string ⟨#[]⟩, .int .i64 0, v]
def NamesIs (S : St) (w : World) (e : Ending) (w' : World) : Prop :=
  (∃ (v : Value) (ss : List (List UInt8)), e = .returned (.agg (ansN v)) ∧ ss.Perm S.B ∧ w'.ownsRow w.heap.size 9 1 v ss.length ((ss.mergeSort (fun x y => decide (x ≤ y))).map encStr)) ∧ Below w.heap.size w w'
theorem below_only {w W V : World} {C : Nat} (h : Below w.heap.size w W) (ho : Only w.heap.size C W V) : Below w.heap.size w V :=
  ⟨ho.os.trans h.os, ho.tape.trans h.tape, ho.output.trans h.output, Nat.le_trans h.size ho.size, fun k hk => (ho.block k (Nat.lt_of_lt_of_le hk h.size) (.inl hk)).trans (h.block k hk)⟩
set_option maxHeartbeats 2000000 in
set_option maxRecDepth 100000 in
theorem call_buckets (w : World) (g : Nat) (S : St) (n : Nat) (Q F : Nat → Prop) (b k pf fr : List UInt8) (dv : Value) (id nn a fi mo : Int) (hl : S.B.length ≤ 1000) (hm : HasM w g S n Q F) :
    Calls Tryd.prog 10 #[.pointer (some ⟨g, 0, none⟩), .agg #[.int .i64 3, .string (mkS b), .string (mkS k), dv, .int .i64 nn, .int .i64 a, .string (mkS pf), .string (mkS fr), .int .i64 fi, .int .i64 mo], .int .i64 id] w (NamesIs S w) := by
  obtain ⟨W3, hW3⟩ : ∃ W3, ((w.alloc (.cells #[.int .i64 3, .string (mkS b), .string (mkS k), dv, .int .i64 nn, .int .i64 a, .string (mkS pf), .string (mkS fr), .int .i64 fi, .int .i64 mo] 33)).alloc (.cells ans0 42)).alloc (.cells ans0 42) = W3 := ⟨_, rfl⟩
  have hbx := boxed_mk w #[.int .i64 3, .string (mkS b), .string (mkS k), dv, .int .i64 nn, .int .i64 a, .string (mkS pf), .string (mkS fr), .int .i64 fi, .int .i64 mo]
  rw [hW3] at hbx
  have HC := Lib.hid (buckets_is W3 g S n Q F hl (hm.below hbx.b))
  have HBX := Lib.hid hbx
  have HM := Lib.hid hm
  have HW3 := Lib.hid hW3
  obtain ⟨c0, c1, c2, c3, c4, c5, c6, c7, c8, c9⟩ := chAt_of hbx.k4
  clear c1 c2 c3 c4 c5 c6 c7 c8 c9
  clear hm hbx hW3
  go_enter Tryd.func10, Tryd.ntmps10
  go_upto_region 2 with (fail)
  rw [HW3.out]
  clear HW3
  go_wp2_with fail
  refine HC.out.mono ?_
  intro e w4 hbk
  obtain ⟨⟨v, ss, rfl, hp, ho⟩, hb4⟩ := hbk
  have hbA := boxed_after HBX.out HM.out.q (Moved.of_below hb4)
  have HB := Lib.hid hbA
  obtain ⟨p, nv, cv, rfl⟩ : ∃ p nv cv, v = .slice p nv cv := by
    rcases ho.2 with ⟨h1, _⟩ | ⟨g1, c1, cur, h1, _⟩
    · exact ⟨none, 0, 0, h1⟩
    · exact ⟨_, _, _, h1⟩
  have HO := Lib.hid ho
  have HB4 := Lib.hid hb4
  clear hbA ho hb4
  obtain ⟨z0, z1, z2, z3, z4, z5, z6, z7, z8, z9, z10⟩ := zeros_of HB.out.2.1
  have f0 := blk_frozen HB.out.2.1 10
  have HB6 : Hid (∀ u, (w4.setCell ⟨w.heap.size + 1 + 1, 10, none⟩ u).heap[w.heap.size + 1]? = some (.cells ans0 42 (0, 0))) := fun u => blk_far HB.out.1 (by simp) u
  go_wp2_with (refine wpList_store_row rfl 42 (.tmp 6) (.tmp 159) rfl (w.heap.size + 1) (ansN (.slice p nv cv)) rfl rfl 42 _ (HB6.out _) (by kernel_rfl) rfl (by simp [Value.oneCell']) ?_)
  refine bodyPost_ret (results_single rfl (.cell (w.heap.size + 1) 42 (ansN (.slice p nv cv)) (0, 0) _ rfl (setRow_heap _ _ _ _ _ _ (HB6.out _)) Tryd.underlying42 rfl (by kernel_rfl) .nil)) rfl ?_
  have hon : Only w.heap.size (w.heap.size + 3) w4 ((w4.setCell ⟨w.heap.size + 1 + 1, 10, none⟩ (.slice p nv cv)).setRow (w.heap.size + 1) (ansN (.slice p nv cv))) := ((Only.refl _ _ _).put 10 _ (by omega) (by omega)).row _ (by omega) (by omega)
  have hs := HBX.out.s
  refine ⟨⟨_, ss, rfl, hp, ?_⟩, below_only (HBX.out.b.trans (HB4.out.mono HBX.out.b.size)) hon⟩
  refine own_weaken (own_at HO.out fun g1 hg1 => hon.block g1 (own_lt HO.out g1 hg1) (.inr ?_)) HBX.out.b.size
  have := own_ge HO.out g1 hg1
  omega
end Go.Proofs.YtjbjcfnbgcloiaaDoor

/- Layer 8: Ask, Answer: merged (pgm.py). -/
namespace Go.Proofs.YtjbjcfnbgcloiaaDoor
open Go.Shelf Go.RowKit Go.Lib Nam

theorem own_form {w : World} {base n : Nat} {e : TypeId} {size : Nat} {v : Value} {xs : List Value} (h : w.ownsRow base e size v n xs) : ∃ p c, v = .slice p n c := by
  rcases h.2 with ⟨h1, h2⟩ | ⟨g, cap, cur, h1, _⟩
  · exact ⟨none, 0, by rw [h1, h2]⟩
  · exact ⟨_, _, h1⟩
theorem results_cell1 {fn : Func} {p : Tmp} {ty : TypeId} (h : fn.results = #[.cell p ty]) (tmps : Array Value) (P : Program) (w : World) :
    (results fn tmps).run P w = ((asAddr (tmps.getD p undef)).run P w).andThen fun a w₁ => (loadVar ty a).run P w₁ := by
  simp only [results, h]
  simp [Sem.run_bind, Result.andThen]
theorem ret_agg {P : Program} {fn : Func} {p : Tmp} {ty : TypeId} (h : fn.results = #[.cell p ty]) (tmps : Array Value) (w : World) (g : Nat) (t : TypeId) (cs : Array Value) (fr : Nat × Nat) (d : TypeDesc)
    (hp : tmps.getD p undef = .pointer (some ⟨g, 0, none⟩)) (hg : w.heap[g]? = some (.cells cs t fr))
    (hu : P.underlying ty = some d) (hd : (match d with | .struct _ | .array _ _ => true | _ => false) = true) (hi : (P.info? ty).map (·.size) = some cs.size) :
    (results fn tmps).run P w = .ok (.agg cs) w := by
  rw [results_cell1 h, hp]
  simp [asAddr, run_loadVar_row w g t ty cs fr d hg hu hd hi]
set_option maxHeartbeats 1000000 in
theorem ask_is (a b : ByteArray) (c d : Int) (w : World) :
    Calls Tryd.prog 25 #[.agg #[.string a, .string b, .int .i64 c, .int .i64 d]] w fun e w' => e = .returned (.agg #[.string a, .string b, .int .i64 c, .int .i64 d]) ∧ Below w.heap.size w w' := by
  have h31 : ∀ o, ((w.alloc o).alloc (.cells #[.string a, .string b, .int .i64 c, .int .i64 d] 47)).heap[w.heap.size + 1]? = some (.cells #[.string a, .string b, .int .i64 c, .int .i64 d] 47 (0, 0)) := fun o => by
    have := heap_alloc_new (w.alloc o) (.cells #[.string a, .string b, .int .i64 c, .int .i64 d] 47)
    simpa using this
  have H31 := Lib.hid h31; clear h31
  go_enter Tryd.func25, Tryd.ntmps25
  go_wp2
  refine bodyPost_ret (ret_agg rfl _ _ (w.heap.size + 1) _ _ _ _ rfl (H31.out _) Tryd.underlying47 rfl (by kernel_rfl)) rfl ?_
  exact ⟨rfl, ((Below.refl _ _).alloc (Nat.le_refl _) _).alloc (by simp) _⟩
set_option maxHeartbeats 1000000 in
theorem answer_is (sv : Value) (L : List Ent) (mo : Bool) (ke : ByteArray) (ci : Int) (hL : L.length ≤ 1000000) (w : World) (h : RowE w sv L) :
    Calls Tryd.prog 26 #[.agg #[sv, .bool mo, .string ke, .int .i64 ci]] w fun e w' => ∃ sv', e = .returned (.agg #[sv', .bool mo, .string ke, .int .i64 ci]) ∧ RowE w' sv' L ∧ (∀ b o n c, sv' = .slice (some ⟨b, o, none⟩) n c → w.heap.size ≤ b) ∧ Below w.heap.size w w' := by
  obtain ⟨p, c, rfl, -⟩ := len_of_row h
  have HR := Lib.hid h; clear h
  go_enter Tryd.func26, Tryd.ntmps26
  go_wp2_with fail
  obtain ⟨W2, hW2⟩ : ∃ W2, (w.alloc (.cells #[.slice p L.length c, .bool mo, .string ke, .int .i64 ci] 44)).alloc (.cells #[.slice none 0 0, .bool false, .string ⟨#[]⟩, .int .i64 0] 39) = W2 := ⟨_, rfl⟩
  rw [hW2]
  have s2 : W2.heap.size = w.heap.size + 2 := by rw [← hW2]; simp
  have hb2 : Below w.heap.size w W2 := by rw [← hW2]; exact ((Below.refl _ _).alloc (Nat.le_refl _) _).alloc (by simp) _
  have h20 : W2.heap[w.heap.size]? = some (.cells #[.slice p L.length c, .bool mo, .string ke, .int .i64 ci] 44 (0, 0)) := by rw [← hW2, heap_alloc_old _ _ (by simp), heap_alloc_new]
  have h21 : W2.heap[w.heap.size + 1]? = some (.cells #[.slice none 0 0, .bool false, .string ⟨#[]⟩, .int .i64 0] 39 (0, 0)) := by
    rw [← hW2]
    have := heap_alloc_new (w.alloc (.cells #[.slice p L.length c, .bool mo, .string ke, .int .i64 ci] 44)) (.cells #[.slice none 0 0, .bool false, .string ⟨#[]⟩, .int .i64 0] 39)
    simpa using this
  have k0 : W2.cell? ⟨w.heap.size, 0, none⟩ = some (.slice p L.length c) := (cells_of_heap h20).1 0 _ rfl
  have k1 : W2.cell? ⟨w.heap.size, 1, none⟩ = some (.bool mo) := (cells_of_heap h20).1 1 _ rfl
  have k2 : W2.cell? ⟨w.heap.size, 2, none⟩ = some (.string ke) := (cells_of_heap h20).1 2 _ rfl
  have k3 : W2.cell? ⟨w.heap.size, 3, none⟩ = some (.int .i64 ci) := (cells_of_heap h20).1 3 _ rfl
  have H21 := Lib.hid h21; clear h21
  have H20 := Lib.hid h20; clear h20
  have HS := Lib.hid s2
  have HB2 := Lib.hid hb2; clear hb2
  have HR2 := Lib.hid (show RowE W2.drew (.slice p L.length c) L from HR.out.below (HB2.out.drewN 1))
  clear hW2 s2
  go_region_held_law (fun w' => w'.cell? ⟨w.heap.size, 0, none⟩ = some (.slice p L.length c) ∧ w'.cell? ⟨w.heap.size, 1, none⟩ = some (.bool mo) ∧ w'.cell? ⟨w.heap.size, 2, none⟩ = some (.string ke) ∧ w'.cell? ⟨w.heap.size, 3, none⟩ = some (.int .i64 ci))
    (first | exact ⟨k0, k1, k2, k3⟩ | exact ⟨K0, K1, K2, K3⟩ | go_keep)
    ((refine step_append_rowE (xs := []) (base := W2.heap.size) (by rfl) (.const (.slice none 0 0)) (.tmp 4) (by rfl) (by rfl) ⟨rfl, .inl ⟨rfl, rfl⟩⟩ (by rfl) HR2.out (by simp; omega) (Nat.le_refl _) ?_; intro v1 wa hown1 hgr1 _; rw [List.nil_append] at hown1; obtain ⟨pv, cv, hv⟩ := own_form hown1; rw [hv] at hown1; rw [hv]; clear hv; have HB3 := Lib.hid (show Below W2.heap.size W2 wa from ((Below.refl _ _).drewN 1).grown hgr1 (Nat.le_refl _) (fun k hk => by cases hk)); have s2 := HS.out; have h2a : wa.heap[w.heap.size]? = some (.cells #[.slice p L.length c, .bool mo, .string ke, .int .i64 ci] 44 (0, 0)) := (HB3.out.block _ (by omega)).trans H20.out; have h3a : wa.heap[w.heap.size + 1]? = some (.cells #[.slice none 0 0, .bool false, .string ⟨#[]⟩, .int .i64 0] 39 (0, 0)) := (HB3.out.block _ (by omega)).trans H21.out; have K0 := (cells_of_heap h2a).1 0 _ rfl; have K1 := (cells_of_heap h2a).1 1 _ rfl; have K2 := (cells_of_heap h2a).1 2 _ rfl; have K3 := (cells_of_heap h2a).1 3 _ rfl; have r0 := (cells_of_heap h3a).1 0 _ rfl; have r1 := (cells_of_heap h3a).1 1 _ rfl; have r2 := (cells_of_heap h3a).1 2 _ rfl; have r3 := (cells_of_heap h3a).1 3 _ rfl; have z0 := (cells_of_heap h3a).2 0; have z1 := (cells_of_heap h3a).2 1; have z2 := (cells_of_heap h3a).2 2; have z3 := (cells_of_heap h3a).2 3; have HO := Lib.hid hown1; have H3A := Lib.hid h3a; clear hown1 hgr1 h2a h3a s2))
  all_goals
    go_wp2
    (try simp only [Exit.inBlock, Exit.then])
    have h61 := heap_set (heap_set (heap_set (heap_set H3A.out 0 (.slice pv L.length cv)) 1 (.bool mo)) 2 (.string ke)) 3 (.int .i64 ci)
    refine bodyPost_ret (ret_agg rfl _ _ (w.heap.size + 1) _ _ _ _ rfl h61 Tryd.underlying39 rfl (by kernel_rfl)) rfl ?_
    have hs := HS.out
    have hrow := rowE_own HO.out
    have hne : ∀ b o n c, Value.slice pv L.length cv = .slice (some ⟨b, o, none⟩) n c → b ≠ w.heap.size + 1 := fun b o n c h => by
      have h1 := hrow.2 b o n c h
      omega
    refine ⟨_, rfl, rowE_set (rowE_set (rowE_set (rowE_set hrow.1 hne _ _) hne _ _) hne _ _) hne _ _, fun b o n c h => (by have h1 := hrow.2 b o n c h; omega), ?_⟩
    exact ((((HB2.out.trans (HB3.out.mono (by omega))).setCell (p := ⟨w.heap.size + 1, 0, none⟩) (Nat.le_succ _) _).setCell (p := ⟨w.heap.size + 1, 1, none⟩) (Nat.le_succ _) _).setCell (p := ⟨w.heap.size + 1, 2, none⟩) (Nat.le_succ _) _).setCell (p := ⟨w.heap.size + 1, 3, none⟩) (Nat.le_succ _) _
end Go.Proofs.YtjbjcfnbgcloiaaDoor

/- Call of the statements of layer 22: objects, versions. -/
set_option linter.unusedSimpArgs false
set_option linter.unusedVariables false
namespace Go.Proofs.YtjbjcfnbgcloiaaDoor
open Go.RowKit Nam YtjbjcfnbgcloiaaDoorW.PrintWords Go.Lib

abbrev askV (pf fr : List UInt8) (fi mo : Int) : AskV := ⟨mkS pf, mkS fr, fi, mo⟩
abbrev ansPg (er : Int) (v : Value) (m : Bool) (k : ByteArray) (i : Int) : Array Value := #[.int .i64 er, .int .i64 0, .bool false, .int .i64 0, .int .u32 0, .slice none 0 0, v, .bool m, .string k, .int .i64 i, .slice none 0 0]
/-- What a page call tells. -/
def Tells (S : St) (s : List UInt8) (q : AskV) (Res : List Ent → List Ent → Bool → ByteArray → Int → Prop) (er : Int) (L : List Ent) (m : Bool) (k : ByteArray) (i : Int) : Prop :=
  if bucketB s = false then er = 12 ∧ L = [] ∧ m = false ∧ k = ⟨#[]⟩ ∧ i = 0
  else if okA q = false then er = 1 ∧ L = [] ∧ m = false ∧ k = ⟨#[]⟩ ∧ i = 0
  else if s ∉ S.B then er = 13 ∧ L = [] ∧ m = false ∧ k = ⟨#[]⟩ ∧ i = 0
  else er = 0 ∧ ∃ ks, AllOf (S.V s) ks ∧ Res (entsOf (S.V s) ks) L m k i
theorem part_tells {S : St} {s : List UInt8} {q : AskV} {Res : List Ent → List Ent → Bool → ByteArray → Int → Prop} {w2 : World} {e : Ending} {w3 : World} (h : PartIs S s q Res w2 e w3) :
    ∃ (p : Option Addr) (nn cc : Nat) (m : Bool) (k : ByteArray) (i er : Int) (L : List Ent), e = ansP (.slice p nn cc) m k i er ∧ Below w2.heap.size w2 w3 ∧ RowE w3 (.slice p nn cc) L ∧ (∀ b f n c, Value.slice p nn cc = .slice (some ⟨b, f, none⟩) n c → w2.heap.size ≤ b) ∧ Tells S s q Res er L m k i := by
  obtain ⟨hb, h⟩ := h
  have hnil : ∀ (b f n c : Nat), Value.slice none 0 0 = .slice (some ⟨b, f, none⟩) n c → w2.heap.size ≤ b := fun b f n c e => by cases e
  unfold Tells
  by_cases h1 : bucketB s = false
  · rw [if_pos h1] at h
    exact ⟨none, 0, 0, _, _, _, _, [], h, hb, .inl ⟨rfl, rfl⟩, hnil, by rw [if_pos h1]; exact ⟨rfl, rfl, rfl, rfl, rfl⟩⟩
  · rw [if_neg h1] at h
    by_cases h2 : okA q = false
    · rw [if_pos h2] at h
      exact ⟨none, 0, 0, _, _, _, _, [], h, hb, .inl ⟨rfl, rfl⟩, hnil, by rw [if_neg h1, if_pos h2]; exact ⟨rfl, rfl, rfl, rfl, rfl⟩⟩
    · rw [if_neg h2] at h
      by_cases h3 : s ∈ S.B
      · rw [if_neg (fun e => e h3)] at h
        obtain ⟨ks, sv, o, m, k, i, ha, rfl, hr, hf, hR⟩ := h
        obtain ⟨p, cc, rfl, _⟩ := len_of_row hr
        exact ⟨p, _, cc, m, k, i, 0, o, rfl, hb, hr, hf, by rw [if_neg h1, if_neg h2, if_neg (fun e => e h3)]; exact ⟨rfl, ks, ha, hR⟩⟩
      · rw [if_pos h3] at h
        exact ⟨none, 0, 0, _, _, _, _, [], h, hb, .inl ⟨rfl, rfl⟩, hnil, by rw [if_neg h1, if_neg h2, if_pos h3]; exact ⟨rfl, rfl, rfl, rfl, rfl⟩⟩
theorem tells_len {S : St} {s : List UInt8} {q : AskV} {Res : List Ent → List Ent → Bool → ByteArray → Int → Prop} (hR : ∀ l o m k i, Res l o m k i → o.length ≤ q.most.toNat) {er : Int} {L : List Ent} {m : Bool} {k : ByteArray} {i : Int} (h : Tells S s q Res er L m k i) : L.length ≤ 1000 := by
  unfold Tells at h
  by_cases h1 : bucketB s = false
  · rw [if_pos h1] at h; rw [h.2.1]; simp
  · rw [if_neg h1] at h
    by_cases h2 : okA q = false
    · rw [if_pos h2] at h; rw [h.2.1]; simp
    · rw [if_neg h2] at h
      by_cases h3 : s ∈ S.B
      · rw [if_neg (fun e => e h3)] at h
        obtain ⟨_, ks, _, hr⟩ := h
        have h4 := hR _ _ _ _ _ hr
        have h5 : okA q = true := by simpa using h2
        unfold okA at h5
        have := of_decide_eq_true h5
        omega
      · rw [if_pos h3] at h; rw [h.2.1]; simp
theorem verR_len {q : AskV} (l o : List Ent) (m : Bool) (k : ByteArray) (i : Int) (h : VerR q l o m k i) : o.length ≤ q.most.toNat := by
  obtain ⟨l', _, _, rfl, _⟩ := h
  rw [List.length_take]
  omega
theorem objR_len {q : AskV} (l o : List Ent) (m : Bool) (k : ByteArray) (i : Int) (h : ObjR q l o m k i) : o.length ≤ q.most.toNat := by
  obtain ⟨l', _, _, rfl, _⟩ := h
  rw [List.length_take]
  omega
abbrev pgA (v : Value) (m : Bool) (k : ByteArray) (i : Int) : Array Value := #[v, .bool m, .string k, .int .i64 i]
structure PgAt (w : World) (g : Nat) (v : Value) (m : Bool) (k : ByteArray) (i : Int) : Prop where
  z0 : w.cell? ⟨g, 0, none⟩ = some (.int .i64 0)
  z1 : w.cell? ⟨g, 1, none⟩ = some (.int .i64 0)
  z2 : w.cell? ⟨g, 2, none⟩ = some (.bool false)
  z3 : w.cell? ⟨g, 3, none⟩ = some (.int .i64 0)
  z4 : w.cell? ⟨g, 4, none⟩ = some (.int .u32 0)
  z5 : w.cell? ⟨g, 5, none⟩ = some (.slice none 0 0)
  z6 : w.cell? ⟨g, 6, none⟩ = some v
  z7 : w.cell? ⟨g, 7, none⟩ = some (.bool m)
  z8 : w.cell? ⟨g, 8, none⟩ = some (.string k)
  z9 : w.cell? ⟨g, 9, none⟩ = some (.int .i64 i)
  z10 : w.cell? ⟨g, 10, none⟩ = some (.slice none 0 0)
/-- A page in the answer's box. -/
theorem box_pg (w w4 : World) (v : Value) (m : Bool) (k : ByteArray) (i : Int) (k6 : w4.heap[w.heap.size + 1]? = some (.cells ans0 42 (0, 0))) (k7 : w4.heap[w.heap.size + 1 + 1]? = some (.cells ans0 42 (0, 0))) (hs : w.heap.size + 3 ≤ w4.heap.size) :
    ∃ W6, w4.there (w.heap.size + 1 + 1) 6 4 ∧ w4.setCells (w.heap.size + 1 + 1) 6 (pgA v m k i).toList = W6 ∧ PgAt W6 (w.heap.size + 1 + 1) v m k i ∧
      W6.heap[w.heap.size + 1 + 1]? = some (.cells (ansPg 0 v m k i) 42 (0, 0)) ∧ W6.heap[w.heap.size + 1]? = some (.cells ans0 42 (0, 0)) ∧ Only w.heap.size (w.heap.size + 3) w4 W6 := by
  obtain ⟨cur, h1, h2, h3⟩ := setCells_row (pgA v m k i).toList 6 w4 ans0 k7 (by show 6 + 4 ≤ 11; omega)
  have h4 : cur = ansPg 0 v m k i := Array.toList_inj.1 h3
  subst h4
  refine ⟨_, fun j hj => ⟨?_, blk_frozen k7 _⟩, rfl,
    ⟨(blk_cell h1 0).trans rfl, (blk_cell h1 1).trans rfl, (blk_cell h1 2).trans rfl, (blk_cell h1 3).trans rfl, (blk_cell h1 4).trans rfl, (blk_cell h1 5).trans rfl, (blk_cell h1 6).trans rfl, (blk_cell h1 7).trans rfl, (blk_cell h1 8).trans rfl, (blk_cell h1 9).trans rfl, (blk_cell h1 10).trans rfl⟩, h1, ?_, ?_⟩
  · rw [blk_cell k7]
    have : j = 0 ∨ j = 1 ∨ j = 2 ∨ j = 3 := by omega
    rcases this with rfl | rfl | rfl | rfl <;> rfl
  · rw [setCells_far _ _ _ (by omega)]
    exact k6
  · have hh := setCells_same (w.heap.size + 1 + 1) (pgA v m k i).toList 6 w4
    refine ⟨hh.1, hh.2.1, hh.2.2.1, by rw [hh.2.2.2]; exact Nat.le_refl _, fun j hk hc => ?_⟩
    rw [setCells_far _ _ _ (by omega)]
theorem rowE_keep {w w' : World} {sv : Value} {o : List Ent} (h : RowE w sv o) (hk : ∀ b f n c, sv = .slice (some ⟨b, f, none⟩) n c → b < w.heap.size → w'.heap[b]? = w.heap[b]?) (hs : w.heap.size ≤ w'.heap.size) : RowE w' sv o := by
  rcases h with h | ⟨b, f, cap, hv, hlt, hc⟩
  · exact .inl h
  · refine .inr ⟨b, f, cap, hv, Nat.lt_of_lt_of_le hlt hs, fun j u hj => ?_⟩
    exact (World.cell?_of_block (hk b f _ cap hv hlt)).trans (hc j u hj)
/-- Call's answer at a page verb. -/
def PgIs (S : St) (s : List UInt8) (q : AskV) (Res : List Ent → List Ent → Bool → ByteArray → Int → Prop) (w : World) (e : Ending) (w' : World) : Prop :=
  (∃ (er : Int) (sv : Value) (m : Bool) (k : ByteArray) (i : Int) (L : List Ent), e = .returned (.agg (ansPg er sv m k i)) ∧ RowE w' sv L ∧ Tells S s q Res er L m k i) ∧ Below w.heap.size w w'
set_option maxHeartbeats 2000000 in
set_option maxRecDepth 100000 in
theorem call_vers (w : World) (g : Nat) (S : St) (n : Nat) (Q F : Nat → Prop) (b k pf fr : List UInt8) (dv : Value) (id nn a fi mo : Int) (hb : b.length ≤ 100000) (hpf : pf.length ≤ 100000) (hn : n ≤ 10000) (hfi : S.Fine) (hm : HasM w g S n Q F) :
    Calls Tryd.prog 10 #[.pointer (some ⟨g, 0, none⟩), .agg #[.int .i64 10, .string (mkS b), .string (mkS k), dv, .int .i64 nn, .int .i64 a, .string (mkS pf), .string (mkS fr), .int .i64 fi, .int .i64 mo], .int .i64 id] w (PgIs S b (askV pf fr fi mo) (VerR (askV pf fr fi mo)) w) := by
  obtain ⟨W3, hW3⟩ : ∃ W3, ((w.alloc (.cells #[.int .i64 10, .string (mkS b), .string (mkS k), dv, .int .i64 nn, .int .i64 a, .string (mkS pf), .string (mkS fr), .int .i64 fi, .int .i64 mo] 33)).alloc (.cells ans0 42)).alloc (.cells ans0 42) = W3 := ⟨_, rfl⟩
  have hbx := boxed_mk w #[.int .i64 10, .string (mkS b), .string (mkS k), dv, .int .i64 nn, .int .i64 a, .string (mkS pf), .string (mkS fr), .int .i64 fi, .int .i64 mo]
  rw [hW3] at hbx
  have hps : (mkS pf).size ≤ maxLen := by rw [mkS_size]; unfold maxLen; omega
  have HC : Hid (∀ V, Below W3.heap.size W3 V → Calls Tryd.prog 11 #[.pointer (some ⟨g, 0, none⟩), .string (mkS b), .agg #[.string (mkS pf), .string (mkS fr), .int .i64 fi, .int .i64 mo]] V (PartIs S b (askV pf fr fi mo) (VerR (askV pf fr fi mo)) V)) := fun V hV =>
    mversions_is V g S n Q F b (askV pf fr fi mo) hb hps ((hm.below hbx.b).below hV) hfi hn
  have HA : Hid (∀ V, Below W3.heap.size W3 V → Calls Tryd.prog 25 #[.agg #[.string (mkS pf), .string (mkS fr), .int .i64 fi, .int .i64 mo]] V fun e w' => e = .returned (.agg #[.string (mkS pf), .string (mkS fr), .int .i64 fi, .int .i64 mo]) ∧ Below W3.heap.size W3 w' ∧ Below V.heap.size V w') := fun V hV =>
    (ask_is (mkS pf) (mkS fr) fi mo V).mono fun e w' ⟨h1, h2⟩ => ⟨h1, hV.trans (h2.mono hV.size), h2⟩
  have HS : Hid (∀ V, Below W3.heap.size W3 V → V.cell? ⟨w.heap.size, 1, none⟩ = some (.string (mkS b)) ∧ V.cell? ⟨w.heap.size, 6, none⟩ = some (.string (mkS pf)) ∧ V.cell? ⟨w.heap.size, 7, none⟩ = some (.string (mkS fr)) ∧ V.cell? ⟨w.heap.size, 8, none⟩ = some (.int .i64 fi) ∧ V.cell? ⟨w.heap.size, 9, none⟩ = some (.int .i64 mo)) := fun V hV => by
    obtain ⟨c0, c1, c2, c3, c4, c5, c6, c7, c8, c9⟩ := chAt_of ((hV.block w.heap.size (by have := hbx.s; omega)).trans hbx.k4)
    exact ⟨c1, c6, c7, c8, c9⟩
  have HBX := Lib.hid hbx
  have HM := Lib.hid hm
  have HW3 := Lib.hid hW3
  obtain ⟨c0, c1, c2, c3, c4, c5, c6, c7, c8, c9⟩ := chAt_of hbx.k4
  clear c2 c3 c4 c5
  clear hm hbx hW3 hfi hps
  go_enter Tryd.func10, Tryd.ntmps10
  go_upto_region 2 with (fail)
  rw [HW3.out]
  clear HW3
  go_upto_region 27 with (fail)
  have hb3 : Below W3.heap.size W3 W3.drew := (Below.refl _ _).drew
  have hb3n : Below W3.heap.size W3 W3 := Below.refl _ _
  go_region_held3 (fun V => V.cell? ⟨w.heap.size, 1, none⟩ = some (.string (mkS b)) ∧ V.cell? ⟨w.heap.size, 6, none⟩ = some (.string (mkS pf)) ∧ V.cell? ⟨w.heap.size, 7, none⟩ = some (.string (mkS fr)) ∧ V.cell? ⟨w.heap.size, 8, none⟩ = some (.int .i64 fi) ∧ V.cell? ⟨w.heap.size, 9, none⟩ = some (.int .i64 mo)) (first | exact HS.out _ (by assumption) | exact HS.out _ (by first | exact hb3.alloc hb3.size _ | exact hb4a.alloc hb4a.size _ | exact hb5a.alloc hb5a.size _ | exact (((hb5a.setCell (p := ⟨W3.heap.size, 0, none⟩) (Nat.le_refl _) _).setCell (p := ⟨W3.heap.size, 1, none⟩) (Nat.le_refl _) _).setCell (p := ⟨W3.heap.size, 2, none⟩) (Nat.le_refl _) _).setCell (p := ⟨W3.heap.size, 3, none⟩) (Nat.le_refl _) _ | exact (((hb5a.setCell (p := ⟨w4.heap.size, 0, none⟩) hb4a.size _).setCell (p := ⟨w4.heap.size, 1, none⟩) hb4a.size _).setCell (p := ⟨w4.heap.size, 2, none⟩) hb4a.size _).setCell (p := ⟨w4.heap.size, 3, none⟩) hb4a.size _)) ((first | (go_at_call 25; refine (HA.out _ (by assumption)).mono ?_; rintro e w4 ⟨rfl, hb4a, hb4b⟩) | (go_at_call 25; refine (HA.out (W3.drew.alloc (.cells #[.slice none 0 0, .bool false, .string ⟨#[]⟩, .int .i64 0] 44)) (hb3.alloc hb3.size _)).mono ?_; rintro e w4 ⟨rfl, hb4a, hb4b⟩; have hz4 : w4.heap[W3.heap.size]? = some (.cells #[.slice none 0 0, .bool false, .string ⟨#[]⟩, .int .i64 0] 44 (0, 0)) := (hb4b.block W3.heap.size (by simp)).trans (heap_alloc_new W3.drew _)) | (go_at_call 11; refine (HC.out (w4.alloc (.cells #[.slice none 0 0, .bool false, .string ⟨#[]⟩, .int .i64 0] 44)) (hb4a.alloc hb4a.size _)).mono ?_; intro e w5 hpa; obtain ⟨p, nv, cv, m, ky, i, er, L, rfl, hb5, hrow5, hfr5, htell⟩ := part_tells hpa; have HR5 := Lib.hid (And.intro hrow5 (And.intro hfr5 htell)); clear hrow5 hfr5 htell; clear hpa; have h5 : w5.heap[w4.heap.size]? = some (.cells #[.slice none 0 0, .bool false, .string ⟨#[]⟩, .int .i64 0] 44 (0, 0)) := (hb5.block w4.heap.size (by simp)).trans (heap_alloc_new w4 _); have r0 := (cells_of_heap h5).1 0 _ rfl; have r1 := (cells_of_heap h5).1 1 _ rfl; have r2 := (cells_of_heap h5).1 2 _ rfl; have r3 := (cells_of_heap h5).1 3 _ rfl; have z0 := (cells_of_heap h5).2 0; have z1 := (cells_of_heap h5).2 1; have z2 := (cells_of_heap h5).2 2; have z3 := (cells_of_heap h5).2 3; have hb5a : Below W3.heap.size W3 w5 := (hb4a.alloc hb4a.size _).trans (hb5.mono (by have := hb4a.size; simp; omega))) | (go_at_call 11; refine (HC.out _ (by assumption)).mono ?_; intro e w5 hpa; obtain ⟨p, nv, cv, m, ky, i, er, L, rfl, hb5, hrow5, hfr5, htell⟩ := part_tells hpa; have HR5 := Lib.hid (And.intro hrow5 (And.intro hfr5 htell)); clear hrow5 hfr5 htell; clear hpa; have h5 : w5.heap[W3.heap.size]? = some (.cells #[.slice none 0 0, .bool false, .string ⟨#[]⟩, .int .i64 0] 44 (0, 0)) := (hb5.block W3.heap.size (Array.getElem?_eq_some_iff.1 hz4).1).trans hz4; have r0 := (cells_of_heap h5).1 0 _ rfl; have r1 := (cells_of_heap h5).1 1 _ rfl; have r2 := (cells_of_heap h5).1 2 _ rfl; have r3 := (cells_of_heap h5).1 3 _ rfl; have z0 := (cells_of_heap h5).2 0; have z1 := (cells_of_heap h5).2 1; have z2 := (cells_of_heap h5).2 2; have z3 := (cells_of_heap h5).2 3; have hb5a : Below W3.heap.size W3 w5 := hb4a.trans (hb5.mono hb4a.size)) | (go_at_call 11; refine (HC.out _ (by assumption)).mono ?_; intro e w5 hpa; obtain ⟨p, nv, cv, m, ky, i, er, L, rfl, hb5, hrow5, hfr5, htell⟩ := part_tells hpa; have HR5 := Lib.hid (And.intro hrow5 (And.intro hfr5 htell)); clear hrow5 hfr5 htell; clear hpa; have hb5a : Below W3.heap.size W3 w5 := hb4a.trans (hb5.mono hb4a.size))))
  · obtain ⟨V6, hV6⟩ : ∃ V6, w5.alloc (.cells #[.slice p nv cv, .bool m, .string ky, .int .i64 i] 44) = V6 := ⟨_, rfl⟩
    rw [hV6]
    have h6 : V6.heap[w5.heap.size]? = some (.cells #[.slice p nv cv, .bool m, .string ky, .int .i64 i] 44 (0, 0)) := by rw [← hV6]; exact heap_alloc_new w5 _
    have HB6 : Hid (Below W3.heap.size W3 V6) := by show Below _ _ _; rw [← hV6]; exact hb5a.alloc hb5a.size _
    have hr6 : RowE V6 (.slice p nv cv) L := by rw [← hV6]; exact HR5.out.1.below ((Below.refl _ _).alloc (Nat.le_refl _) _)
    clear hV6 
    have HAn := Lib.hid (answer_is (.slice p nv cv) L m ky i (by have := tells_len verR_len HR5.out.2.2; omega) V6 hr6)
    have k0 : V6.cell? ⟨w5.heap.size, 0, none⟩ = some (.slice p nv cv) := (cells_of_heap h6).1 0 _ rfl
    have k1 : V6.cell? ⟨w5.heap.size, 1, none⟩ = some (.bool m) := (cells_of_heap h6).1 1 _ rfl
    have k2 : V6.cell? ⟨w5.heap.size, 2, none⟩ = some (.string ky) := (cells_of_heap h6).1 2 _ rfl
    have k3 : V6.cell? ⟨w5.heap.size, 3, none⟩ = some (.int .i64 i) := (cells_of_heap h6).1 3 _ rfl
    clear h6 hr6
    go_wp2_with fail
    refine HAn.out.mono ?_
    rintro e w7 ⟨sv', rfl, hr7, hf7, hb7⟩
    obtain ⟨p7, c7_, rfl, _⟩ := len_of_row hr7
    have HR7 := Lib.hid hr7
    have HB7 : Hid (Below W3.heap.size W3 w7) := HB6.out.trans (hb7.mono HB6.out.size)
    have HBo := Lib.hid (boxed_after HBX.out HM.out.q (Moved.of_below (Q := Q) HB7.out))
    obtain ⟨W8, HTH, hW8, ⟨z0, z1, z2, z3, z4, z5, z6, z7, z8, z9, z10⟩, HK7, HK6, HON⟩ := box_pg w w7 (.slice p7 L.length c7_) m ky i HBo.out.1 HBo.out.2.1 HBo.out.2.2
    have HW8 := Lib.hid hW8
    have HK6h := Lib.hid HK6
    have HTHh := Lib.hid HTH
    have HONh := Lib.hid HON
    have HF7 : Hid (∀ b f n c, Value.slice p7 L.length c7_ = .slice (some ⟨b, f, none⟩) n c → w.heap.size + 3 ≤ b) := fun b f n c h => by
      have h1 := hf7 b f n c h
      have h2 := HB6.out.size
      have h3 := HBX.out.s
      omega
    have f0 := blk_frozen HK7 0
    clear hW8 HK6 HK7 HTH HON hf7 hb7 hr7 k0 k1 k2 k3
    have HBs : Hid (∀ u, (W8.setCell ⟨w.heap.size + 1 + 1, 0, none⟩ u).heap[w.heap.size + 1]? = some (.cells ans0 42 (0, 0))) := fun u => blk_far HK6h.out (by simp) u
    go_wp2_with (first | (refine wpList_store_mid rfl 39 (.tmp 157) (.tmp 155) rfl (w.heap.size + 1 + 1) 6 (pgA (.slice p7 L.length c7_) m ky i) rfl rfl HTHh.out (by kernel_rfl) (by simp [Value.oneCell']) ?_; rw [HW8.out]) | (refine wpList_store_row rfl 42 (.tmp 6) (.tmp 159) rfl (w.heap.size + 1) (ansPg er (.slice p7 L.length c7_) m ky i) rfl rfl 42 _ (HBs.out _) (by kernel_rfl) rfl (by simp [Value.oneCell']) ?_))
    refine bodyPost_ret (results_single rfl (.cell (w.heap.size + 1) 42 (ansPg er (.slice p7 L.length c7_) m ky i) (0, 0) _ rfl (setRow_heap _ _ _ _ _ _ (HBs.out _)) Tryd.underlying42 rfl (by kernel_rfl) .nil)) rfl ?_
    have hon := (HONh.out.put 0 (.int .i64 er) (g := w.heap.size + 1 + 1) (by omega) (by omega)).row (g := w.heap.size + 1) (ansPg er (.slice p7 L.length c7_) m ky i) (by omega) (by omega)
    exact ⟨⟨er, _, m, ky, i, L, rfl, rowE_keep HR7.out (fun b f n c h hlt => hon.block b hlt (.inr (HF7.out b f n c h))) hon.size, HR5.out.2.2⟩, below_only (HBX.out.b.trans (HB7.out.mono HBX.out.b.size)) hon⟩
  · obtain ⟨V6, hV6⟩ : ∃ V6, ((((w5.setCell ⟨w4.heap.size, 0, none⟩ (.slice p nv cv)).setCell ⟨w4.heap.size, 1, none⟩ (.bool m)).setCell ⟨w4.heap.size, 2, none⟩ (.string ky)).setCell ⟨w4.heap.size, 3, none⟩ (.int .i64 i)) = V6 := ⟨_, rfl⟩
    rw [hV6]
    have h6 : V6.heap[w4.heap.size]? = some (.cells #[.slice p nv cv, .bool m, .string ky, .int .i64 i] 44 (0, 0)) := by rw [← hV6]; exact heap_set (heap_set (heap_set (heap_set h5 0 (.slice p nv cv)) 1 (.bool m)) 2 (.string ky)) 3 (.int .i64 i)
    have HB6 : Hid (Below W3.heap.size W3 V6) := by show Below _ _ _; rw [← hV6]; exact (((hb5a.setCell (p := ⟨w4.heap.size, 0, none⟩) hb4a.size _).setCell (p := ⟨w4.heap.size, 1, none⟩) hb4a.size _).setCell (p := ⟨w4.heap.size, 2, none⟩) hb4a.size _).setCell (p := ⟨w4.heap.size, 3, none⟩) hb4a.size _
    have hr6 : RowE V6 (.slice p nv cv) L := by rw [← hV6]; exact rowE_set (rowE_set (rowE_set (rowE_set HR5.out.1 (fun b f n c h => by have := HR5.out.2.1 b f n c h; simp at this; omega) _ _) (fun b f n c h => by have := HR5.out.2.1 b f n c h; simp at this; omega) _ _) (fun b f n c h => by have := HR5.out.2.1 b f n c h; simp at this; omega) _ _) (fun b f n c h => by have := HR5.out.2.1 b f n c h; simp at this; omega) _ _
    clear hV6 h5 r0 r1 r2 r3 z0 z1 z2 z3
    have HAn := Lib.hid (answer_is (.slice p nv cv) L m ky i (by have := tells_len verR_len HR5.out.2.2; omega) V6 hr6)
    have k0 : V6.cell? ⟨w4.heap.size, 0, none⟩ = some (.slice p nv cv) := (cells_of_heap h6).1 0 _ rfl
    have k1 : V6.cell? ⟨w4.heap.size, 1, none⟩ = some (.bool m) := (cells_of_heap h6).1 1 _ rfl
    have k2 : V6.cell? ⟨w4.heap.size, 2, none⟩ = some (.string ky) := (cells_of_heap h6).1 2 _ rfl
    have k3 : V6.cell? ⟨w4.heap.size, 3, none⟩ = some (.int .i64 i) := (cells_of_heap h6).1 3 _ rfl
    clear h6 hr6
    go_wp2_with fail
    refine HAn.out.mono ?_
    rintro e w7 ⟨sv', rfl, hr7, hf7, hb7⟩
    obtain ⟨p7, c7_, rfl, _⟩ := len_of_row hr7
    have HR7 := Lib.hid hr7
    have HB7 : Hid (Below W3.heap.size W3 w7) := HB6.out.trans (hb7.mono HB6.out.size)
    have HBo := Lib.hid (boxed_after HBX.out HM.out.q (Moved.of_below (Q := Q) HB7.out))
    obtain ⟨W8, HTH, hW8, ⟨z0, z1, z2, z3, z4, z5, z6, z7, z8, z9, z10⟩, HK7, HK6, HON⟩ := box_pg w w7 (.slice p7 L.length c7_) m ky i HBo.out.1 HBo.out.2.1 HBo.out.2.2
    have HW8 := Lib.hid hW8
    have HK6h := Lib.hid HK6
    have HTHh := Lib.hid HTH
    have HONh := Lib.hid HON
    have HF7 : Hid (∀ b f n c, Value.slice p7 L.length c7_ = .slice (some ⟨b, f, none⟩) n c → w.heap.size + 3 ≤ b) := fun b f n c h => by
      have h1 := hf7 b f n c h
      have h2 := HB6.out.size
      have h3 := HBX.out.s
      omega
    have f0 := blk_frozen HK7 0
    clear hW8 HK6 HK7 HTH HON hf7 hb7 hr7 k0 k1 k2 k3
    have HBs : Hid (∀ u, (W8.setCell ⟨w.heap.size + 1 + 1, 0, none⟩ u).heap[w.heap.size + 1]? = some (.cells ans0 42 (0, 0))) := fun u => blk_far HK6h.out (by simp) u
    go_wp2_with (first | (refine wpList_store_mid rfl 39 (.tmp 157) (.tmp 155) rfl (w.heap.size + 1 + 1) 6 (pgA (.slice p7 L.length c7_) m ky i) rfl rfl HTHh.out (by kernel_rfl) (by simp [Value.oneCell']) ?_; rw [HW8.out]) | (refine wpList_store_row rfl 42 (.tmp 6) (.tmp 159) rfl (w.heap.size + 1) (ansPg er (.slice p7 L.length c7_) m ky i) rfl rfl 42 _ (HBs.out _) (by kernel_rfl) rfl (by simp [Value.oneCell']) ?_))
    refine bodyPost_ret (results_single rfl (.cell (w.heap.size + 1) 42 (ansPg er (.slice p7 L.length c7_) m ky i) (0, 0) _ rfl (setRow_heap _ _ _ _ _ _ (HBs.out _)) Tryd.underlying42 rfl (by kernel_rfl) .nil)) rfl ?_
    have hon := (HONh.out.put 0 (.int .i64 er) (g := w.heap.size + 1 + 1) (by omega) (by omega)).row (g := w.heap.size + 1) (ansPg er (.slice p7 L.length c7_) m ky i) (by omega) (by omega)
    exact ⟨⟨er, _, m, ky, i, L, rfl, rowE_keep HR7.out (fun b f n c h hlt => hon.block b hlt (.inr (HF7.out b f n c h))) hon.size, HR5.out.2.2⟩, below_only (HBX.out.b.trans (HB7.out.mono HBX.out.b.size)) hon⟩
  · obtain ⟨V6, hV6⟩ : ∃ V6, ((((w5.setCell ⟨W3.heap.size, 0, none⟩ (.slice p nv cv)).setCell ⟨W3.heap.size, 1, none⟩ (.bool m)).setCell ⟨W3.heap.size, 2, none⟩ (.string ky)).setCell ⟨W3.heap.size, 3, none⟩ (.int .i64 i)) = V6 := ⟨_, rfl⟩
    rw [hV6]
    have h6 : V6.heap[W3.heap.size]? = some (.cells #[.slice p nv cv, .bool m, .string ky, .int .i64 i] 44 (0, 0)) := by rw [← hV6]; exact heap_set (heap_set (heap_set (heap_set h5 0 (.slice p nv cv)) 1 (.bool m)) 2 (.string ky)) 3 (.int .i64 i)
    have HB6 : Hid (Below W3.heap.size W3 V6) := by show Below _ _ _; rw [← hV6]; exact (((hb5a.setCell (p := ⟨W3.heap.size, 0, none⟩) (Nat.le_refl _) _).setCell (p := ⟨W3.heap.size, 1, none⟩) (Nat.le_refl _) _).setCell (p := ⟨W3.heap.size, 2, none⟩) (Nat.le_refl _) _).setCell (p := ⟨W3.heap.size, 3, none⟩) (Nat.le_refl _) _
    have hr6 : RowE V6 (.slice p nv cv) L := by rw [← hV6]; exact rowE_set (rowE_set (rowE_set (rowE_set HR5.out.1 (fun b f n c h => by have := HR5.out.2.1 b f n c h; have := (Array.getElem?_eq_some_iff.1 hz4).1; omega) _ _) (fun b f n c h => by have := HR5.out.2.1 b f n c h; have := (Array.getElem?_eq_some_iff.1 hz4).1; omega) _ _) (fun b f n c h => by have := HR5.out.2.1 b f n c h; have := (Array.getElem?_eq_some_iff.1 hz4).1; omega) _ _) (fun b f n c h => by have := HR5.out.2.1 b f n c h; have := (Array.getElem?_eq_some_iff.1 hz4).1; omega) _ _
    clear hV6 h5 r0 r1 r2 r3 z0 z1 z2 z3
    have HAn := Lib.hid (answer_is (.slice p nv cv) L m ky i (by have := tells_len verR_len HR5.out.2.2; omega) V6 hr6)
    have k0 : V6.cell? ⟨W3.heap.size, 0, none⟩ = some (.slice p nv cv) := (cells_of_heap h6).1 0 _ rfl
    have k1 : V6.cell? ⟨W3.heap.size, 1, none⟩ = some (.bool m) := (cells_of_heap h6).1 1 _ rfl
    have k2 : V6.cell? ⟨W3.heap.size, 2, none⟩ = some (.string ky) := (cells_of_heap h6).1 2 _ rfl
    have k3 : V6.cell? ⟨W3.heap.size, 3, none⟩ = some (.int .i64 i) := (cells_of_heap h6).1 3 _ rfl
    clear h6 hr6
    go_wp2_with fail
    refine HAn.out.mono ?_
    rintro e w7 ⟨sv', rfl, hr7, hf7, hb7⟩
    obtain ⟨p7, c7_, rfl, _⟩ := len_of_row hr7
    have HR7 := Lib.hid hr7
    have HB7 : Hid (Below W3.heap.size W3 w7) := HB6.out.trans (hb7.mono HB6.out.size)
    have HBo := Lib.hid (boxed_after HBX.out HM.out.q (Moved.of_below (Q := Q) HB7.out))
    obtain ⟨W8, HTH, hW8, ⟨z0, z1, z2, z3, z4, z5, z6, z7, z8, z9, z10⟩, HK7, HK6, HON⟩ := box_pg w w7 (.slice p7 L.length c7_) m ky i HBo.out.1 HBo.out.2.1 HBo.out.2.2
    have HW8 := Lib.hid hW8
    have HK6h := Lib.hid HK6
    have HTHh := Lib.hid HTH
    have HONh := Lib.hid HON
    have HF7 : Hid (∀ b f n c, Value.slice p7 L.length c7_ = .slice (some ⟨b, f, none⟩) n c → w.heap.size + 3 ≤ b) := fun b f n c h => by
      have h1 := hf7 b f n c h
      have h2 := HB6.out.size
      have h3 := HBX.out.s
      omega
    have f0 := blk_frozen HK7 0
    clear hW8 HK6 HK7 HTH HON hf7 hb7 hr7 k0 k1 k2 k3
    have HBs : Hid (∀ u, (W8.setCell ⟨w.heap.size + 1 + 1, 0, none⟩ u).heap[w.heap.size + 1]? = some (.cells ans0 42 (0, 0))) := fun u => blk_far HK6h.out (by simp) u
    go_wp2_with (first | (refine wpList_store_mid rfl 39 (.tmp 157) (.tmp 155) rfl (w.heap.size + 1 + 1) 6 (pgA (.slice p7 L.length c7_) m ky i) rfl rfl HTHh.out (by kernel_rfl) (by simp [Value.oneCell']) ?_; rw [HW8.out]) | (refine wpList_store_row rfl 42 (.tmp 6) (.tmp 159) rfl (w.heap.size + 1) (ansPg er (.slice p7 L.length c7_) m ky i) rfl rfl 42 _ (HBs.out _) (by kernel_rfl) rfl (by simp [Value.oneCell']) ?_))
    refine bodyPost_ret (results_single rfl (.cell (w.heap.size + 1) 42 (ansPg er (.slice p7 L.length c7_) m ky i) (0, 0) _ rfl (setRow_heap _ _ _ _ _ _ (HBs.out _)) Tryd.underlying42 rfl (by kernel_rfl) .nil)) rfl ?_
    have hon := (HONh.out.put 0 (.int .i64 er) (g := w.heap.size + 1 + 1) (by omega) (by omega)).row (g := w.heap.size + 1) (ansPg er (.slice p7 L.length c7_) m ky i) (by omega) (by omega)
    exact ⟨⟨er, _, m, ky, i, L, rfl, rowE_keep HR7.out (fun b f n c h hlt => hon.block b hlt (.inr (HF7.out b f n c h))) hon.size, HR5.out.2.2⟩, below_only (HBX.out.b.trans (HB7.out.mono HBX.out.b.size)) hon⟩
end Go.Proofs.YtjbjcfnbgcloiaaDoor

/- ModelLists plainly: what lists tell is what Heads tell. -/
set_option linter.unusedSimpArgs false
set_option linter.unusedVariables false
namespace Go.Proofs.YtjbjcfnbgcloiaaDoor
open Go.RowKit Nam YtjbjcfnbgcloiaaDoorW.PrintWords Go.Lib Go.Shelf

/-! ### sums over keys -/
theorem entsOf_cons (f : List UInt8 → List Kp) (k : List UInt8) (r : List (List UInt8)) : entsOf f (k :: r) = entsK k (f k) ++ entsOf f r := rfl
theorem entsOf_off {f f' : List UInt8 → List Kp} : ∀ ks : List (List UInt8), (∀ k ∈ ks, f' k = f k) → entsOf f' ks = entsOf f ks
  | [], _ => rfl
  | k :: r, h => by rw [entsOf_cons, entsOf_cons, h k List.mem_cons_self, entsOf_off r (fun k hk => h k (List.mem_cons_of_mem _ hk))]
theorem entsOf_sum {f f' : List UInt8 → List Kp} {k0 : List UInt8} (h : ∀ k, k ≠ k0 → f' k = f k) (h0 : (f' k0).length ≤ (f k0).length + 1) : ∀ ks : List (List UInt8), ks.Nodup → (entsOf f' ks).length ≤ (entsOf f ks).length + 1
  | [], _ => by simp [entsOf]
  | k :: r, hn => by
    obtain ⟨h1, h2⟩ := List.nodup_cons.1 hn
    rw [entsOf_cons, entsOf_cons, List.length_append, List.length_append, entsK_length, entsK_length]
    by_cases e : k = k0
    · subst e
      rw [entsOf_off r (fun j hj => h j (fun e => h1 (e ▸ hj)))]
      omega
    · rw [h k e]
      have := entsOf_sum h h0 r h2
      omega
theorem entsOf_mem {f : List UInt8 → List Kp} {ks : List (List UInt8)} {x : Ent} (h : x ∈ entsOf f ks) : ∃ k i y, (f k)[i]? = some y ∧ x = entK k (f k).length y i := by
  unfold entsOf at h
  obtain ⟨k, _, hx⟩ := List.mem_flatMap.1 h
  obtain ⟨i, hi⟩ := List.mem_iff_getElem?.1 hx
  have hlt : i < (f k).length := by
    have := (List.getElem?_eq_some_iff.1 hi).1
    rwa [entsK_length] at this
  refine ⟨k, i, (f k)[i], List.getElem?_eq_getElem hlt, ?_⟩
  rw [entsK_at k (f k) i _ (List.getElem?_eq_getElem hlt)] at hi
  injection hi with hi
  exact hi.symm
theorem entsOf_full (f : List UInt8 → List Kp) : ∀ ks : List (List UInt8), entsOf f ks = entsOf f (ks.filter fun k => decide (f k ≠ []))
  | [] => rfl
  | k :: r => by
    rw [entsOf_cons, List.filter_cons]
    by_cases e : f k = []
    · rw [if_neg (by simp [e]), e, ← entsOf_full f r]
      rfl
    · rw [if_pos (by simp [e]), entsOf_cons, ← entsOf_full f r]
theorem entsOf_perm {f : List UInt8 → List Kp} {ks ks' : List (List UInt8)} (h : AllOf f ks) (h' : AllOf f ks') : (entsOf f ks).Perm (entsOf f ks') := by
  rw [entsOf_full f ks, entsOf_full f ks']
  unfold entsOf
  refine List.Perm.flatMap_right _ ((List.perm_ext_iff_of_nodup (h.1.filter _) (h'.1.filter _)).2 fun k => ?_)
  rw [List.mem_filter, List.mem_filter]
  constructor
  · rintro ⟨_, h2⟩
    exact ⟨h'.2 k (of_decide_eq_true h2), h2⟩
  · rintro ⟨_, h2⟩
    exact ⟨h.2 k (of_decide_eq_true h2), h2⟩

/-! ### rising rows -/
theorem named_len {b k : List UInt8} (h : namedB b k = true) : k.length ≤ 100000 := by
  unfold namedB keyB at h
  simp only [Bool.and_eq_true, decide_eq_true_eq] at h
  omega
structure Ris (S : St) (j : Nat) : Prop where
  B : abc ∈ S.B
  nm : ∀ k, S.V abc k ≠ [] → namedB abc k = true
  up : ∀ k, (S.V abc k).Pairwise (fun x y => x.id < y.id)
  id : ∀ k, ∀ y ∈ S.V abc k, 1 ≤ y.id
  sum : ∀ ks : List (List UInt8), ks.Nodup → (entsOf (S.V abc) ks).length ≤ j
theorem ris_1 : Ris S1 0 := by
  refine ⟨List.mem_singleton.2 rfl, fun k h => absurd rfl h, fun k => List.Pairwise.nil, fun k y h => (List.not_mem_nil h).elim, fun ks _ => ?_⟩
  have : ∀ ks : List (List UInt8), entsOf (S1.V abc) ks = [] := fun ks => by
    induction ks with
    | nil => rfl
    | cons k r ih => rw [entsOf_cons, ih]; rfl
  rw [this]
  exact Nat.le_refl _
theorem Ris.more {S : St} {j : Nat} (h : Ris S j) : Ris S (j + 1) := ⟨h.B, h.nm, h.up, h.id, fun ks hk => Nat.le_succ_of_le (h.sum ks hk)⟩
theorem ris_put {S : St} {j : Nat} (h : Ris S j) (k : List UInt8) (l : List Kp) (h1 : l ≠ [] → namedB abc k = true) (h2 : l.Pairwise (fun x y => x.id < y.id)) (h3 : ∀ y ∈ l, 1 ≤ y.id) (h4 : l.length ≤ (S.V abc k).length + 1) : Ris (S.put abc k l) (j + 1) := by
  have e1 : (S.put abc k l).V abc k = l := put_at S abc k l
  have e2 : ∀ k', k' ≠ k → (S.put abc k l).V abc k' = S.V abc k' := fun k' hk => if_neg (fun e => hk e.2)
  refine ⟨h.B, fun k' => ?_, fun k' => ?_, fun k' => ?_, fun ks hn => ?_⟩
  · by_cases e : k' = k
    · subst e; rw [e1]; exact h1
    · rw [e2 k' e]; exact h.nm k'
  · by_cases e : k' = k
    · subst e; rw [e1]; exact h2
    · rw [e2 k' e]; exact h.up k'
  · by_cases e : k' = k
    · subst e; rw [e1]; exact h3
    · rw [e2 k' e]; exact h.id k'
  · have := entsOf_sum (f := S.V abc) (f' := (S.put abc k l).V abc) (k0 := k) e2 (by rw [e1]; exact h4) ks hn
    have := h.sum ks hn
    omega
theorem last_le {l : List Kp} (h : l.Pairwise (fun x y => x.id < y.id)) {z : Kp} (hz : l.getLast? = some z) : ∀ y ∈ l, y.id ≤ z.id := by
  rcases List.eq_nil_or_concat l with e | ⟨l', y, e⟩
  · subst e; cases hz
  · subst e
    rw [List.concat_eq_append] at h hz ⊢
    rw [List.getLast?_append] at hz
    simp at hz
    subst hz
    intro a ha
    rcases List.mem_append.1 ha with ha | ha
    · exact Int.le_of_lt ((List.pairwise_append.1 h).2.2 a ha y (by simp))
    · rw [List.mem_singleton] at ha
      subst ha
      exact Int.le_refl _
theorem more_up {l : List Kp} {x : Kp} (h : l.Pairwise (fun x y => x.id < y.id)) (hm : moreE l x = 0) : (l ++ [x]).Pairwise (fun x y => x.id < y.id) ∧ 1 ≤ x.id := by
  unfold moreE at hm
  split at hm
  · cases hm
  split at hm
  · cases hm
  rename_i h1 h2
  refine ⟨List.pairwise_append.2 ⟨h, List.pairwise_singleton _ _, fun a ha b hb => ?_⟩, by omega⟩
  rw [List.mem_singleton] at hb
  subst hb
  cases hl : l.getLast? with
  | none =>
    rw [List.getLast?_eq_none_iff] at hl
    subst hl
    cases ha
  | some z =>
    rw [hl] at hm
    have h3 := last_le h hl a ha
    by_cases c : b.id ≤ z.id
    · have hm' : (if b.id ≤ z.id then (1 : Int) else 0) = 0 := hm
      rw [if_pos c] at hm'
      cases hm'
    · omega
theorem ris_snoc {S : St} {j : Nat} (h : Ris S j) (k : List UInt8) (x : Kp) (hn : namedB abc k = true) (hm : moreE (S.V abc k) x = 0) : Ris (S.put abc k (S.V abc k ++ [x])) (j + 1) := by
  obtain ⟨h1, h2⟩ := more_up (h.up k) hm
  refine ris_put h k _ (fun _ => hn) h1 (fun y hy => ?_) (by simp)
  rcases List.mem_append.1 hy with hy | hy
  · exact h.id k y hy
  · rw [List.mem_singleton] at hy
    subst hy
    exact h2
/-- A choice of ModelLists: on its own bucket. -/
def bendL (x : Ch) : Ch := { x with bk := abc }
theorem ris_call {S : St} {j : Nat} (h : Ris S j) (x : Ch) (id : Int) : Ris (S.callS (bendL x) id) (j + 1) := by
  unfold St.callS
  show Ris (if x.d = 4 then S.doPut id abc x.ky x.dt else if x.d = 7 then S.doDel id abc x.ky else if x.d = 8 then S.doEra abc x.ky x.n else S) (j + 1)
  split
  · unfold St.doPut
    split
    · rename_i hp
      obtain ⟨h1, _, _, h4⟩ := putE_more hp
      exact ris_snoc h _ _ h4 h1
    · exact h.more
  · split
    · unfold St.doDel
      split
      · rename_i hp
        obtain ⟨h1, h2⟩ := delE_more hp
        exact ris_snoc h _ _ (find_in h1).2.2 h2
      · exact h.more
    · split
      · unfold St.doEra
        split
        · rename_i hp
          have hsub : (S.eraL abc x.ky x.n).Sublist (S.V abc x.ky) := by
            unfold St.eraL
            have h1 : ((S.V abc x.ky).drop ((idxK x.n (S.V abc x.ky)).toNat + 1)).Sublist ((S.V abc x.ky).drop (idxK x.n (S.V abc x.ky)).toNat) := by
              rw [← List.drop_drop]
              exact List.drop_sublist _ _
            have h2 := (List.Sublist.refl ((S.V abc x.ky).take (idxK x.n (S.V abc x.ky)).toNat)).append h1
            rwa [List.take_append_drop] at h2
          exact ris_put h _ _ (fun _ => (find_in hp).2.2) ((h.up _).sublist hsub) (fun y hy => h.id _ y (hsub.subset hy)) (Nat.le_succ_of_le hsub.length_le)
        · exact h.more
      · exact h.more

/-! ### what Head tells -/
theorem idx_up {l : List Kp} (h : l.Pairwise (fun x y => x.id < y.id)) (h1 : ∀ y ∈ l, 1 ≤ y.id) {i : Nat} {y : Kp} (hy : l[i]? = some y) : idxK y.id l = (i : Int) := by
  obtain ⟨hi, hyi⟩ := List.getElem?_eq_some_iff.1 hy
  have hy1 := h1 y (List.mem_of_getElem? hy)
  unfold idxK
  rw [if_neg (by omega)]
  unfold Lib.idxBy
  rw [Lib.idxByFrom_hit _ _ l i 0 hi (by rw [getElem!_pos l i hi, hyi]; simp) (fun j hj => ?_), Nat.zero_add]
  have hjl : j < l.length := by omega
  rw [getElem!_pos l j hjl]
  have := List.pairwise_iff_getElem.1 h j i hjl hi hj
  rw [hyi] at this
  simp
  omega
def markE (y : Kp) : Int := if y.mark then 16 else 0
theorem getE_of {S : St} {b k : List UInt8} {id : Int} {y : Kp} (h1 : S.findE b k id 0 = 0) (h2 : S.getK b k id = some y) : S.getE b k id = markE y := by
  unfold St.getE
  rw [if_neg (fun e => e h1), h2]
  rfl
theorem head_at {S : St} {j : Nat} (h : Ris S j) {k : List UInt8} {i : Nat} {y : Kp} (hy : (S.V abc k)[i]? = some y) : S.findE abc k y.id 0 = 0 ∧ S.getK abc k y.id = some y ∧ S.getE abc k y.id = markE y := by
  have hi := idx_up (h.up k) (h.id k) hy
  have hne : S.V abc k ≠ [] := fun e => by rw [e] at hy; simp at hy
  have h1 : S.findE abc k y.id 0 = 0 := by
    unfold St.findE
    have := h.id k y (List.mem_of_getElem? hy)
    rw [if_neg (by rw [h.nm k hne]; simp), if_neg (by omega), if_neg (fun e => e h.B), if_neg hne, if_neg (by rw [hi]; omega)]
  have h2 : S.getK abc k y.id = some y := by
    unfold St.getK
    rw [hi, Int.toNat_natCast]
    exact hy
  exact ⟨h1, h2, getE_of h1 h2⟩
theorem head_last {S : St} {j : Nat} (h : Ris S j) {k : List UInt8} {z : Kp} (hz : (S.V abc k).getLast? = some z) : S.findE abc k 0 0 = 0 ∧ S.getK abc k 0 = some z ∧ S.getE abc k 0 = markE z := by
  have hne : S.V abc k ≠ [] := fun e => by rw [e] at hz; cases hz
  have hpos := List.length_pos_iff.2 hne
  have hi : idxK 0 (S.V abc k) = (((S.V abc k).length - 1 : Nat) : Int) := by
    unfold idxK
    rw [if_pos rfl]
    omega
  have h1 : S.findE abc k 0 0 = 0 := by
    unfold St.findE
    rw [if_neg (by rw [h.nm k hne]; simp), if_neg (by decide), if_neg (fun e => e h.B), if_neg hne, if_neg (by rw [hi]; omega)]
  have h2 : S.getK abc k 0 = some z := by
    unfold St.getK
    rw [hi, Int.toNat_natCast, ← List.getLast?_eq_getElem?]
    exact hz
  exact ⟨h1, h2, getE_of h1 h2⟩
/-- What is true of each version that a list tells: Head has it; Head of the latest is it just if it is told so. -/
structure Told (S : St) (x : Ent) : Prop where
  ex : ∃ (k : List UInt8) (y z : Kp), x.key = mkS k ∧ k.length ≤ 100000 ∧ x.id = y.id ∧ x.mark = y.mark ∧ x.size = y.sz ∧ x.sum = y.sum ∧
    (S.findE abc k x.id 0 = 0 ∧ S.getK abc k x.id = some y ∧ S.getE abc k x.id = markE y) ∧ (S.findE abc k 0 0 = 0 ∧ S.getK abc k 0 = some z ∧ S.getE abc k 0 = markE z) ∧
    (x.latest = true → z = y) ∧ (x.latest = false → z.id ≠ y.id)
theorem told_of {S : St} {j : Nat} (h : Ris S j) {ks : List (List UInt8)} {x : Ent} (hx : x ∈ entsOf (S.V abc) ks) : Told S x := by
  obtain ⟨k, i, y, hy, rfl⟩ := entsOf_mem hx
  have hne : S.V abc k ≠ [] := fun e => by rw [e] at hy; simp at hy
  obtain ⟨hi, hyi⟩ := List.getElem?_eq_some_iff.1 hy
  obtain ⟨z, hz⟩ : ∃ z, (S.V abc k).getLast? = some z := ⟨_, List.getLast?_eq_some_getLast hne⟩
  have hkl : k.length ≤ 100000 := named_len (h.nm k hne)
  have hz2 : (S.V abc k)[(S.V abc k).length - 1]? = some z := by rw [← List.getLast?_eq_getElem?]; exact hz
  refine ⟨k, y, z, rfl, hkl, rfl, rfl, rfl, rfl, head_at h hy, head_last h hz, fun hl => ?_, fun hl => ?_⟩
  · have hl' : i + 1 = (S.V abc k).length := of_decide_eq_true hl
    rw [← hl', Nat.add_sub_cancel, hy] at hz2
    injection hz2 with hz2
    exact hz2.symm
  · have hl' : ¬ i + 1 = (S.V abc k).length := of_decide_eq_false hl
    obtain ⟨hj, hzj⟩ := List.getElem?_eq_some_iff.1 hz2
    have := List.pairwise_iff_getElem.1 (h.up k) i ((S.V abc k).length - 1) hi hj (by omega)
    rw [hyi, hzj] at this
    omega
theorem uniq_of {S : St} {j : Nat} (h : Ris S j) {ks : List (List UInt8)} : ∀ x ∈ entsOf (S.V abc) ks, ∀ y ∈ entsOf (S.V abc) ks, x.key = y.key → x.id = y.id → x = y := by
  intro x hx y hy hk hid
  obtain ⟨k, i, a, ha, rfl⟩ := entsOf_mem hx
  obtain ⟨k', i', b, hb, rfl⟩ := entsOf_mem hy
  have e : k = k' := mkS_inj.1 hk
  subst e
  have e1 := idx_up (h.up k) (h.id k) ha
  have e2 := idx_up (h.up k) (h.id k) hb
  have hid' : a.id = b.id := hid
  rw [hid', e2] at e1
  have e3 : i' = i := by omega
  subst e3
  rw [ha] at hb
  injection hb with hb
  rw [hb]

/-! ### what lists tell -/
def okE (x : Ent) : Bool := x.latest && !x.mark
abbrev qAll : AskV := ⟨⟨#[]⟩, ⟨#[]⟩, 0, 1000⟩
theorem selO_whole (l : List Ent) : selE (objB qAll) qAll l = l.filter okE := by
  unfold selE
  congr 1
  funext x
  unfold objB okE
  have e : (⟨#[]⟩ : ByteArray).toList.isEmpty = true := by simp [ByteArray.toList_eq]
  show (prefixB x.key.data.toList [] && (x.latest && !x.mark && ((⟨#[]⟩ : ByteArray).toList.isEmpty || _))) = _
  rw [prefixB_nil, e, Bool.true_or, Bool.and_true, Bool.true_and]
theorem lists_law {S : St} {j : Nat} (h : Ris S j) (hj : j ≤ 1000) {er1 er2 : Int} {L1 L2 : List Ent} {m1 m2 : Bool} {k1 k2 : ByteArray} {i1 i2 : Int} (h1 : Tells S abc qAll (VerR qAll) er1 L1 m1 k1 i1) (h2 : Tells S abc qAll (ObjR qAll) er2 L2 m2 k2 i2) :
    er1 = 0 ∧ er2 = 0 ∧ L2 = L1.filter okE ∧ L1.length ≤ 1000 ∧ ∀ x ∈ L1, Told S x := by
  have hok : okA qAll = true := by decide
  unfold Tells at h1 h2
  rw [if_neg (by rw [abc_bucket]; simp), if_neg (by rw [hok]; simp), if_neg (fun e => e h.B)] at h1 h2
  obtain ⟨rfl, ks, ha, l, hp, hs, hL, _⟩ := h1
  obtain ⟨rfl, ks', ha', l', hp', hs', hL', _⟩ := h2
  have hle : l.length ≤ 1000 := by
    have := hp.length_eq
    have := h.sum ks ha.1
    omega
  have hl1 : L1 = l := by
    rw [hL, selE_whole, List.take_of_length_le (by show _ ≤ 1000; exact hle)]
  have hll : l' = l := by
    refine sortedE_unique (fun x hx y hy => uniq_of h (ks := ks') x (hp'.mem_iff.1 hx) y (hp'.mem_iff.1 hy)) ?_ hs' hs
    exact (hp'.trans (entsOf_perm ha' ha)).trans hp.symm
  have hl2 : L2 = l.filter okE := by
    rw [hL', selO_whole, hll, List.take_of_length_le (by show _ ≤ 1000; exact Nat.le_trans (List.length_filter_le _ _) hle)]
  refine ⟨rfl, rfl, by rw [hl2, hl1], by rw [hl1]; exact hle, fun x hx => ?_⟩
  rw [hl1] at hx
  exact told_of h (hp.mem_iff.1 hx)
/-- The object at its place. -/
theorem filter_at {α : Type} (p : α → Bool) : ∀ (l : List α) (i : Nat) (x : α), l[i]? = some x → p x = true → (l.filter p)[((l.take i).filter p).length]? = some x
  | [], i, x, h, _ => by simp at h
  | a :: r, 0, x, h, hp => by
    simp at h
    subst h
    simp [hp]
  | a :: r, i + 1, x, h, hp => by
    have ih := filter_at p r i x (by simpa using h) hp
    by_cases c : p a = true
    · simp [List.filter_cons, c]
      simpa using ih
    · simp [List.filter_cons, c]
      simpa using ih
theorem filter_take_succ {α : Type} (p : α → Bool) (l : List α) (i : Nat) (x : α) (h : l[i]? = some x) : ((l.take (i + 1)).filter p).length = ((l.take i).filter p).length + (if p x = true then 1 else 0) := by
  rw [List.take_add_one, h, List.filter_append, List.length_append]
  by_cases c : p x = true
  · simp [c]
  · simp [c]
end Go.Proofs.YtjbjcfnbgcloiaaDoor

/- Call of the statements of layer 22: objects. -/
set_option linter.unusedSimpArgs false
set_option linter.unusedVariables false
namespace Go.Proofs.YtjbjcfnbgcloiaaDoor
open Go.RowKit Nam YtjbjcfnbgcloiaaDoorW.PrintWords Go.Lib

set_option maxHeartbeats 2000000 in
set_option maxRecDepth 100000 in
theorem call_objs (w : World) (g : Nat) (S : St) (n : Nat) (Q F : Nat → Prop) (b k pf fr : List UInt8) (dv : Value) (id nn a fi mo : Int) (hb : b.length ≤ 100000) (hpf : pf.length ≤ 100000) (hn : n ≤ 10000) (hfi : S.Fine) (hm : HasM w g S n Q F) :
    Calls Tryd.prog 10 #[.pointer (some ⟨g, 0, none⟩), .agg #[.int .i64 9, .string (mkS b), .string (mkS k), dv, .int .i64 nn, .int .i64 a, .string (mkS pf), .string (mkS fr), .int .i64 fi, .int .i64 mo], .int .i64 id] w (PgIs S b (askV pf fr fi mo) (ObjR (askV pf fr fi mo)) w) := by
  obtain ⟨W3, hW3⟩ : ∃ W3, ((w.alloc (.cells #[.int .i64 9, .string (mkS b), .string (mkS k), dv, .int .i64 nn, .int .i64 a, .string (mkS pf), .string (mkS fr), .int .i64 fi, .int .i64 mo] 33)).alloc (.cells ans0 42)).alloc (.cells ans0 42) = W3 := ⟨_, rfl⟩
  have hbx := boxed_mk w #[.int .i64 9, .string (mkS b), .string (mkS k), dv, .int .i64 nn, .int .i64 a, .string (mkS pf), .string (mkS fr), .int .i64 fi, .int .i64 mo]
  rw [hW3] at hbx
  have hps : (mkS pf).size ≤ maxLen := by rw [mkS_size]; unfold maxLen; omega
  have HC : Hid (∀ V, Below W3.heap.size W3 V → Calls Tryd.prog 12 #[.pointer (some ⟨g, 0, none⟩), .string (mkS b), .agg #[.string (mkS pf), .string (mkS fr), .int .i64 fi, .int .i64 mo]] V (PartIs S b (askV pf fr fi mo) (ObjR (askV pf fr fi mo)) V)) := fun V hV =>
    mobjects_is V g S n Q F b (askV pf fr fi mo) hb hps ((hm.below hbx.b).below hV) hfi hn
  have HA : Hid (∀ V, Below W3.heap.size W3 V → Calls Tryd.prog 25 #[.agg #[.string (mkS pf), .string (mkS fr), .int .i64 fi, .int .i64 mo]] V fun e w' => e = .returned (.agg #[.string (mkS pf), .string (mkS fr), .int .i64 fi, .int .i64 mo]) ∧ Below W3.heap.size W3 w' ∧ Below V.heap.size V w') := fun V hV =>
    (ask_is (mkS pf) (mkS fr) fi mo V).mono fun e w' ⟨h1, h2⟩ => ⟨h1, hV.trans (h2.mono hV.size), h2⟩
  have HS : Hid (∀ V, Below W3.heap.size W3 V → V.cell? ⟨w.heap.size, 1, none⟩ = some (.string (mkS b)) ∧ V.cell? ⟨w.heap.size, 6, none⟩ = some (.string (mkS pf)) ∧ V.cell? ⟨w.heap.size, 7, none⟩ = some (.string (mkS fr)) ∧ V.cell? ⟨w.heap.size, 8, none⟩ = some (.int .i64 fi) ∧ V.cell? ⟨w.heap.size, 9, none⟩ = some (.int .i64 mo)) := fun V hV => by
    obtain ⟨c0, c1, c2, c3, c4, c5, c6, c7, c8, c9⟩ := chAt_of ((hV.block w.heap.size (by have := hbx.s; omega)).trans hbx.k4)
    exact ⟨c1, c6, c7, c8, c9⟩
  have HBX := Lib.hid hbx
  have HM := Lib.hid hm
  have HW3 := Lib.hid hW3
  obtain ⟨c0, c1, c2, c3, c4, c5, c6, c7, c8, c9⟩ := chAt_of hbx.k4
  clear c2 c3 c4 c5
  clear hm hbx hW3 hfi hps
  go_enter Tryd.func10, Tryd.ntmps10
  go_upto_region 2 with (fail)
  rw [HW3.out]
  clear HW3
  go_upto_region 24 with (fail)
  have hb3 : Below W3.heap.size W3 W3.drew := (Below.refl _ _).drew
  have hb3n : Below W3.heap.size W3 W3 := Below.refl _ _
  go_region_held3 (fun V => V.cell? ⟨w.heap.size, 1, none⟩ = some (.string (mkS b)) ∧ V.cell? ⟨w.heap.size, 6, none⟩ = some (.string (mkS pf)) ∧ V.cell? ⟨w.heap.size, 7, none⟩ = some (.string (mkS fr)) ∧ V.cell? ⟨w.heap.size, 8, none⟩ = some (.int .i64 fi) ∧ V.cell? ⟨w.heap.size, 9, none⟩ = some (.int .i64 mo)) (first | exact HS.out _ (by assumption) | exact HS.out _ (by first | exact hb3.alloc hb3.size _ | exact hb4a.alloc hb4a.size _ | exact hb5a.alloc hb5a.size _ | exact (((hb5a.setCell (p := ⟨W3.heap.size, 0, none⟩) (Nat.le_refl _) _).setCell (p := ⟨W3.heap.size, 1, none⟩) (Nat.le_refl _) _).setCell (p := ⟨W3.heap.size, 2, none⟩) (Nat.le_refl _) _).setCell (p := ⟨W3.heap.size, 3, none⟩) (Nat.le_refl _) _ | exact (((hb5a.setCell (p := ⟨w4.heap.size, 0, none⟩) hb4a.size _).setCell (p := ⟨w4.heap.size, 1, none⟩) hb4a.size _).setCell (p := ⟨w4.heap.size, 2, none⟩) hb4a.size _).setCell (p := ⟨w4.heap.size, 3, none⟩) hb4a.size _)) ((first | (go_at_call 25; refine (HA.out _ (by assumption)).mono ?_; rintro e w4 ⟨rfl, hb4a, hb4b⟩) | (go_at_call 25; refine (HA.out (W3.drew.alloc (.cells #[.slice none 0 0, .bool false, .string ⟨#[]⟩, .int .i64 0] 44)) (hb3.alloc hb3.size _)).mono ?_; rintro e w4 ⟨rfl, hb4a, hb4b⟩; have hz4 : w4.heap[W3.heap.size]? = some (.cells #[.slice none 0 0, .bool false, .string ⟨#[]⟩, .int .i64 0] 44 (0, 0)) := (hb4b.block W3.heap.size (by simp)).trans (heap_alloc_new W3.drew _)) | (go_at_call 12; refine (HC.out (w4.alloc (.cells #[.slice none 0 0, .bool false, .string ⟨#[]⟩, .int .i64 0] 44)) (hb4a.alloc hb4a.size _)).mono ?_; intro e w5 hpa; obtain ⟨p, nv, cv, m, ky, i, er, L, rfl, hb5, hrow5, hfr5, htell⟩ := part_tells hpa; have HR5 := Lib.hid (And.intro hrow5 (And.intro hfr5 htell)); clear hrow5 hfr5 htell; clear hpa; have h5 : w5.heap[w4.heap.size]? = some (.cells #[.slice none 0 0, .bool false, .string ⟨#[]⟩, .int .i64 0] 44 (0, 0)) := (hb5.block w4.heap.size (by simp)).trans (heap_alloc_new w4 _); have r0 := (cells_of_heap h5).1 0 _ rfl; have r1 := (cells_of_heap h5).1 1 _ rfl; have r2 := (cells_of_heap h5).1 2 _ rfl; have r3 := (cells_of_heap h5).1 3 _ rfl; have z0 := (cells_of_heap h5).2 0; have z1 := (cells_of_heap h5).2 1; have z2 := (cells_of_heap h5).2 2; have z3 := (cells_of_heap h5).2 3; have hb5a : Below W3.heap.size W3 w5 := (hb4a.alloc hb4a.size _).trans (hb5.mono (by have := hb4a.size; simp; omega))) | (go_at_call 12; refine (HC.out _ (by assumption)).mono ?_; intro e w5 hpa; obtain ⟨p, nv, cv, m, ky, i, er, L, rfl, hb5, hrow5, hfr5, htell⟩ := part_tells hpa; have HR5 := Lib.hid (And.intro hrow5 (And.intro hfr5 htell)); clear hrow5 hfr5 htell; clear hpa; have h5 : w5.heap[W3.heap.size]? = some (.cells #[.slice none 0 0, .bool false, .string ⟨#[]⟩, .int .i64 0] 44 (0, 0)) := (hb5.block W3.heap.size (Array.getElem?_eq_some_iff.1 hz4).1).trans hz4; have r0 := (cells_of_heap h5).1 0 _ rfl; have r1 := (cells_of_heap h5).1 1 _ rfl; have r2 := (cells_of_heap h5).1 2 _ rfl; have r3 := (cells_of_heap h5).1 3 _ rfl; have z0 := (cells_of_heap h5).2 0; have z1 := (cells_of_heap h5).2 1; have z2 := (cells_of_heap h5).2 2; have z3 := (cells_of_heap h5).2 3; have hb5a : Below W3.heap.size W3 w5 := hb4a.trans (hb5.mono hb4a.size)) | (go_at_call 12; refine (HC.out _ (by assumption)).mono ?_; intro e w5 hpa; obtain ⟨p, nv, cv, m, ky, i, er, L, rfl, hb5, hrow5, hfr5, htell⟩ := part_tells hpa; have HR5 := Lib.hid (And.intro hrow5 (And.intro hfr5 htell)); clear hrow5 hfr5 htell; clear hpa; have hb5a : Below W3.heap.size W3 w5 := hb4a.trans (hb5.mono hb4a.size))))
  · obtain ⟨V6, hV6⟩ : ∃ V6, w5.alloc (.cells #[.slice p nv cv, .bool m, .string ky, .int .i64 i] 44) = V6 := ⟨_, rfl⟩
    rw [hV6]
    have h6 : V6.heap[w5.heap.size]? = some (.cells #[.slice p nv cv, .bool m, .string ky, .int .i64 i] 44 (0, 0)) := by rw [← hV6]; exact heap_alloc_new w5 _
    have HB6 : Hid (Below W3.heap.size W3 V6) := by show Below _ _ _; rw [← hV6]; exact hb5a.alloc hb5a.size _
    have hr6 : RowE V6 (.slice p nv cv) L := by rw [← hV6]; exact HR5.out.1.below ((Below.refl _ _).alloc (Nat.le_refl _) _)
    clear hV6 
    have HAn := Lib.hid (answer_is (.slice p nv cv) L m ky i (by have := tells_len objR_len HR5.out.2.2; omega) V6 hr6)
    have k0 : V6.cell? ⟨w5.heap.size, 0, none⟩ = some (.slice p nv cv) := (cells_of_heap h6).1 0 _ rfl
    have k1 : V6.cell? ⟨w5.heap.size, 1, none⟩ = some (.bool m) := (cells_of_heap h6).1 1 _ rfl
    have k2 : V6.cell? ⟨w5.heap.size, 2, none⟩ = some (.string ky) := (cells_of_heap h6).1 2 _ rfl
    have k3 : V6.cell? ⟨w5.heap.size, 3, none⟩ = some (.int .i64 i) := (cells_of_heap h6).1 3 _ rfl
    clear h6 hr6
    go_wp2_with fail
    refine HAn.out.mono ?_
    rintro e w7 ⟨sv', rfl, hr7, hf7, hb7⟩
    obtain ⟨p7, c7_, rfl, _⟩ := len_of_row hr7
    have HR7 := Lib.hid hr7
    have HB7 : Hid (Below W3.heap.size W3 w7) := HB6.out.trans (hb7.mono HB6.out.size)
    have HBo := Lib.hid (boxed_after HBX.out HM.out.q (Moved.of_below (Q := Q) HB7.out))
    obtain ⟨W8, HTH, hW8, ⟨z0, z1, z2, z3, z4, z5, z6, z7, z8, z9, z10⟩, HK7, HK6, HON⟩ := box_pg w w7 (.slice p7 L.length c7_) m ky i HBo.out.1 HBo.out.2.1 HBo.out.2.2
    have HW8 := Lib.hid hW8
    have HK6h := Lib.hid HK6
    have HTHh := Lib.hid HTH
    have HONh := Lib.hid HON
    have HF7 : Hid (∀ b f n c, Value.slice p7 L.length c7_ = .slice (some ⟨b, f, none⟩) n c → w.heap.size + 3 ≤ b) := fun b f n c h => by
      have h1 := hf7 b f n c h
      have h2 := HB6.out.size
      have h3 := HBX.out.s
      omega
    have f0 := blk_frozen HK7 0
    clear hW8 HK6 HK7 HTH HON hf7 hb7 hr7 k0 k1 k2 k3
    have HBs : Hid (∀ u, (W8.setCell ⟨w.heap.size + 1 + 1, 0, none⟩ u).heap[w.heap.size + 1]? = some (.cells ans0 42 (0, 0))) := fun u => blk_far HK6h.out (by simp) u
    go_wp2_with (first | (refine wpList_store_mid rfl 39 (.tmp 140) (.tmp 138) rfl (w.heap.size + 1 + 1) 6 (pgA (.slice p7 L.length c7_) m ky i) rfl rfl HTHh.out (by kernel_rfl) (by simp [Value.oneCell']) ?_; rw [HW8.out]) | (refine wpList_store_row rfl 42 (.tmp 6) (.tmp 159) rfl (w.heap.size + 1) (ansPg er (.slice p7 L.length c7_) m ky i) rfl rfl 42 _ (HBs.out _) (by kernel_rfl) rfl (by simp [Value.oneCell']) ?_))
    refine bodyPost_ret (results_single rfl (.cell (w.heap.size + 1) 42 (ansPg er (.slice p7 L.length c7_) m ky i) (0, 0) _ rfl (setRow_heap _ _ _ _ _ _ (HBs.out _)) Tryd.underlying42 rfl (by kernel_rfl) .nil)) rfl ?_
    have hon := (HONh.out.put 0 (.int .i64 er) (g := w.heap.size + 1 + 1) (by omega) (by omega)).row (g := w.heap.size + 1) (ansPg er (.slice p7 L.length c7_) m ky i) (by omega) (by omega)
    exact ⟨⟨er, _, m, ky, i, L, rfl, rowE_keep HR7.out (fun b f n c h hlt => hon.block b hlt (.inr (HF7.out b f n c h))) hon.size, HR5.out.2.2⟩, below_only (HBX.out.b.trans (HB7.out.mono HBX.out.b.size)) hon⟩
  · obtain ⟨V6, hV6⟩ : ∃ V6, ((((w5.setCell ⟨w4.heap.size, 0, none⟩ (.slice p nv cv)).setCell ⟨w4.heap.size, 1, none⟩ (.bool m)).setCell ⟨w4.heap.size, 2, none⟩ (.string ky)).setCell ⟨w4.heap.size, 3, none⟩ (.int .i64 i)) = V6 := ⟨_, rfl⟩
    rw [hV6]
    have h6 : V6.heap[w4.heap.size]? = some (.cells #[.slice p nv cv, .bool m, .string ky, .int .i64 i] 44 (0, 0)) := by rw [← hV6]; exact heap_set (heap_set (heap_set (heap_set h5 0 (.slice p nv cv)) 1 (.bool m)) 2 (.string ky)) 3 (.int .i64 i)
    have HB6 : Hid (Below W3.heap.size W3 V6) := by show Below _ _ _; rw [← hV6]; exact (((hb5a.setCell (p := ⟨w4.heap.size, 0, none⟩) hb4a.size _).setCell (p := ⟨w4.heap.size, 1, none⟩) hb4a.size _).setCell (p := ⟨w4.heap.size, 2, none⟩) hb4a.size _).setCell (p := ⟨w4.heap.size, 3, none⟩) hb4a.size _
    have hr6 : RowE V6 (.slice p nv cv) L := by rw [← hV6]; exact rowE_set (rowE_set (rowE_set (rowE_set HR5.out.1 (fun b f n c h => by have := HR5.out.2.1 b f n c h; simp at this; omega) _ _) (fun b f n c h => by have := HR5.out.2.1 b f n c h; simp at this; omega) _ _) (fun b f n c h => by have := HR5.out.2.1 b f n c h; simp at this; omega) _ _) (fun b f n c h => by have := HR5.out.2.1 b f n c h; simp at this; omega) _ _
    clear hV6 h5 r0 r1 r2 r3 z0 z1 z2 z3
    have HAn := Lib.hid (answer_is (.slice p nv cv) L m ky i (by have := tells_len objR_len HR5.out.2.2; omega) V6 hr6)
    have k0 : V6.cell? ⟨w4.heap.size, 0, none⟩ = some (.slice p nv cv) := (cells_of_heap h6).1 0 _ rfl
    have k1 : V6.cell? ⟨w4.heap.size, 1, none⟩ = some (.bool m) := (cells_of_heap h6).1 1 _ rfl
    have k2 : V6.cell? ⟨w4.heap.size, 2, none⟩ = some (.string ky) := (cells_of_heap h6).1 2 _ rfl
    have k3 : V6.cell? ⟨w4.heap.size, 3, none⟩ = some (.int .i64 i) := (cells_of_heap h6).1 3 _ rfl
    clear h6 hr6
    go_wp2_with fail
    refine HAn.out.mono ?_
    rintro e w7 ⟨sv', rfl, hr7, hf7, hb7⟩
    obtain ⟨p7, c7_, rfl, _⟩ := len_of_row hr7
    have HR7 := Lib.hid hr7
    have HB7 : Hid (Below W3.heap.size W3 w7) := HB6.out.trans (hb7.mono HB6.out.size)
    have HBo := Lib.hid (boxed_after HBX.out HM.out.q (Moved.of_below (Q := Q) HB7.out))
    obtain ⟨W8, HTH, hW8, ⟨z0, z1, z2, z3, z4, z5, z6, z7, z8, z9, z10⟩, HK7, HK6, HON⟩ := box_pg w w7 (.slice p7 L.length c7_) m ky i HBo.out.1 HBo.out.2.1 HBo.out.2.2
    have HW8 := Lib.hid hW8
    have HK6h := Lib.hid HK6
    have HTHh := Lib.hid HTH
    have HONh := Lib.hid HON
    have HF7 : Hid (∀ b f n c, Value.slice p7 L.length c7_ = .slice (some ⟨b, f, none⟩) n c → w.heap.size + 3 ≤ b) := fun b f n c h => by
      have h1 := hf7 b f n c h
      have h2 := HB6.out.size
      have h3 := HBX.out.s
      omega
    have f0 := blk_frozen HK7 0
    clear hW8 HK6 HK7 HTH HON hf7 hb7 hr7 k0 k1 k2 k3
    have HBs : Hid (∀ u, (W8.setCell ⟨w.heap.size + 1 + 1, 0, none⟩ u).heap[w.heap.size + 1]? = some (.cells ans0 42 (0, 0))) := fun u => blk_far HK6h.out (by simp) u
    go_wp2_with (first | (refine wpList_store_mid rfl 39 (.tmp 140) (.tmp 138) rfl (w.heap.size + 1 + 1) 6 (pgA (.slice p7 L.length c7_) m ky i) rfl rfl HTHh.out (by kernel_rfl) (by simp [Value.oneCell']) ?_; rw [HW8.out]) | (refine wpList_store_row rfl 42 (.tmp 6) (.tmp 159) rfl (w.heap.size + 1) (ansPg er (.slice p7 L.length c7_) m ky i) rfl rfl 42 _ (HBs.out _) (by kernel_rfl) rfl (by simp [Value.oneCell']) ?_))
    refine bodyPost_ret (results_single rfl (.cell (w.heap.size + 1) 42 (ansPg er (.slice p7 L.length c7_) m ky i) (0, 0) _ rfl (setRow_heap _ _ _ _ _ _ (HBs.out _)) Tryd.underlying42 rfl (by kernel_rfl) .nil)) rfl ?_
    have hon := (HONh.out.put 0 (.int .i64 er) (g := w.heap.size + 1 + 1) (by omega) (by omega)).row (g := w.heap.size + 1) (ansPg er (.slice p7 L.length c7_) m ky i) (by omega) (by omega)
    exact ⟨⟨er, _, m, ky, i, L, rfl, rowE_keep HR7.out (fun b f n c h hlt => hon.block b hlt (.inr (HF7.out b f n c h))) hon.size, HR5.out.2.2⟩, below_only (HBX.out.b.trans (HB7.out.mono HBX.out.b.size)) hon⟩
  · obtain ⟨V6, hV6⟩ : ∃ V6, ((((w5.setCell ⟨W3.heap.size, 0, none⟩ (.slice p nv cv)).setCell ⟨W3.heap.size, 1, none⟩ (.bool m)).setCell ⟨W3.heap.size, 2, none⟩ (.string ky)).setCell ⟨W3.heap.size, 3, none⟩ (.int .i64 i)) = V6 := ⟨_, rfl⟩
    rw [hV6]
    have h6 : V6.heap[W3.heap.size]? = some (.cells #[.slice p nv cv, .bool m, .string ky, .int .i64 i] 44 (0, 0)) := by rw [← hV6]; exact heap_set (heap_set (heap_set (heap_set h5 0 (.slice p nv cv)) 1 (.bool m)) 2 (.string ky)) 3 (.int .i64 i)
    have HB6 : Hid (Below W3.heap.size W3 V6) := by show Below _ _ _; rw [← hV6]; exact (((hb5a.setCell (p := ⟨W3.heap.size, 0, none⟩) (Nat.le_refl _) _).setCell (p := ⟨W3.heap.size, 1, none⟩) (Nat.le_refl _) _).setCell (p := ⟨W3.heap.size, 2, none⟩) (Nat.le_refl _) _).setCell (p := ⟨W3.heap.size, 3, none⟩) (Nat.le_refl _) _
    have hr6 : RowE V6 (.slice p nv cv) L := by rw [← hV6]; exact rowE_set (rowE_set (rowE_set (rowE_set HR5.out.1 (fun b f n c h => by have := HR5.out.2.1 b f n c h; have := (Array.getElem?_eq_some_iff.1 hz4).1; omega) _ _) (fun b f n c h => by have := HR5.out.2.1 b f n c h; have := (Array.getElem?_eq_some_iff.1 hz4).1; omega) _ _) (fun b f n c h => by have := HR5.out.2.1 b f n c h; have := (Array.getElem?_eq_some_iff.1 hz4).1; omega) _ _) (fun b f n c h => by have := HR5.out.2.1 b f n c h; have := (Array.getElem?_eq_some_iff.1 hz4).1; omega) _ _
    clear hV6 h5 r0 r1 r2 r3 z0 z1 z2 z3
    have HAn := Lib.hid (answer_is (.slice p nv cv) L m ky i (by have := tells_len objR_len HR5.out.2.2; omega) V6 hr6)
    have k0 : V6.cell? ⟨W3.heap.size, 0, none⟩ = some (.slice p nv cv) := (cells_of_heap h6).1 0 _ rfl
    have k1 : V6.cell? ⟨W3.heap.size, 1, none⟩ = some (.bool m) := (cells_of_heap h6).1 1 _ rfl
    have k2 : V6.cell? ⟨W3.heap.size, 2, none⟩ = some (.string ky) := (cells_of_heap h6).1 2 _ rfl
    have k3 : V6.cell? ⟨W3.heap.size, 3, none⟩ = some (.int .i64 i) := (cells_of_heap h6).1 3 _ rfl
    clear h6 hr6
    go_wp2_with fail
    refine HAn.out.mono ?_
    rintro e w7 ⟨sv', rfl, hr7, hf7, hb7⟩
    obtain ⟨p7, c7_, rfl, _⟩ := len_of_row hr7
    have HR7 := Lib.hid hr7
    have HB7 : Hid (Below W3.heap.size W3 w7) := HB6.out.trans (hb7.mono HB6.out.size)
    have HBo := Lib.hid (boxed_after HBX.out HM.out.q (Moved.of_below (Q := Q) HB7.out))
    obtain ⟨W8, HTH, hW8, ⟨z0, z1, z2, z3, z4, z5, z6, z7, z8, z9, z10⟩, HK7, HK6, HON⟩ := box_pg w w7 (.slice p7 L.length c7_) m ky i HBo.out.1 HBo.out.2.1 HBo.out.2.2
    have HW8 := Lib.hid hW8
    have HK6h := Lib.hid HK6
    have HTHh := Lib.hid HTH
    have HONh := Lib.hid HON
    have HF7 : Hid (∀ b f n c, Value.slice p7 L.length c7_ = .slice (some ⟨b, f, none⟩) n c → w.heap.size + 3 ≤ b) := fun b f n c h => by
      have h1 := hf7 b f n c h
      have h2 := HB6.out.size
      have h3 := HBX.out.s
      omega
    have f0 := blk_frozen HK7 0
    clear hW8 HK6 HK7 HTH HON hf7 hb7 hr7 k0 k1 k2 k3
    have HBs : Hid (∀ u, (W8.setCell ⟨w.heap.size + 1 + 1, 0, none⟩ u).heap[w.heap.size + 1]? = some (.cells ans0 42 (0, 0))) := fun u => blk_far HK6h.out (by simp) u
    go_wp2_with (first | (refine wpList_store_mid rfl 39 (.tmp 140) (.tmp 138) rfl (w.heap.size + 1 + 1) 6 (pgA (.slice p7 L.length c7_) m ky i) rfl rfl HTHh.out (by kernel_rfl) (by simp [Value.oneCell']) ?_; rw [HW8.out]) | (refine wpList_store_row rfl 42 (.tmp 6) (.tmp 159) rfl (w.heap.size + 1) (ansPg er (.slice p7 L.length c7_) m ky i) rfl rfl 42 _ (HBs.out _) (by kernel_rfl) rfl (by simp [Value.oneCell']) ?_))
    refine bodyPost_ret (results_single rfl (.cell (w.heap.size + 1) 42 (ansPg er (.slice p7 L.length c7_) m ky i) (0, 0) _ rfl (setRow_heap _ _ _ _ _ _ (HBs.out _)) Tryd.underlying42 rfl (by kernel_rfl) .nil)) rfl ?_
    have hon := (HONh.out.put 0 (.int .i64 er) (g := w.heap.size + 1 + 1) (by omega) (by omega)).row (g := w.heap.size + 1) (ansPg er (.slice p7 L.length c7_) m ky i) (by omega) (by omega)
    exact ⟨⟨er, _, m, ky, i, L, rfl, rowE_keep HR7.out (fun b f n c h hlt => hon.block b hlt (.inr (HF7.out b f n c h))) hon.size, HR5.out.2.2⟩, below_only (HBX.out.b.trans (HB7.out.mono HBX.out.b.size)) hon⟩
end Go.Proofs.YtjbjcfnbgcloiaaDoor
