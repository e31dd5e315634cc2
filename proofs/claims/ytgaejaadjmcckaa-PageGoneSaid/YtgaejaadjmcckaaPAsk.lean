/- What of a row is asked for: the two literals of package page. -/
import Derived.Test.YtgaejaadjmcckaaPFair
namespace Go.Proofs.Ytgaejaadjmcckaa
open Go.Shelf Go.RowKit Go.Lib

/-- A question. -/
structure AskV where
  pre : ByteArray
  fr : ByteArray
  fid : Int
  most : Int
deriving Inhabited

def encA (q : AskV) : List Value := [.string q.pre, .string q.fr, .int .i64 q.fid, .int .i64 q.most]

/-- A box that holds it. -/
structure AskAt (W : World) (a : Nat) (q : AskV) : Prop where
  lt : a < W.heap.size
  pre : W.cell? ⟨a, 0, none⟩ = some (.string q.pre)
  fr : W.cell? ⟨a, 1, none⟩ = some (.string q.fr)
  fid : W.cell? ⟨a, 2, none⟩ = some (.int .i64 q.fid)
  most : W.cell? ⟨a, 3, none⟩ = some (.int .i64 q.most)

def objB (q : AskV) (x : Ent) : Bool := x.latest && !x.mark && (q.fr.toList.isEmpty || Op.bytesLess q.fr.toList x.key.toList)
def verB (q : AskV) (x : Ent) : Bool := q.fr.toList.isEmpty || Op.bytesLess q.fr.toList x.key.toList || (x.key.toList == q.fr.toList && decide (x.id < q.fid))

set_option maxHeartbeats 2000000 in
theorem objB_is (q : AskV) (x : Ent) (a : Nat) (w : World) (h : AskAt w a q) :
    Calls Try.prog 30 #[.agg (encE x).toArray, .pointer (some ⟨a, 0, none⟩)] w fun e w' => e = .returned (.bool (objB q x)) ∧ Below w.heap.size w w' := by
  obtain ⟨k1, i1, m1, s1, u1, l1⟩ := x
  unfold encE objB
  have ca : ∀ o, (w.alloc o).cell? ⟨a, 1, none⟩ = some (.string q.fr) := fun o => by rw [World.cell?_alloc_lt _ _ _ h.lt]; exact h.fr
  obtain ⟨f, hf⟩ : ∃ f, q.fr = f := ⟨_, rfl⟩
  rw [hf] at ca
  simp only [hf]
  clear hf h
  obtain ⟨em, hem⟩ : ∃ b, f.toList.isEmpty = b := ⟨_, rfl⟩
  obtain ⟨le, hle⟩ : ∃ b, Op.bytesLess f.toList k1.toList = b := ⟨_, rfl⟩
  have cl : ∀ W : World, Calls Try.prog 31 #[.string f, .string k1] W fun e w' => e = .returned (.bool le) ∧ W = w' := fun W => by rw [← hle]; exact less_is f k1 W
  rw [hem, hle]
  have CL := Lib.hid cl; clear cl
  clear hle
  cases l1 <;> cases m1 <;> cases em
  all_goals
    go_enter Try.func30, Try.ntmps30
    go_wp2_with (go_at_call 31; refine (CL.out _).mono ?_; rintro e w' ⟨rfl, rfl⟩)
    go_ret
    exact ⟨congrArg (fun x => Ending.returned (Value.bool x)) (by simp), (Below.refl _ _).alloc (Nat.le_refl _) _⟩

set_option maxHeartbeats 2000000 in
theorem verB_is (q : AskV) (x : Ent) (a : Nat) (w : World) (h : AskAt w a q) :
    Calls Try.prog 33 #[.agg (encE x).toArray, .pointer (some ⟨a, 0, none⟩)] w fun e w' => e = .returned (.bool (verB q x)) ∧ Below w.heap.size w w' := by
  obtain ⟨k1, i1, m1, s1, u1, l1⟩ := x
  unfold encE verB
  have ca : ∀ o, (w.alloc o).cell? ⟨a, 1, none⟩ = some (.string q.fr) := fun o => by rw [World.cell?_alloc_lt _ _ _ h.lt]; exact h.fr
  have cb : ∀ o, (w.alloc o).cell? ⟨a, 2, none⟩ = some (.int .i64 q.fid) := fun o => by rw [World.cell?_alloc_lt _ _ _ h.lt]; exact h.fid
  obtain ⟨f, hf⟩ : ∃ f, q.fr = f := ⟨_, rfl⟩
  obtain ⟨fi, hfi⟩ : ∃ f, q.fid = f := ⟨_, rfl⟩
  rw [hf] at ca
  rw [hfi] at cb
  simp only [hf, hfi]
  clear hf hfi h
  obtain ⟨em, hem⟩ : ∃ b, f.toList.isEmpty = b := ⟨_, rfl⟩
  obtain ⟨le, hle⟩ : ∃ b, Op.bytesLess f.toList k1.toList = b := ⟨_, rfl⟩
  obtain ⟨eq, heq⟩ : ∃ b, (k1.toList == f.toList) = b := ⟨_, rfl⟩
  have cl : ∀ W : World, Calls Try.prog 31 #[.string f, .string k1] W fun e w' => e = .returned (.bool le) ∧ W = w' := fun W => by rw [← hle]; exact less_is f k1 W
  rw [hem, hle, heq]
  have CL := Lib.hid cl; clear cl
  clear hle
  cases em <;> cases le <;> cases eq
  all_goals
    go_enter Try.func33, Try.ntmps33
    go_wp2_with (go_at_call 31; refine (CL.out _).mono ?_; rintro e w' ⟨rfl, rfl⟩)
    go_ret
    exact ⟨congrArg (fun x => Ending.returned (Value.bool x)) (by simp), (Below.refl _ _).alloc (Nat.le_refl _) _⟩
end Go.Proofs.Ytgaejaadjmcckaa
