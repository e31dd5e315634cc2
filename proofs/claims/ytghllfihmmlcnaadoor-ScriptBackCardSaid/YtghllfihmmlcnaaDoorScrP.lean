/- Lives as texts, plainly: what the parts of a line are, and their reading. -/
import Derived.Test.YtghllfihmmlcnaaDoorNamP
import Derived.Lib.ItoaNum
import Derived.Lib.AtoiAll
namespace Go.Proofs.YtghllfihmmlcnaaDoor
open Nam

/-- A text cut at each of one byte. -/
def splitB (c : UInt8) : List UInt8 → List (List UInt8)
  | [] => [[]]
  | x :: t => if x = c then [] :: splitB c t else (splitB c t).modifyHead (x :: ·)

theorem splitB_cons (c x : UInt8) (t : List UInt8) : splitB c (x :: t) = if x = c then [] :: splitB c t else (splitB c t).modifyHead (x :: ·) := rfl
theorem splitB_ne (c : UInt8) (l : List UInt8) : splitB c l ≠ [] := by
  induction l with
  | nil => simp [splitB]
  | cons x t ih =>
    rw [splitB_cons]
    split
    · simp
    · cases h : splitB c t with
      | nil => exact absurd h ih
      | cons a r => simp

theorem modifyHead_nil (L : List (List UInt8)) : L.modifyHead ([] ++ ·) = L := by
  cases L <;> simp

theorem splitB_step (c x : UInt8) (cur t : List UInt8) : (splitB c (x :: t)).modifyHead (cur ++ ·) = if x = c then cur :: splitB c t else (splitB c t).modifyHead (cur ++ [x] ++ ·) := by
  rw [splitB_cons]
  split
  · simp
  · cases h : splitB c t with
    | nil => exact absurd h (splitB_ne c t)
    | cons a r => simp

/-- What was cut joins again. -/
def joinB (c : UInt8) : List (List UInt8) → List UInt8
  | [] => []
  | [a] => a
  | a :: b :: r => a ++ c :: joinB c (b :: r)

theorem joinB_split (c : UInt8) (l : List UInt8) : joinB c (splitB c l) = l := by
  induction l with
  | nil => rfl
  | cons x t ih =>
    rw [splitB_cons]
    split
    · rename_i h
      subst h
      cases hs : splitB x t with
      | nil => exact absurd hs (splitB_ne _ t)
      | cons a r => rw [hs] at ih; simp [joinB, ih]
    · cases hs : splitB c t with
      | nil => exact absurd hs (splitB_ne c t)
      | cons a r =>
        rw [hs] at ih
        cases r with
        | nil => simp [joinB] at ih ⊢; exact ih
        | cons b r => simp [joinB] at ih ⊢; exact ih

theorem splitB_none (c : UInt8) (l : List UInt8) (h : c ∉ l) : splitB c l = [l] := by
  induction l with
  | nil => rfl
  | cons x t ih =>
    simp only [List.mem_cons, not_or] at h
    rw [splitB_cons, if_neg (fun e => h.1 e.symm), ih h.2]
    rfl

theorem splitB_put (c : UInt8) (L : List UInt8) : ∀ a : List UInt8, c ∉ a → splitB c (a ++ c :: L) = a :: splitB c L
  | [], _ => by show splitB c (c :: L) = _; rw [splitB_cons, if_pos rfl]
  | x :: t, ha => by
    simp only [List.mem_cons, not_or] at ha
    show splitB c (x :: (t ++ c :: L)) = _
    rw [splitB_cons, if_neg (fun e => ha.1 e.symm), splitB_put c L t ha.2]
    rfl
theorem splitB_join (c : UInt8) : ∀ (L : List (List UInt8)), L ≠ [] → (∀ a ∈ L, c ∉ a) → splitB c (joinB c L) = L
  | [], h, _ => absurd rfl h
  | [a], _, h => splitB_none c a (h a (by simp))
  | a :: b :: r, _, h => by
    show splitB c (a ++ c :: joinB c (b :: r)) = _
    rw [splitB_put c _ a (h a (by simp)), splitB_join c (b :: r) (by simp) (fun x hx => h x (List.mem_cons_of_mem _ hx))]

def mkS (l : List UInt8) : ByteArray := ⟨l.toArray⟩
theorem mkS_list (l : List UInt8) : (mkS l).data.toList = l := rfl
theorem mkS_of (s : ByteArray) : mkS s.data.toList = s := by cases s; rfl
theorem mkS_size (l : List UInt8) : (mkS l).size = l.length := by simp [mkS, ByteArray.size]
theorem eq_mkS {t : ByteArray} {l : List UInt8} (h : t.data.toList = l) : t = mkS l := by rw [← h, mkS_of]
theorem mkS_inj {a b : List UInt8} : mkS a = mkS b ↔ a = b := ⟨fun h => congrArg (fun t : ByteArray => t.data.toList) h, fun h => by rw [h]⟩
theorem mkS_app (a b : List UInt8) : mkS a ++ mkS b = mkS (a ++ b) := by
  have h : (mkS a ++ mkS b).data.toList = a ++ b := by simp [mkS]
  rw [← mkS_of (mkS a ++ mkS b), h]
theorem extract_mkS (s : ByteArray) (a b : Nat) : s.extract a b = mkS ((s.data.toList.drop a).take (b - a)) := by
  apply ByteArray.ext
  apply Array.toList_inj.1
  rw [Lib.extract_data]
  rfl

/-- Bytes that are not the one at which is cut go into the first part. -/
theorem splitB_skip (c : UInt8) (t : List UInt8) : ∀ (x cur : List UInt8), c ∉ x → (splitB c (x ++ t)).modifyHead (cur ++ ·) = (splitB c t).modifyHead (cur ++ x ++ ·)
  | [], cur, _ => by simp
  | y :: x, cur, h => by
    simp only [List.mem_cons, not_or] at h
    rw [List.cons_append, splitB_step, if_neg (fun e => h.1 e.symm), splitB_skip c t x (cur ++ [y]) h.2]
    simp

/-- Bytes as they are written, and read. -/
def textB (s : List UInt8) : List UInt8 := if s = [] then [46] else pathB s
def readB (s : List UInt8) : List UInt8 × Bool := if s = [46] then ([], true) else match unp s with
  | some t => (t, t != [])
  | none => ([], false)
end Go.Proofs.YtghllfihmmlcnaaDoor
