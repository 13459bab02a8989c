/- Plain lemmas: bytes of a string as a list; columns. -/
import Derived.Below
import Derived.WalkKit
import Derived.OwnWalk
import Derived.Outline
import Derived.IntWalk
import Derived.Deep.QuietTactic
import Derived.BigQuiet
import Derived.WalkLawsBesides
import Derived.WalkSpells
import Derived.Lib.Hide
namespace Go.Proofs.YtjgaobkgmheocaaDoor
open Go Go.RowKit

/-- A string value's bytes, out of a list. -/
def S (l : List UInt8) : ByteArray := ⟨l.toArray⟩
theorem S_size (l : List UInt8) : (S l).size = l.length := by simp [S, ByteArray.size]
theorem S_list (l : List UInt8) : (S l).data.toList = l := by simp [S]
theorem S_of (s : ByteArray) : S s.data.toList = s := by cases s; simp [S]
theorem S_get (l : List UInt8) (i : Nat) (h : i < (S l).size) : (S l)[i] = l[i]'(by rw [S_size] at h; exact h) := by simp [S, ByteArray.getElem_eq_getElem_data]
theorem S_extract (l : List UInt8) (a b : Nat) : (S l).extract a b = S ((l.take b).drop a) := by
  apply ByteArray.ext
  apply Array.ext'
  rw [ByteArray.data_extract]
  simp [S, List.drop_take]
theorem S_append (a b : List UInt8) : S a ++ S b = S (a ++ b) := by
  apply ByteArray.ext
  rw [ByteArray.data_append]
  simp [S]
theorem S_inj {a b : List UInt8} (h : S a = S b) : a = b := by have := congrArg (fun s => s.data.toList) h; simpa [S] using this
theorem S_drop (l : List UInt8) (a : Nat) : (S l).extract a (S l).size = S (l.drop a) := by rw [S_extract, S_size, List.take_length]

/-! columns -/
def white (c : UInt8) : Bool := c == 32 || c == 9
def step (col : Nat) (c : UInt8) : Nat := if c = 9 then col - col % 4 + 4 else col + 1
/-- how many columns, how many bytes -/
def indentF : Nat → List UInt8 → Nat × Nat
  | col, [] => (col, 0)
  | col, c :: r => if white c then ((indentF (step col c) r).1, (indentF (step col c) r).2 + 1) else (col, 0)
def indent (l : List UInt8) : Nat × Nat := indentF 0 l
theorem step_le (col : Nat) (c : UInt8) : step col c ≤ col + 4 := by unfold step; split <;> omega
theorem step_gt (col : Nat) (c : UInt8) : col < step col c := by unfold step; split <;> omega
theorem indentF_le (l : List UInt8) : ∀ col, (indentF col l).2 ≤ l.length ∧ (indentF col l).1 ≤ col + 4 * l.length := by
  induction l with
  | nil => intro col; simp [indentF]
  | cons c r ih =>
    intro col
    have h1 := ih (step col c)
    have h2 := step_le col c
    simp only [indentF]
    split
    · simp only [List.length_cons]; omega
    · simp
theorem below_step {w w1 w2 : World} {B : Nat} (h : Below B w w1) (hB : B ≤ w1.heap.size) (k : Below w1.heap.size w1 w2) : Below B w w2 :=
  h.trans (k.mono hB)
theorem below_next {w w1 w2 : World} (h : Below w.heap.size w w1) (k : Below w1.heap.size w1 w2) : Below w.heap.size w w2 :=
  h.trans (k.mono h.size)

/-- Without n columns at the beginning: the column reached, what is left. -/
def stripF (n : Int) : Nat → List UInt8 → Nat × List UInt8
  | col, [] => (col, [])
  | col, c :: r => if (col : Int) < n && white c then stripF n (step col c) r else (col, c :: r)
def strip (l : List UInt8) (n : Int) : List UInt8 := List.replicate (((stripF n 0 l).1 : Int) - max 0 n).toNat 32 ++ (stripF n 0 l).2
def empty (l : List UInt8) : Bool := (indent l).2 == l.length
theorem stripF_over (n : Int) (l : List UInt8) : ∀ col : Nat, (col : Int) ≤ max 0 n + 3 → ((stripF n col l).1 : Int) ≤ max 0 n + 3 := by
  induction l with
  | nil => intro col h; simpa [stripF] using h
  | cons c r ih =>
    intro col h
    simp only [stripF]
    split
    · rename_i hc
      simp only [Bool.and_eq_true, decide_eq_true_eq] at hc
      have := step_le col c
      exact ih _ (by omega)
    · exact h
def runL (c : UInt8) : List UInt8 → Nat
  | [] => 0
  | x :: r => if x = c then runL c r + 1 else 0
theorem runL_le (c : UInt8) (l : List UInt8) : runL c l ≤ l.length := by
  induction l with
  | nil => simp [runL]
  | cons x r ih => simp only [runL]; split <;> simp <;> omega
end Go.Proofs.YtjgaobkgmheocaaDoor
