/- Lines: what line.Split answers, as plain lists. -/
import Derived.Test.YtjgaobkgmheocaaDoorStr
namespace Go.Proofs.YtjgaobkgmheocaaDoor
open Go Go.RowKit

def isEnd (c : UInt8) : Bool := c == 10 || c == 13
def lineEnd (l : List UInt8) (k : Nat) : Nat := k + ((l.drop k).takeWhile (fun c => !isEnd c)).length
def lineNext (l : List UInt8) (e : Nat) : Nat := if e < l.length then (if l[e]? = some 13 ∧ l[e + 1]? = some 10 then e + 2 else e + 1) else e
def splitN (l : List UInt8) : Nat → Nat → List (Nat × Nat × Nat)
  | 0, _ => []
  | f + 1, k => if k < l.length then (k, lineEnd l k, lineNext l (lineEnd l k)) :: splitN l f (lineNext l (lineEnd l k)) else []
def splitL (l : List UInt8) : List (Nat × Nat × Nat) := splitN l l.length 0
def textsL (l : List UInt8) : List (List UInt8) := (splitL l).map fun x => (l.take x.2.1).drop x.1

theorem takeWhile_stop (p : UInt8 → Bool) : ∀ (l : List UInt8), (l.takeWhile p).length ≤ l.length ∧ (∀ j, j < (l.takeWhile p).length → ∀ h : j < l.length, p l[j] = true) ∧ (∀ h : (l.takeWhile p).length < l.length, p l[(l.takeWhile p).length] = false) := by
  intro l
  induction l with
  | nil => simp
  | cons c r ih =>
    by_cases hc : p c = true
    · have e : (c :: r).takeWhile p = c :: r.takeWhile p := by simp [List.takeWhile, hc]
      rw [e]
      simp only [List.length_cons]
      refine ⟨by omega, ?_, ?_⟩
      · intro j hj h
        cases j with
        | zero => exact hc
        | succ j => exact ih.2.1 j (by omega) (by omega)
      · intro h
        exact ih.2.2 (by omega)
    · have hc' : p c = false := by simpa using hc
      have e : (c :: r).takeWhile p = [] := by simp [List.takeWhile, hc']
      rw [e]
      exact ⟨by simp, fun j hj => by simp at hj, fun _ => hc'⟩
theorem lineEnd_ge (l : List UInt8) (k : Nat) : k ≤ lineEnd l k := by unfold lineEnd; omega
theorem lineEnd_le (l : List UInt8) (k : Nat) (hk : k ≤ l.length) : lineEnd l k ≤ l.length := by
  have := (takeWhile_stop (fun c => !isEnd c) (l.drop k)).1
  rw [List.length_drop] at this
  unfold lineEnd
  omega
theorem lineEnd_pre (l : List UInt8) (k j : Nat) (hk : k ≤ j) (hj : j < lineEnd l k) (h : j < l.length) : l[j] ≠ 10 ∧ l[j] ≠ 13 := by
  have := (takeWhile_stop (fun c => !isEnd c) (l.drop k)).2.1 (j - k) (by unfold lineEnd at hj; omega) (by rw [List.length_drop]; omega)
  rw [List.getElem_drop] at this
  have e : k + (j - k) = j := by omega
  simp only [e] at this
  simpa [isEnd] using this
theorem lineEnd_at (l : List UInt8) (k : Nat) (h : lineEnd l k < l.length) : l[lineEnd l k] = 10 ∨ l[lineEnd l k] = 13 := by
  have := (takeWhile_stop (fun c => !isEnd c) (l.drop k)).2.2 (by rw [List.length_drop]; unfold lineEnd at h; omega)
  rw [List.getElem_drop] at this
  have h2 : isEnd (l[lineEnd l k]) = true := by
    have h3 : (!isEnd (l[lineEnd l k])) = false := this
    simpa using h3
  simpa [isEnd] using h2
theorem lineNext_ge (l : List UInt8) (e : Nat) : e ≤ lineNext l e := by unfold lineNext; split <;> (try split) <;> omega
theorem lineNext_gt (l : List UInt8) (e : Nat) (h : e < l.length) : e < lineNext l e := by unfold lineNext; rw [if_pos h]; split <;> omega
theorem lineNext_le (l : List UInt8) (e : Nat) (h : e ≤ l.length) : lineNext l e ≤ l.length := by
  unfold lineNext
  split
  · split
    · rename_i h2
      obtain ⟨h3, _⟩ := List.getElem?_eq_some_iff.1 h2.2
      omega
    · omega
  · exact h
theorem next_gt (l : List UInt8) (k : Nat) (h : k < l.length) : k < lineNext l (lineEnd l k) := by
  by_cases he : lineEnd l k < l.length
  · have := lineNext_gt l _ he; have := lineEnd_ge l k; omega
  · have h1 := lineEnd_le l k (by omega); have := lineNext_ge l (lineEnd l k); omega
theorem splitN_len (l : List UInt8) : ∀ f k, (splitN l f k).length ≤ f := by
  intro f
  induction f with
  | zero => intro k; simp [splitN]
  | succ f ih =>
    intro k
    simp only [splitN]
    split
    · simp only [List.length_cons]; have := ih (lineNext l (lineEnd l k)); omega
    · simp
def lineVals (x : Nat × Nat × Nat) : List Value := [.int .i64 x.1, .int .i64 x.2.1, .int .i64 x.2.2]
def linesVals (l : List (Nat × Nat × Nat)) : List Value := l.flatMap lineVals
theorem linesVals_length (l : List (Nat × Nat × Nat)) : (linesVals l).length = l.length * 3 := by
  induction l with
  | nil => rfl
  | cons x r ih => simp only [linesVals, List.flatMap_cons, List.length_append, List.length_cons] at *; rw [ih]; simp [lineVals]; omega
theorem linesVals_snoc (l : List (Nat × Nat × Nat)) (x : Nat × Nat × Nat) : linesVals (l ++ [x]) = linesVals l ++ lineVals x := by simp [linesVals]
end Go.Proofs.YtjgaobkgmheocaaDoor
