/- block.parser.next: words. -/
import Derived.Test.YtjgaobkgmheocaaDoorPblock
import Derived.Test.YtjgaobkgmheocaaDoorTakes
namespace Go.Proofs.YtjgaobkgmheocaaDoor
open Go Go.RowKit

/-- How many containers of the row go on, and what they leave of the line. -/
def runRow (st : PS) : List Nat → List UInt8 → Nat → Nat × List UInt8
  | [], s, k => (k, s)
  | i :: r, s, k =>
    match takesV (st.nd i) s with
    | some t => runRow st r t (k + 1)
    | none => (k, s)
/-- Is the open leaf a fence? -/
def openFence (st : PS) : Bool :=
  match st.leaf with
  | none => false
  | some j => (st.nd j).kind == 7
def nextS (st : PS) (s : List UInt8) : PS :=
  let q := runRow st st.row s 0
  if (q.1 == st.row.length && openFence st) = true then
    let j := st.leaf.getD 0
    if ends (st.nd j).fence q.2 then leafS st none else lnS st j (strip q.2 (st.nd j).fence.indent)
  else
    let b := beginsF q.1 (40 - q.1) st q.2 false
    if empty b.2.1 then leafS (if b.2.2 then b.1 else shutS b.1 q.1) none
    else match blockS b.1 q.1 b.2.1 b.2.2 with
      | some st3 => st3
      | none => textS b.1 q.1 b.2.1 b.2.2
theorem takesV_len {n : Nd} {s t : List UInt8} (h : takesV n s = some t) : t.length ≤ s.length + 3 := by
  unfold takesV at h
  split at h
  · exact quote_len h
  · split at h
    · injection h with h; subst h; omega
    · split at h
      · cases h
      · injection h with h; subst h; exact strip_len _ _
theorem row_shut {st : PS} {i : Nat} (h : i ≤ st.row.length) : i ≤ (shutS st i).row.length := by unfold shutS; dsimp only; rw [List.length_take]; omega
theorem row_push (st : PS) (n : Nd) : (pushS st n).row.length = st.row.length + 1 := by show (st.row ++ [_]).length = _; simp
theorem row_put (st : PS) (j n : Nat) : (putItem st j n).row.length = st.row.length + 1 := by show (st.row ++ [_]).length = _; simp
theorem row_item (st : PS) (c : UInt8) (n : Nat) : (itemS st c n).row.length = st.row.length + 1 := by
  unfold itemS
  dsimp only
  split
  · exact row_put _ _ _
  · rw [row_put]; rfl
theorem begins_row (i : Nat) : ∀ (k : Nat) (st : PS) (l : List UInt8) (fr : Bool), i ≤ st.row.length → i ≤ (beginsF i k st l fr).1.row.length
  | 0, _, _, _, h => h
  | k + 1, st, l, fr, h => by
    have h1 : i ≤ (if fr then st else shutS st i).row.length := by split; exact h; exact row_shut h
    unfold beginsF
    dsimp only
    split
    · exact begins_row i k _ _ _ (by rw [row_push]; omega)
    · split
      · exact h
      · exact begins_row i k _ _ _ (by rw [row_item]; omega)
end Go.Proofs.YtjgaobkgmheocaaDoor
