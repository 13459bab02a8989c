/- block.parser.begins: words. -/
import Derived.Test.YtjgaobkgmheocaaDoorIteme
namespace Go.Proofs.YtjgaobkgmheocaaDoor
open Go Go.RowKit

def quoteNd : Nd := { Nd.zero with kind := 1 }
/-- A node is laid, added and opened. -/
def pushS (st : PS) (n : Nd) : PS :=
  let st' := addS (newS st n) st.nodes.length
  { st' with row := st'.row ++ [st.nodes.length] }
/-- The rounds of begins. -/
def beginsF (i : Nat) : Nat → PS → List UInt8 → Bool → PS × List UInt8 × Bool
  | 0, st, l, fr => (st, l, fr)
  | k + 1, st, l, fr =>
    let st1 := if fr then st else shutS st i
    match quote l with
    | some r => beginsF i k (pushS st1 quoteNd) r true
    | none =>
      match item l with
      | none => (st, l, fr)
      | some (c, n, r) => beginsF i k (itemS st1 c n) r true
theorem beginsF_none (i k : Nat) (st : PS) (l : List UInt8) (fr : Bool) (hq : quote l = none) (hi : item l = none) : beginsF i (k + 1) st l fr = (st, l, fr) := by
  unfold beginsF
  simp only [hq, hi]
theorem beginsF_item (i k : Nat) (st : PS) (l r : List UInt8) (fr : Bool) (c : UInt8) (n : Nat) (hq : quote l = none) (hi : item l = some (c, n, r)) : beginsF i (k + 1) st l fr = beginsF i k (itemS (if fr then st else shutS st i) c n) r true := by
  rw [beginsF]
  simp only [hq, hi]
/-- How much there is. -/
structure Sz (st : PS) : Prop where
  row : st.row.length < st.nodes.length
  kids : ∀ i, (st.nd i).kids.length < st.nodes.length
theorem Sz.shut {st : PS} (h : Sz st) (k : Nat) : Sz (shutS st k) := ⟨Nat.lt_of_le_of_lt (by unfold shutS; dsimp only; rw [List.length_take]; omega) h.row, h.kids⟩
theorem kids_kidS (st : PS) (x i : Nat) (hx : x < st.nodes.length) (j : Nat) : ((kidS st x i).nd j).kids.length ≤ (st.nd j).kids.length + 1 := by
  unfold kidS
  rw [nd_set _ _ _ _ hx]
  by_cases h : j = x
  · rw [if_pos h, h]; simp
  · rw [if_neg h]; omega
theorem len_kidS (st : PS) (x i : Nat) : (kidS st x i).nodes.length = st.nodes.length := by unfold kidS; rw [len_set]
theorem kids_newS (st : PS) (n : Nd) (hn : n.kids = []) (j : Nat) : ((newS st n).nd j).kids.length ≤ (st.nd j).kids.length := by
  rw [nd_new]
  by_cases h : j = st.nodes.length
  · rw [if_pos h, hn]; simp
  · rw [if_neg h]; exact Nat.le_refl _
theorem kids_lineS (st : PS) (i : Nat) (hi : i < st.nodes.length) (j : Nat) : ((lineS st i).nd j).kids.length = (st.nd j).kids.length := by
  unfold lineS
  rw [nd_set _ _ _ _ hi]
  by_cases h : j = i
  · rw [if_pos h, h]
  · rw [if_neg h]
theorem len_newS (st : PS) (n : Nd) : (newS st n).nodes.length = st.nodes.length + 1 := by simp [newS]
theorem len_addNew (st : PS) (n : Nd) : (addS (newS st n) st.nodes.length).nodes.length = st.nodes.length + 1 := by
  show (kidS (lineS (newS st n) st.nodes.length) _ st.nodes.length).nodes.length = _
  rw [len_kidS]
  unfold lineS
  rw [len_set, len_newS]
theorem kids_addNew (st : PS) (n : Nd) (hn : n.kids = []) (hx : inId st st.row.length < st.nodes.length) (j : Nat) : ((addS (newS st n) st.nodes.length).nd j).kids.length ≤ (st.nd j).kids.length + 1 := by
  have hl2 : (lineS (newS st n) st.nodes.length).nodes.length = st.nodes.length + 1 := by unfold lineS; rw [len_set, len_newS]
  have h1 := kids_kidS (lineS (newS st n) st.nodes.length) (inId st st.row.length) st.nodes.length (by rw [hl2]; omega) j
  rw [kids_lineS _ _ (by rw [len_newS]; omega)] at h1
  have h2 := kids_newS st n hn j
  have e : (addS (newS st n) st.nodes.length).nd j = (kidS (lineS (newS st n) st.nodes.length) (inId st st.row.length) st.nodes.length).nd j := rfl
  rw [e]
  omega
theorem Sz.addNew {st : PS} (h : Sz st) (n : Nd) (hn : n.kids = []) (hx : inId st st.row.length < st.nodes.length) : Sz (addS (newS st n) st.nodes.length) :=
  ⟨by rw [len_addNew]; have := h.row; show st.row.length < _; omega, fun i => by have := kids_addNew st n hn hx i; have := h.kids i; rw [len_addNew]; omega⟩
theorem len_pushS (st : PS) (n : Nd) : (pushS st n).nodes.length = st.nodes.length + 1 := len_addNew st n
theorem Sz.push {st : PS} (h : Sz st) (n : Nd) (hn : n.kids = []) (hx : inId st st.row.length < st.nodes.length) : Sz (pushS st n) :=
  ⟨by rw [len_pushS]; have := h.row; show (st.row ++ [_]).length < _; simp; omega, (h.addNew n hn hx).kids⟩
theorem Wf.push {st : PS} (wf : Wf st) (n : Nd) (hn : n.kids = []) (hx : inId st st.row.length < st.nodes.length) : Wf (pushS st n) := by
  have h := (wf.new n hn).addS st.nodes.length (by rw [len_newS]; omega) (by show inId st st.row.length < _; exact hx)
  refine h.rowS _ fun i hi => ?_
  rw [len_addNew]
  rcases List.mem_append.1 hi with h' | h'
  · have := wf.row i h'; omega
  · rw [List.mem_singleton.1 h']; omega
theorem len_putItem (st : PS) (j inn : Nat) : (putItem st j inn).nodes.length = st.nodes.length + 1 := by
  show (kidS (newS st _) j st.nodes.length).nodes.length = _
  rw [len_kidS, len_newS]
theorem Sz.putItem {st : PS} (h : Sz st) (j inn : Nat) (hj : j < st.nodes.length) : Sz (putItem st j inn) := by
  refine ⟨by rw [len_putItem]; have := h.row; show (st.row ++ [_]).length < _; simp; omega, fun i => ?_⟩
  rw [len_putItem]
  have h1 := kids_kidS (newS st (itemNd st.line inn)) j st.nodes.length (by rw [len_newS]; omega) i
  have h2 := kids_newS st (itemNd st.line inn) rfl i
  have h3 := h.kids i
  have e : (Go.Proofs.YtjgaobkgmheocaaDoor.putItem st j inn).nd i = (kidS (newS st (itemNd st.line inn)) j st.nodes.length).nd i := rfl
  rw [e]
  omega
theorem Wf.putItem {st : PS} (wf : Wf st) (j inn : Nat) (hj : j < st.nodes.length) : Wf (putItem st j inn) := by
  have h1 := (wf.new (itemNd st.line inn) rfl).kidS j st.nodes.length hj (by rw [len_newS]; omega)
  refine Wf.rowS (h1.leafS none nofun) _ fun i hi => ?_
  have e : (Go.Proofs.YtjgaobkgmheocaaDoor.leafS (Go.Proofs.YtjgaobkgmheocaaDoor.kidS (newS st (itemNd st.line inn)) j st.nodes.length) none).nodes.length = st.nodes.length + 1 := len_putItem st j inn
  rw [e]
  rcases List.mem_append.1 hi with h' | h'
  · have := wf.row i h'; omega
  · rw [List.mem_singleton.1 h']; omega
theorem same_lt {st : PS} (wf : Wf st) (x : Nat) (c : UInt8) (hx : x < st.nodes.length) (h : sameList st x c = true) : (st.nd x).kids.getLast?.getD 0 < st.nodes.length := by
  unfold sameList at h
  cases hk : (st.nd x).kids.getLast? with
  | none => rw [hk] at h; cases h
  | some j => exact (wf.kids x hx j (List.mem_of_getLast? hk)).2
theorem itemS_ok {st : PS} (wf : Wf st) (sz : Sz st) (hp : 0 < st.nodes.length) (c : UInt8) (n : Nat) : Wf (itemS st c n) ∧ Sz (itemS st c n) ∧ (itemS st c n).nodes.length ≤ st.nodes.length + 2 := by
  have hx := inId_lt wf hp st.row.length (Nat.le_refl _)
  unfold itemS
  dsimp only
  by_cases h : sameList st (inId st st.row.length) c = true
  · rw [if_pos h]
    have hj := same_lt wf _ c hx h
    exact ⟨wf.putItem _ n hj, sz.putItem _ n hj, by rw [len_putItem]; omega⟩
  · rw [if_neg h]
    have w1 := (wf.new (listNd c) rfl).addS st.nodes.length (by rw [len_newS]; omega) (by show inId st st.row.length < _; exact hx)
    have s1 := sz.addNew (listNd c) rfl hx
    have hj : st.nodes.length < (addS (newS st (listNd c)) st.nodes.length).nodes.length := by rw [len_addNew]; omega
    exact ⟨w1.putItem _ n hj, s1.putItem _ n hj, by rw [len_putItem, len_addNew]; omega⟩
theorem len_itemS (st : PS) (c : UInt8) (n : Nat) : st.nodes.length ≤ (itemS st c n).nodes.length := by
  unfold itemS
  dsimp only
  split
  · rw [len_putItem]; omega
  · rw [len_putItem, len_addNew]; omega
theorem stripF_len (n : Int) (l : List UInt8) : ∀ col, (stripF n col l).2.length ≤ l.length := by
  induction l with
  | nil => intro col; simp [stripF]
  | cons c r ih =>
    intro col
    unfold stripF
    split
    · have := ih (step col c); simp only [List.length_cons]; omega
    · exact Nat.le_refl _
theorem strip_len (l : List UInt8) (n : Int) : (strip l n).length ≤ l.length + 3 := by
  unfold strip
  rw [List.length_append, List.length_replicate]
  have h1 := stripF_len n l 0
  have h2 := stripF_over n l 0 (by omega)
  omega
theorem quote_len {l r : List UInt8} (h : quote l = some r) : r.length ≤ l.length + 3 := by
  unfold quote at h
  have hd : (l.drop (indent l).2).length ≤ l.length := by rw [List.length_drop]; omega
  cases hc : l.drop (indent l).2 with
  | nil => rw [hc] at h; cases h
  | cons c t =>
    rw [hc] at h hd
    unfold quoteT at h
    dsimp only at h
    split at h
    · injection h with h
      subst h
      have := strip_len t 1
      simp only [List.length_cons] at hd
      omega
    · cases h
theorem item_len {l r : List UInt8} {c : UInt8} {n : Nat} (h : item l = some (c, n, r)) : r.length ≤ l.length + 3 := by
  unfold item at h
  have hd : (l.drop (indent l).2).length ≤ l.length := by rw [List.length_drop]; omega
  cases hc : l.drop (indent l).2 with
  | nil => rw [hc] at h; cases h
  | cons d t =>
    rw [hc] at h hd
    unfold itemT at h
    dsimp only at h
    simp only [List.length_cons] at hd
    split at h
    · cases h
    · split at h
      · injection h with h
        injection h with _ h
        injection h with _ h
        subst h
        simp
      · injection h with h
        injection h with _ h
        injection h with _ h
        subst h
        have := strip_len t (wide (indent t).1)
        omega
end Go.Proofs.YtjgaobkgmheocaaDoor
