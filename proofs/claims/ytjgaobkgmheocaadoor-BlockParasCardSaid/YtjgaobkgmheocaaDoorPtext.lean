/- block.parser.text: words. -/
import Derived.Test.YtjgaobkgmheocaaDoorBeginb
namespace Go.Proofs.YtjgaobkgmheocaaDoor
open Go Go.RowKit

/-- A line more in node x. -/
def lnS (st : PS) (x : Nat) (t : List UInt8) : PS := setNd st x { st.nd x with lines := (st.nd x).lines ++ [t] }
theorem strVals_snoc (ls : List (List UInt8)) (t : List UInt8) : strVals (ls ++ [t]) = strVals ls ++ [.string (S t)] := by simp [strVals]
/-- A node's list of lines has been appended to, and stored. -/
theorem line_appended {w1 w2 : World} {base p : Nat} {ad : Nat → Nat} {own : Nat → Role} {KP : Nat → Option Obj} {st : PS} {x : Nat} {t : List UInt8} {vl vk v2 : Value} (H : Holds KP w1 base p ad own st) (hx : x < st.nodes.length)
    (hb : Blk w1 (ad x) (ndCells (st.nd x) vl vk) 54) (hl : Row w1 base 51 1 vk (st.nd x).kids.length (ptrs ad (st.nd x).kids)) (hlo : ∀ k, vk.ownBlock = some k → own k = .kd x) (hko : ∀ k, vl.ownBlock = some k → own k = .ln x)
    (hrow : Row w2 base 9 1 v2 ((st.nd x).lines.length + 1) (strVals (st.nd x).lines ++ [.string (S t)])) (hg : w1.grownBy w2 vl.ownBlock) (hat : v2.ownBlock = vl.ownBlock ∨ ∃ g, v2.ownBlock = some g ∧ w1.heap.size ≤ g) :
    ∃ own', Holds KP (w2.setCell ⟨ad x, 8, none⟩ v2) base p ad own' (lnS st x t) := by
  have hnew : ∀ k, v2.ownBlock = some k → k < w1.heap.size → own k = .ln x := by
    intro k hk hlt
    rcases hat with h | ⟨g, h, hge⟩
    · exact hko k (by rw [← h]; exact hk)
    · rw [h] at hk
      injection hk with hk
      omega
  let own' : Nat → Role := fun k => if some k = v2.ownBlock then .ln x else own k
  have hown : ∀ k, k < w1.heap.size → own' k = own k := by
    intro k hk
    show (if some k = v2.ownBlock then Role.ln x else own k) = own k
    by_cases h : some k = v2.ownBlock
    · rw [if_pos h, hnew k h.symm hk]
    · rw [if_neg h]
  have H1 := H.ext hown
  have hv2 : ∀ k, v2.ownBlock = some k → own' k = .ln x := fun k hk => if_pos hk.symm
  have hvk : ∀ k, vl.ownBlock = some k → k < w1.heap.size → own' k = .ln x := fun k hk hlt => by rw [hown k hlt]; exact hko k hk
  have hax := H1.own_n x hx
  refine ⟨own', H1.node hx ⟨v2, vk, Blk.cast ((hb.grown hg (fun e => ?_)).set 8 v2) rfl, ?_, (hl.grown hg (fun k hk e => ?_)).set (fun k hk => ?_) _, hv2, fun k hk => ?_⟩ (fun k hk _ h1 h2 h3 => ?_)⟩
  · exact role_ne hax (hvk _ e.symm hb.lt) (by nofun) rfl
  · have h := hrow.set (p := ⟨ad x, 8, none⟩) (fun k hk => role_ne (hv2 k hk) hax (by nofun)) v2
    have e1 : ((st.nd x).lines ++ [t]).length = (st.nd x).lines.length + 1 := by simp
    rw [e1, strVals_snoc]
    exact h
  · have h1 := hlo k hk
    have h2 := hko k e.symm
    rw [h1] at h2
    cases h2
  · refine role_ne (r := .kd x) ?_ hax (by nofun)
    rw [hown k (hl.blk k hk).2.1]
    exact hlo k hk
  · rw [hown k (hl.blk k hk).2.1]
    exact hlo k hk
  · rw [Below.heap_setCell _ _ _ _ (role_ne rfl hax h1)]
    exact hg.block k hk (fun e => h2 (hvk k e.symm hk))
/-- A new node, without kids, is laid; its lines lie in a block that was laid just before. -/
theorem Holds.newL {w0 w : World} {base p : Nat} {ad : Nat → Nat} {own : Nat → Role} {KP : Nat → Option Obj} {st : PS} (h : Holds KP w0 base p ad own st) (wf : Wf st) (n : Nd) (hk : n.kids = []) (hb : Below w0.heap.size w0 w) (vl : Value)
    (hrow : Row w base 9 1 vl n.lines.length (strVals n.lines)) (hfresh : ∀ k, vl.ownBlock = some k → w0.heap.size ≤ k) :
    ∃ ad' own', ad' st.nodes.length = w.heap.size ∧ (∀ i, i < st.nodes.length → ad' i = ad i) ∧ Holds KP (w.alloc (.cells (ndCells n vl (.slice none 0 0)) 54)) base p ad' own' (newS st n) := by
  let ad' : Nat → Nat := fun i => if i = st.nodes.length then w.heap.size else ad i
  let own' : Nat → Role := fun k => if k = w.heap.size then .nd st.nodes.length else if some k = vl.ownBlock then .ln st.nodes.length else own k
  have hsz := hb.size
  have had : ∀ i, i < st.nodes.length → ad' i = ad i := fun i hi => if_neg (by omega)
  have hown : ∀ k, k < w0.heap.size → own' k = own k := fun k hk => by
    show (if k = w.heap.size then Role.nd st.nodes.length else if some k = vl.ownBlock then .ln st.nodes.length else own k) = own k
    rw [if_neg (by omega), if_neg (fun e => by have := hfresh k e.symm; omega)]
  have hlen : (newS st n).nodes.length = st.nodes.length + 1 := by simp [newS]
  have hmove : ∀ k, k < w0.heap.size → (w.alloc (.cells (ndCells n vl (.slice none 0 0)) 54)).heap[k]? = w0.heap[k]? := fun k hk => (Below.heap_alloc w _ k (by omega)).trans (hb.block k hk)
  refine ⟨ad', own', if_pos rfl, had, ?_⟩
  obtain ⟨vr, hb', hr, ho⟩ := h.prs
  refine ⟨?_, fun i hi => ?_, by rw [hown p hb'.lt]; exact h.own_p, fun i hi => ?_, h.bp, fun i hi => ?_, by rw [hlen]; omega, fun k o hk => ⟨(hmove k (lt_of_obj (h.kept k o hk).1)).trans (h.kept k o hk).1, (hown k (lt_of_obj (h.kept k o hk).1)).trans (h.kept k o hk).2⟩⟩
  · exact (h.prs.ext (ad' := ad') hown (had 0 h.pos) (fun k hk => had k (wf.row k hk)) (fun k hk => had k (wf.leaf k hk))).move hmove
  · rw [hlen] at hi
    rw [nd_new]
    by_cases e : i = st.nodes.length
    · subst e
      rw [if_pos rfl]
      refine ⟨vl, .slice none 0 0, ?_, hrow.alloc _, by rw [hk]; exact Row.nil _ _ _ _, fun k hk' => ?_, by simp [Value.ownBlock]⟩
      · rw [show ad' st.nodes.length = w.heap.size from if_pos rfl]
        exact Blk.new w _ _
      · have := (hrow.blk k hk').2.1
        show (if k = w.heap.size then Role.nd st.nodes.length else if some k = vl.ownBlock then .ln st.nodes.length else own k) = _
        rw [if_neg (by omega), if_pos hk'.symm]
    · rw [if_neg e]
      have hi' : i < st.nodes.length := by omega
      exact ((h.nds i hi').ext (ad' := ad') hown (had i hi') (fun k hk => had k (wf.kids i hi' k hk).2)).move hmove
  · rw [hlen] at hi
    by_cases e : i = st.nodes.length
    · subst e
      rw [show ad' st.nodes.length = w.heap.size from if_pos rfl]
      exact if_pos rfl
    · have hi' : i < st.nodes.length := by omega
      obtain ⟨vl', vk', hb2, _⟩ := h.nds i hi'
      rw [had i hi', hown _ hb2.lt]
      exact h.own_n i hi'
  · rw [hlen] at hi
    by_cases e : i = st.nodes.length
    · subst e
      rw [show ad' st.nodes.length = w.heap.size from if_pos rfl]
      exact Nat.le_trans h.size hsz
    · rw [had i (by omega)]
      exact h.bn i (by omega)
def textNd (t : List UInt8) : Nd := { Nd.zero with kind := 4, lines := [t] }
/-- Is the open leaf a text? -/
def openText (st : PS) : Bool :=
  match st.leaf with
  | none => false
  | some j => (st.nd j).kind == 4
/-- A leaf is laid, added and held open. -/
def leafNew (st : PS) (n : Nd) : PS := leafS (addS (newS st n) st.nodes.length) (some st.nodes.length)
def textS (st : PS) (i : Nat) (s : List UInt8) (fr : Bool) : PS :=
  if !fr && openText st then lnS st (st.leaf.getD 0) (trim s)
  else leafNew (if fr then st else shutS st i) (textNd (trim s))
end Go.Proofs.YtjgaobkgmheocaaDoor
