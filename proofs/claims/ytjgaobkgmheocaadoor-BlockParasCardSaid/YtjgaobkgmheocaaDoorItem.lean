/- block.parser.item: words. -/
import Derived.Test.YtjgaobkgmheocaaDoorAdd
namespace Go.Proofs.YtjgaobkgmheocaaDoor
open Go Go.RowKit

def newS (st : PS) (n : Nd) : PS := { st with nodes := st.nodes ++ [n] }
theorem nd_new (st : PS) (n : Nd) (i : Nat) : (newS st n).nd i = if i = st.nodes.length then n else st.nd i := by
  unfold newS PS.nd
  simp only [List.getD_eq_getElem?_getD]
  by_cases h : i = st.nodes.length
  · subst h; simp
  · rw [if_neg h]
    by_cases h2 : i < st.nodes.length
    · rw [List.getElem?_append_left h2]
    · rw [List.getElem?_append_right (by omega), List.getElem?_eq_none (by simp; omega), List.getElem?_eq_none (by omega)]
/-- A new node, without lines or kids, is laid. -/
theorem Holds.new {w : World} {base p : Nat} {ad : Nat → Nat} {own : Nat → Role} {KP : Nat → Option Obj} {st : PS} (h : Holds KP w base p ad own st) (wf : Wf st) (n : Nd) (hl : n.lines = []) (hk : n.kids = []) :
    ∃ ad' own', ad' st.nodes.length = w.heap.size ∧ (∀ i, i < st.nodes.length → ad' i = ad i) ∧ Holds KP (w.alloc (.cells (ndCells n (.slice none 0 0) (.slice none 0 0)) 54)) base p ad' own' (newS st n) := by
  let ad' : Nat → Nat := fun i => if i = st.nodes.length then w.heap.size else ad i
  let own' : Nat → Role := fun k => if k = w.heap.size then .nd st.nodes.length else own k
  have had : ∀ i, i < st.nodes.length → ad' i = ad i := fun i hi => if_neg (by omega)
  have hown : ∀ k, k < w.heap.size → own' k = own k := fun k hk => if_neg (by omega)
  have hlen : (newS st n).nodes.length = st.nodes.length + 1 := by simp [newS]
  refine ⟨ad', own', if_pos rfl, had, ?_⟩
  obtain ⟨vr, hb, hr, ho⟩ := h.prs
  refine ⟨?_, fun i hi => ?_, by rw [hown p hb.lt]; exact h.own_p, fun i hi => ?_, h.bp, fun i hi => ?_, by rw [hlen]; omega, fun k o hk => ⟨(Below.heap_alloc w _ k (lt_of_obj (h.kept k o hk).1)).trans (h.kept k o hk).1, (hown k (lt_of_obj (h.kept k o hk).1)).trans (h.kept k o hk).2⟩⟩
  · exact (h.prs.ext (ad' := ad') hown (had 0 h.pos) (fun k hk => had k (wf.row k hk)) (fun k hk => had k (wf.leaf k hk))).move fun k hk => Below.heap_alloc w _ k hk
  · rw [hlen] at hi
    rw [nd_new]
    by_cases e : i = st.nodes.length
    · subst e
      rw [if_pos rfl]
      refine ⟨.slice none 0 0, .slice none 0 0, ?_, by rw [hl]; exact Row.nil _ _ _ _, by rw [hk]; exact Row.nil _ _ _ _, by simp [Value.ownBlock], by simp [Value.ownBlock]⟩
      rw [show ad' st.nodes.length = w.heap.size from if_pos rfl]
      exact Blk.new w _ _
    · rw [if_neg e]
      have hi' : i < st.nodes.length := by omega
      exact ((h.nds i hi').ext (ad' := ad') hown (had i hi') (fun k hk => had k (wf.kids i hi' k hk).2)).move fun k hk => Below.heap_alloc w _ k hk
  · rw [hlen] at hi
    by_cases e : i = st.nodes.length
    · subst e
      rw [show ad' st.nodes.length = w.heap.size from if_pos rfl]
      exact if_pos rfl
    · have hi' : i < st.nodes.length := by omega
      obtain ⟨vl, vk, hb', _⟩ := h.nds i hi'
      rw [had i hi', hown _ hb'.lt]
      exact h.own_n i hi'
  · rw [hlen] at hi
    by_cases e : i = st.nodes.length
    · subst e
      rw [show ad' st.nodes.length = w.heap.size from if_pos rfl]
      exact h.size
    · rw [had i (by omega)]
      exact h.bn i (by omega)
theorem Wf.new {st : PS} (wf : Wf st) (n : Nd) (hk : n.kids = []) : Wf (newS st n) := by
  have hlen : (newS st n).nodes.length = st.nodes.length + 1 := by simp [newS]
  refine ⟨fun i hi => ?_, fun i hi => ?_, fun i hi k hk' => ?_⟩
  · rw [hlen]; have := wf.row i hi; omega
  · rw [hlen]; have := wf.leaf i hi; omega
  · rw [hlen] at hi ⊢
    rw [nd_new] at hk'
    by_cases e : i = st.nodes.length
    · rw [if_pos e, hk] at hk'
      cases hk'
    · rw [if_neg e] at hk'
      have := wf.kids i (by omega) k hk'
      omega
theorem Wf.set {st : PS} (wf : Wf st) (i : Nat) (n : Nd) (hi : i < st.nodes.length) (hk : ∀ k, k ∈ n.kids → i < k ∧ k < st.nodes.length) : Wf (setNd st i n) := by
  refine ⟨fun j hj => by rw [len_set]; exact wf.row j hj, fun j hj => by rw [len_set]; exact wf.leaf j hj, fun j hj k hk' => ?_⟩
  rw [len_set] at hj ⊢
  rw [nd_set _ _ _ _ hi] at hk'
  by_cases e : j = i
  · rw [if_pos e] at hk'; rw [e]; exact hk k hk'
  · rw [if_neg e] at hk'; exact wf.kids j hj k hk'
theorem Wf.leafS {st : PS} (wf : Wf st) (o : Option Nat) (ho : ∀ i, o = some i → i < st.nodes.length) : Wf (leafS st o) := ⟨wf.row, ho, wf.kids⟩
theorem Wf.rowS {st : PS} (wf : Wf st) (r : List Nat) (hr : ∀ i, i ∈ r → i < st.nodes.length) : Wf { st with row := r } := ⟨hr, wf.leaf, wf.kids⟩
theorem Wf.kidS {st : PS} (wf : Wf st) (x i : Nat) (hx : x < i) (hi : i < st.nodes.length) : Wf (kidS st x i) :=
  wf.set x _ (by omega) fun k hk => by
    rcases List.mem_append.1 hk with h | h
    · exact wf.kids x (by omega) k h
    · rw [List.mem_singleton.1 h]; exact ⟨hx, hi⟩
theorem Wf.lineS {st : PS} (wf : Wf st) (i : Nat) (hi : i < st.nodes.length) : Wf (lineS st i) := wf.set i _ hi fun k hk => wf.kids i hi k hk
theorem inId_lt {st : PS} (wf : Wf st) (hp : 0 < st.nodes.length) (k : Nat) (hk : k ≤ st.row.length) : inId st k < st.nodes.length := by
  unfold inId
  split
  · exact hp
  · rename_i h0
    have hk' : k - 1 < st.row.length := by omega
    rw [List.getD_eq_getElem?_getD, List.getElem?_eq_getElem hk']
    exact wf.row _ (List.getElem_mem hk')
theorem Wf.addS {st : PS} (wf : Wf st) (i : Nat) (hi : i < st.nodes.length) (hx : inId st st.row.length < i) : Wf (addS st i) := by
  have h1 := wf.lineS i hi
  exact (h1.kidS _ i hx (by unfold Go.Proofs.YtjgaobkgmheocaaDoor.lineS; rw [len_set]; exact hi)).leafS none nofun
theorem Wf.shutS {st : PS} (wf : Wf st) (k : Nat) : Wf (shutS st k) := by
  refine ⟨fun i hi => wf.row i (List.mem_of_mem_take hi), fun i hi => ?_, wf.kids⟩
  unfold Go.Proofs.YtjgaobkgmheocaaDoor.shutS at hi
  dsimp only at hi
  split at hi
  · cases hi
  · exact wf.leaf i hi
end Go.Proofs.YtjgaobkgmheocaaDoor
