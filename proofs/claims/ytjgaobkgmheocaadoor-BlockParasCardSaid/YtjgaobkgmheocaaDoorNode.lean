/- The parser of package block in memory: nodes by number, each in a block of its own. -/
import Derived.Test.YtjgaobkgmheocaaDoorTexts
import Derived.Test.YtjgaobkgmheocaaDoorFenceb
namespace Go.Proofs.YtjgaobkgmheocaaDoor
open Go Go.RowKit

/-- Whose a block is. -/
inductive Role where
  | other
  | kept
  | prs
  | row
  | nd (i : Nat)
  | ln (i : Nat)
  | kd (i : Nat)
structure Nd where
  kind : Nat
  level : Nat
  text : List UInt8
  info : List UInt8
  line : Nat
  sign : UInt8
  inn : Nat
  lines : List (List UInt8)
  kids : List Nat
  fence : FO
structure PS where
  nodes : List Nd
  row : List Nat
  leaf : Option Nat
  line : Nat
def Nd.zero : Nd := ⟨0, 0, [], [], 0, 0, 0, [], [], FO.zero⟩
def PS.nd (st : PS) (i : Nat) : Nd := st.nodes.getD i Nd.zero
def ptr (b : Nat) : Value := .pointer (some ⟨b, 0, none⟩)
def ptrs (ad : Nat → Nat) (ids : List Nat) : List Value := ids.map fun i => ptr (ad i)
def leafV (ad : Nat → Nat) : Option Nat → Value
  | none => .pointer none
  | some i => ptr (ad i)
def ndCells (n : Nd) (vl vk : Value) : Array Value := #[.int .i64 n.kind, .int .i64 n.level, .string (S n.text), .string (S n.info), .int .i64 n.line, .slice none 0 0, .int .u8 n.sign.toNat, .int .i64 n.inn, vl, vk, .int .u8 n.fence.char.toNat, .int .i64 n.fence.count, .int .i64 n.fence.indent, .string (S n.fence.info)]
def NdAt (w : World) (base : Nat) (ad : Nat → Nat) (own : Nat → Role) (i : Nat) (n : Nd) : Prop :=
  ∃ vl vk, Blk w (ad i) (ndCells n vl vk) 54 ∧ Row w base 9 1 vl n.lines.length (strVals n.lines) ∧ Row w base 51 1 vk n.kids.length (ptrs ad n.kids) ∧
    (∀ k, vl.ownBlock = some k → own k = .ln i) ∧ (∀ k, vk.ownBlock = some k → own k = .kd i)
def PrsAt (w : World) (base p : Nat) (ad : Nat → Nat) (own : Nat → Role) (row : List Nat) (leaf : Option Nat) (line : Nat) : Prop :=
  ∃ vr, Blk w p #[ptr (ad 0), vr, leafV ad leaf, .int .i64 line] 56 ∧ Row w base 51 1 vr row.length (ptrs ad row) ∧ (∀ k, vr.ownBlock = some k → own k = .row)
/-- KP: blocks of others that stay as they are. -/
structure Holds (KP : Nat → Option Obj) (w : World) (base p : Nat) (ad : Nat → Nat) (own : Nat → Role) (st : PS) : Prop where
  prs : PrsAt w base p ad own st.row st.leaf st.line
  nds : ∀ i, i < st.nodes.length → NdAt w base ad own i (st.nd i)
  own_p : own p = .prs
  own_n : ∀ i, i < st.nodes.length → own (ad i) = .nd i
  bp : base ≤ p
  bn : ∀ i, i < st.nodes.length → base ≤ ad i
  pos : 0 < st.nodes.length
  kept : ∀ k o, KP k = some o → w.heap[k]? = some o ∧ own k = .kept
/-- All numbers are numbers of nodes. -/
structure Wf (st : PS) : Prop where
  row : ∀ i, i ∈ st.row → i < st.nodes.length
  leaf : ∀ i, st.leaf = some i → i < st.nodes.length
  kids : ∀ i, i < st.nodes.length → ∀ k, k ∈ (st.nd i).kids → i < k ∧ k < st.nodes.length

theorem ptrs_length (ad : Nat → Nat) (ids : List Nat) : (ptrs ad ids).length = ids.length := by simp [ptrs]
theorem ptrs_congr {ad ad' : Nat → Nat} {ids : List Nat} (h : ∀ i, i ∈ ids → ad' i = ad i) : ptrs ad' ids = ptrs ad ids := List.map_congr_left fun i hi => by rw [h i hi]
theorem ptrs_snoc (ad : Nat → Nat) (ids : List Nat) (i : Nat) : ptrs ad (ids ++ [i]) = ptrs ad ids ++ [ptr (ad i)] := by simp [ptrs]
theorem ptrs_get (ad : Nat → Nat) (ids : List Nat) (k : Nat) (h : k < ids.length) : (ptrs ad ids)[k]? = some (ptr (ad ids[k])) := by simp [ptrs, List.getElem?_eq_getElem h]

section
variable {w w' : World} {base p : Nat} {ad ad' : Nat → Nat} {own own' : Nat → Role} {KP : Nat → Option Obj} {i : Nat} {n : Nd} {row : List Nat} {leaf : Option Nat} {line : Nat} {st : PS}
theorem NdAt.move (h : NdAt w base ad own i n) (hm : ∀ k, k < w.heap.size → w'.heap[k]? = w.heap[k]?) : NdAt w' base ad own i n := by
  obtain ⟨vl, vk, h1, h2, h3, h4, h5⟩ := h
  exact ⟨vl, vk, (hm _ h1.lt).trans h1, h2.move fun k hk => hm k (h2.blk k hk).2.1, h3.move fun k hk => hm k (h3.blk k hk).2.1, h4, h5⟩
theorem NdAt.ext (h : NdAt w base ad own i n) (hown : ∀ k, k < w.heap.size → own' k = own k) (had : ad' i = ad i) (hk : ∀ k, k ∈ n.kids → ad' k = ad k) : NdAt w base ad' own' i n := by
  obtain ⟨vl, vk, h1, h2, h3, h4, h5⟩ := h
  refine ⟨vl, vk, by rw [had]; exact h1, h2, by rw [ptrs_congr hk]; exact h3, fun k hk' => ?_, fun k hk' => ?_⟩
  · rw [hown k (h2.blk k hk').2.1]; exact h4 k hk'
  · rw [hown k (h3.blk k hk').2.1]; exact h5 k hk'
theorem PrsAt.move (h : PrsAt w base p ad own row leaf line) (hm : ∀ k, k < w.heap.size → w'.heap[k]? = w.heap[k]?) : PrsAt w' base p ad own row leaf line := by
  obtain ⟨vr, h1, h2, h3⟩ := h
  exact ⟨vr, (hm _ h1.lt).trans h1, h2.move fun k hk => hm k (h2.blk k hk).2.1, h3⟩
theorem PrsAt.ext (h : PrsAt w base p ad own row leaf line) (hown : ∀ k, k < w.heap.size → own' k = own k) (h0 : ad' 0 = ad 0) (hr : ∀ k, k ∈ row → ad' k = ad k) (hl : ∀ k, leaf = some k → ad' k = ad k) : PrsAt w base p ad' own' row leaf line := by
  obtain ⟨vr, h1, h2, h3⟩ := h
  refine ⟨vr, ?_, by rw [ptrs_congr hr]; exact h2, fun k hk => by rw [hown k (h2.blk k hk).2.1]; exact h3 k hk⟩
  have e : leafV ad' leaf = leafV ad leaf := by
    cases leaf with
    | none => rfl
    | some k => simp only [leafV]; rw [hl k rfl]
  rw [h0, e]
  exact h1
theorem lt_of_obj {w : World} {k : Nat} {o : Obj} (h : w.heap[k]? = some o) : k < w.heap.size := (Array.getElem?_eq_some_iff.1 h).1
/-- What is nobody's has turned: nothing has. -/
theorem Holds.move (h : Holds KP w base p ad own st) (hm : ∀ k, k < w.heap.size → own k ≠ .other → w'.heap[k]? = w.heap[k]?) : Holds KP w' base p ad own st := by
  obtain ⟨vr, hb, hr, ho⟩ := h.prs
  refine ⟨⟨vr, (hm p hb.lt (by rw [h.own_p]; nofun)).trans hb, hr.move fun k hk => hm k (hr.blk k hk).2.1 (by rw [ho k hk]; nofun), ho⟩, fun i hi => ?_, h.own_p, h.own_n, h.bp, h.bn, h.pos, fun k o hk => ⟨(hm k (lt_of_obj (h.kept k o hk).1) (by rw [(h.kept k o hk).2]; nofun)).trans (h.kept k o hk).1, (h.kept k o hk).2⟩⟩
  obtain ⟨vl, vk, h1, h2, h3, h4, h5⟩ := h.nds i hi
  exact ⟨vl, vk, (hm _ h1.lt (by rw [h.own_n i hi]; nofun)).trans h1, h2.move fun k hk => hm k (h2.blk k hk).2.1 (by rw [h4 k hk]; nofun), h3.move fun k hk => hm k (h3.blk k hk).2.1 (by rw [h5 k hk]; nofun), h4, h5⟩
theorem Holds.below (h : Holds KP w base p ad own st) (hb : Below w.heap.size w w') : Holds KP w' base p ad own st := h.move fun k hk _ => hb.block k hk
theorem Holds.alloc (h : Holds KP w base p ad own st) (o : Obj) : Holds KP (w.alloc o) base p ad own st := h.move fun k hk _ => Below.heap_alloc w o k hk
theorem Holds.drew (h : Holds KP w base p ad own st) : Holds KP w.drew base p ad own st := h.move fun _ _ _ => rfl
/-- Only node i has turned. -/
theorem Holds.node (h : Holds KP w base p ad own st) {i : Nat} (hi : i < st.nodes.length) {n : Nd} (hn : NdAt w' base ad own i n)
    (hm : ∀ k, k < w.heap.size → own k ≠ .other → own k ≠ .nd i → own k ≠ .ln i → own k ≠ .kd i → w'.heap[k]? = w.heap[k]?) : Holds KP w' base p ad own { st with nodes := st.nodes.set i n } := by
  have hl : (st.nodes.set i n).length = st.nodes.length := List.length_set
  obtain ⟨vr, hb, hr, ho⟩ := h.prs
  refine ⟨⟨vr, (hm p hb.lt (by rw [h.own_p]; nofun) (by rw [h.own_p]; nofun) (by rw [h.own_p]; nofun) (by rw [h.own_p]; nofun)).trans hb, hr.move fun k hk => hm k (hr.blk k hk).2.1 (by rw [ho k hk]; nofun) (by rw [ho k hk]; nofun) (by rw [ho k hk]; nofun) (by rw [ho k hk]; nofun), ho⟩,
    fun j hj => ?_, h.own_p, fun j hj => h.own_n j (by simpa using hj), h.bp, fun j hj => h.bn j (by simpa using hj), by show 0 < (st.nodes.set i n).length; rw [hl]; exact h.pos, fun k o hk => ⟨(hm k (lt_of_obj (h.kept k o hk).1) (by rw [(h.kept k o hk).2]; nofun) (by rw [(h.kept k o hk).2]; nofun) (by rw [(h.kept k o hk).2]; nofun) (by rw [(h.kept k o hk).2]; nofun)).trans (h.kept k o hk).1, (h.kept k o hk).2⟩⟩
  by_cases hji : j = i
  · subst hji
    have e : ({ st with nodes := st.nodes.set j n } : PS).nd j = n := by simp [PS.nd, List.getD_eq_getElem?_getD, hi]
    rw [e]
    exact hn
  · have e : ({ st with nodes := st.nodes.set i n } : PS).nd j = st.nd j := by simp [PS.nd, List.getD_eq_getElem?_getD, Ne.symm hji]
    rw [e]
    have hj' : j < st.nodes.length := by simpa using hj
    obtain ⟨vl, vk, h1, h2, h3, h4, h5⟩ := h.nds j hj'
    have ne : ∀ {r : Role} {k : Nat}, own k = r → (r ≠ .other ∧ r ≠ .nd i ∧ r ≠ .ln i ∧ r ≠ .kd i) → k < w.heap.size → w'.heap[k]? = w.heap[k]? := fun hr hne hk => hm _ hk (by rw [hr]; exact hne.1) (by rw [hr]; exact hne.2.1) (by rw [hr]; exact hne.2.2.1) (by rw [hr]; exact hne.2.2.2)
    exact ⟨vl, vk, (ne (h.own_n j hj') ⟨nofun, fun e => hji (by injection e), nofun, nofun⟩ h1.lt).trans h1,
      h2.move fun k hk => ne (h4 k hk) ⟨nofun, nofun, fun e => hji (by injection e), nofun⟩ (h2.blk k hk).2.1,
      h3.move fun k hk => ne (h5 k hk) ⟨nofun, nofun, nofun, fun e => hji (by injection e)⟩ (h3.blk k hk).2.1, h4, h5⟩
/-- Only the parser's own fields have turned. -/
theorem Holds.parser (h : Holds KP w base p ad own st) {row' : List Nat} {leaf' : Option Nat} {line' : Nat} (hp : PrsAt w' base p ad own row' leaf' line')
    (hm : ∀ k, k < w.heap.size → own k ≠ .other → own k ≠ .prs → own k ≠ .row → w'.heap[k]? = w.heap[k]?) : Holds KP w' base p ad own { st with row := row', leaf := leaf', line := line' } := by
  refine ⟨hp, fun i hi => ?_, h.own_p, h.own_n, h.bp, h.bn, h.pos, fun k o hk => ⟨(hm k (lt_of_obj (h.kept k o hk).1) (by rw [(h.kept k o hk).2]; nofun) (by rw [(h.kept k o hk).2]; nofun) (by rw [(h.kept k o hk).2]; nofun)).trans (h.kept k o hk).1, (h.kept k o hk).2⟩⟩
  obtain ⟨vl, vk, h1, h2, h3, h4, h5⟩ := h.nds i hi
  have ne : ∀ {r : Role} {k : Nat}, own k = r → (r ≠ .other ∧ r ≠ .prs ∧ r ≠ .row) → k < w.heap.size → w'.heap[k]? = w.heap[k]? := fun hr hne hk => hm _ hk (by rw [hr]; exact hne.1) (by rw [hr]; exact hne.2.1) (by rw [hr]; exact hne.2.2)
  exact ⟨vl, vk, (ne (h.own_n i hi) ⟨nofun, nofun, nofun⟩ h1.lt).trans h1, h2.move fun k hk => ne (h4 k hk) ⟨nofun, nofun, nofun⟩ (h2.blk k hk).2.1, h3.move fun k hk => ne (h5 k hk) ⟨nofun, nofun, nofun⟩ (h3.blk k hk).2.1, h4, h5⟩
/-- The owners may be told otherwise where no block lies. -/
theorem Holds.ext (h : Holds KP w base p ad own st) (hown : ∀ k, k < w.heap.size → own' k = own k) : Holds KP w base p ad own' st := by
  refine ⟨h.prs.ext hown rfl (fun _ _ => rfl) (fun _ _ => rfl), fun i hi => (h.nds i hi).ext hown rfl (fun _ _ => rfl), ?_, fun i hi => ?_, h.bp, h.bn, h.pos, fun k o hk => ⟨(h.kept k o hk).1, (hown k (lt_of_obj (h.kept k o hk).1)).trans (h.kept k o hk).2⟩⟩
  · obtain ⟨vr, hb, _⟩ := h.prs
    rw [hown p hb.lt, h.own_p]
  · obtain ⟨vl, vk, hb, _⟩ := h.nds i hi
    rw [hown _ hb.lt, h.own_n i hi]
theorem Holds.size (h : Holds KP w base p ad own st) : base ≤ w.heap.size := by
  obtain ⟨vr, hb, _⟩ := h.prs
  have := hb.lt
  have := h.bp
  omega
/-- Blocks of two roles are two. -/
theorem role_ne {own : Nat → Role} {a b : Nat} {r r' : Role} (ha : own a = r) (hb : own b = r') (h : r ≠ r') : a ≠ b := fun e => h (by rw [← ha, ← hb, e])
end
end Go.Proofs.YtjgaobkgmheocaaDoor
