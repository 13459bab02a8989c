/- The law's own runs: what the words answer. -/
import Derived.Test.YtjgaobkgmheocaaDoorFencesc
import Derived.Lib.SlBytesConst
namespace Go.Proofs.YtjgaobkgmheocaaDoor
open Go Go.RowKit

def docA : List UInt8 := [62, 32, 97, 10, 98, 10, 45, 32, 99, 10, 10, 45, 32, 100, 10]
def docB : List UInt8 := [45, 32, 97, 10, 32, 32, 126, 126, 126, 32, 120, 10, 32, 32, 98, 10, 32, 99, 10]
def docF : List UInt8 := [97, 10, 126, 126, 126, 32, 120, 10, 98, 10, 126, 126, 126, 10, 62, 32, 126, 126, 126, 10, 126, 126, 126, 32, 121]
def treeA : Tree := .node 0 0 [] [] 0 [.node 1 0 [] [] 0 [.node 4 0 [97, 10, 98] [] 0 []], .node 2 0 [] [] 2 [.node 3 0 [] [] 2 [.node 4 0 [99] [] 2 []], .node 3 0 [] [] 4 [.node 4 0 [100] [] 4 []]]]
def treeB : Tree := .node 0 0 [] [] 0 [.node 2 0 [] [] 0 [.node 3 0 [] [] 0 [.node 4 0 [97] [] 0 [], .node 7 0 [98, 10] [120] 1 []]], .node 4 0 [99] [] 3 []]
def placesF : List FP := [⟨1, ⟨126, 3, 0, [120]⟩, 2, 3, true⟩, ⟨5, ⟨126, 3, 0, [121]⟩, 6, 6, false⟩]
theorem parse_A : parseT docA = treeA := by kernel_rfl
theorem parse_B : parseT docB = treeB := by kernel_rfl
theorem parse_nil : parseT [] = .node 0 0 [] [] 0 [] := by kernel_rfl
theorem fences_F : fencesL docF = placesF := by kernel_rfl
/-- A tree's cells lie in block g from o on. -/
def CellsAt (w : World) (g o : Nat) (t : Tree) : Prop :=
  ∃ A n, TreeAt w (fun _ => True) t (blkCells t.kind t.level t.text t.info t.line (.slice A t.kids.length n)) ∧ t.kids.length ≤ n ∧ n ≤ maxLen ∧ ∀ q u, (blkCells t.kind t.level t.text t.info t.line (.slice A t.kids.length n))[q]? = some u → w.cell? ⟨g, o + q, none⟩ = some u
theorem CellsAt.of {w : World} {D : Nat → Prop} {b : Nat} {t : Tree} {cs : Array Value} (ht : TreeAt w D t cs) (hb : Blk w b cs 31) : CellsAt w b 0 t := by
  obtain ⟨A, n, rfl, h1, h2⟩ := ht.form
  exact ⟨A, n, ht.mono fun _ _ => trivial, h1, h2, fun q u hq => by rw [Nat.zero_add]; exact hb.at_ q u hq⟩
theorem CellsAt.below {w w' : World} {g o : Nat} {t : Tree} (h : CellsAt w g o t) (hb : Below w.heap.size w w') : CellsAt w' g o t := by
  obtain ⟨A, n, h1, h2, h3, h4⟩ := h
  refine ⟨A, n, h1.keep hb, h2, h3, fun q u hq => (hb.cell ?_).trans (h4 q u hq)⟩
  exact World.block_lt_of_cell? _ _ (h4 q u hq)
theorem CellsAt.lt {w : World} {g o : Nat} {t : Tree} (h : CellsAt w g o t) : g < w.heap.size := by
  obtain ⟨A, n, h1, h2, h3, h4⟩ := h
  exact World.block_lt_of_cell? _ _ (h4 0 _ rfl)
/-- The plain fields, and how many kids. -/
theorem CellsAt.fields {w : World} {g o : Nat} {t : Tree} (h : CellsAt w g o t) : w.cell? ⟨g, o, none⟩ = some (.int .i64 t.kind) ∧ w.cell? ⟨g, o + 1, none⟩ = some (.int .i64 t.level) ∧ w.cell? ⟨g, o + 2, none⟩ = some (.string (S t.text)) ∧ w.cell? ⟨g, o + 3, none⟩ = some (.string (S t.info)) ∧
    w.cell? ⟨g, o + 4, none⟩ = some (.int .i64 t.line) ∧ ∃ A n, w.cell? ⟨g, o + 5, none⟩ = some (.slice A t.kids.length n) ∧ t.kids.length ≤ n ∧ n ≤ maxLen := by
  obtain ⟨A, n, h1, h2, h3, h4⟩ := h
  exact ⟨h4 0 _ rfl, h4 1 _ rfl, h4 2 _ rfl, h4 3 _ rfl, h4 4 _ rfl, A, n, h4 5 _ rfl, h2, h3⟩
theorem CellsAt.kids {w : World} {g o : Nat} {t : Tree} (h : CellsAt w g o t) (hn : 0 < t.kids.length) : ∃ g' n, w.cell? ⟨g, o + 5, none⟩ = some (.slice (some ⟨g', 0, none⟩) t.kids.length n) ∧ t.kids.length ≤ n ∧ n ≤ maxLen ∧ g' < w.heap.size ∧ ∀ j (hj : j < t.kids.length), CellsAt w g' (j * 6) t.kids[j] := by
  obtain ⟨A, n, h1, h2, h3, h4⟩ := h
  obtain ⟨g', n', c0, hv, hg, _⟩ := h1.kid 0 hn
  injection hv with hA _ hC
  subst hA hC
  refine ⟨g', n, h4 5 _ rfl, h2, h3, hg, fun j hj => ?_⟩
  obtain ⟨g2, n2, c, hv, _, _, _, hc1, hc2⟩ := h1.kid j hj
  injection hv with hA _ _
  injection hA with hA
  injection hA with hA _ _
  subst hA
  obtain ⟨A', n', rfl, h5, h6⟩ := hc1.form
  exact ⟨A', n', hc1, h5, h6, hc2⟩
/-- A literal's bytes. -/
theorem BytesAt.of_lit (w : World) (l : List UInt8) (cs : Array Value) (fr : Nat × Nat) (n : Nat) (hc : cs = (byteVals l).toArray) (hn : n = l.length) (hl : l.length ≤ 9223372036854775807) : BytesAt (w.alloc (.cells cs 5 fr)) (.slice (some ⟨w.heap.size, 0, none⟩) n n) l := by
  subst hn hc
  refine ⟨_, _, rfl, Nat.le_refl _, hl, fun _ => ⟨w.heap.size, 0, rfl, fun k hk => ?_⟩⟩
  rw [Nat.zero_add]
  have h := heap_alloc_new w (.cells (byteVals l).toArray 5 fr)
  unfold World.cell?
  rw [h]
  show (byteVals l).toArray[k]? = _
  rw [List.getElem?_toArray]
  exact byteVals_get l k hk
theorem BytesAt.nil (w : World) : BytesAt w (.slice none 0 0) [] := ⟨none, 0, rfl, Nat.le_refl _, by omega, fun h => absurd h (Nat.lt_irrefl 0)⟩
end Go.Proofs.YtjgaobkgmheocaaDoor
