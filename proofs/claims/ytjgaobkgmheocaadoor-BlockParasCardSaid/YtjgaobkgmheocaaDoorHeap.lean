/- Blocks: what they hold behind a store, a new block; results that lie in a block. -/
import Derived.Test.YtjgaobkgmheocaaDoorStr
import Derived.Laws.ResultCell
import Derived.Laws.Rows
namespace Go.Proofs.YtjgaobkgmheocaaDoor
open Go Go.RowKit

/-- Block b holds these cells (not frozen). -/
def Blk (w : World) (b : Nat) (cs : Array Value) (t : TypeId) : Prop := w.heap[b]? = some (.cells cs t (0, 0))
theorem Blk.lt {w : World} {b : Nat} {cs : Array Value} {t : TypeId} (h : Blk w b cs t) : b < w.heap.size := (Array.getElem?_eq_some_iff.1 h).1
theorem Blk.cell {w : World} {b : Nat} {cs : Array Value} {t : TypeId} (h : Blk w b cs t) (j : Nat) : w.cell? ⟨b, j, none⟩ = cs[j]? := by
  unfold World.cell?
  rw [show w.heap[b]? = some (.cells cs t (0, 0)) from h]
  rfl
theorem Blk.free {w : World} {b : Nat} {cs : Array Value} {t : TypeId} (h : Blk w b cs t) (j : Nat) : w.frozen? ⟨b, j, none⟩ = false := by
  unfold World.frozen?
  rw [show w.heap[b]? = some (.cells cs t (0, 0)) from h]
  simp
theorem Blk.set {w : World} {b : Nat} {cs : Array Value} {t : TypeId} (h : Blk w b cs t) (j : Nat) (v : Value) : Blk (w.setCell ⟨b, j, none⟩ v) b (cs.setIfInBounds j v) t := by
  have h' : w.heap[b]? = some (.cells cs t (0, 0)) := h
  have hl := h.lt
  obtain ⟨_, hg⟩ := Array.getElem?_eq_some_iff.1 h'
  unfold Blk World.setCell
  rw [Array.getElem?_eq_getElem (by simpa using hl)]
  simp only [Array.getElem_modify_self, hg]
  rfl
theorem Blk.set_ne {w : World} {b : Nat} {cs : Array Value} {t : TypeId} (h : Blk w b cs t) {p : Addr} (hp : b ≠ p.block) (v : Value) : Blk (w.setCell p v) b cs t := by
  unfold Blk
  rw [Below.heap_setCell w p v b hp]
  exact h
theorem Blk.alloc {w : World} {b : Nat} {cs : Array Value} {t : TypeId} (h : Blk w b cs t) (o : Obj) : Blk (w.alloc o) b cs t := by
  unfold Blk
  rw [Below.heap_alloc w o b h.lt]
  exact h
theorem Blk.drew {w : World} {b : Nat} {cs : Array Value} {t : TypeId} (h : Blk w b cs t) : Blk w.drew b cs t := h
theorem Blk.below {w w1 : World} {b : Nat} {cs : Array Value} {t : TypeId} (h : Blk w b cs t) (hb : Below w.heap.size w w1) : Blk w1 b cs t := by
  unfold Blk
  rw [hb.block b h.lt]
  exact h
theorem Blk.new (w : World) (cs : Array Value) (t : TypeId) : Blk (w.alloc (.cells cs t)) w.heap.size cs t :=
  heap_alloc_new w _

theorem Blk.cast {w : World} {b : Nat} {cs cs' : Array Value} {t : TypeId} (h : Blk w b cs t) (e : cs = cs') : Blk w b cs' t := e ▸ h
theorem res_cell_tmp {P : Program} {fn : Func} {p u : Tmp} {ty t : TypeId} (h : fn.results = #[.cell p ty, .tmp u]) {tmps : Array Value} {w : World} {g : Nat} {cs : Array Value} {d : TypeDesc}
    (hg : Blk w g cs t) (hp : tmps.getD p undef = .pointer (some ⟨g, 0, none⟩)) (hu : P.underlying ty = some d) (hd : (match d with | .struct _ | .array _ _ => true | _ => false) = true) (hi : (P.info? ty).map (·.size) = some cs.size) :
    (results fn tmps).run P w = .ok (.tuple #[.agg cs, tmps.getD u undef]) w := by
  rw [results_cell_tmp h, hp]
  simp [asAddr, run_loadVar_row w g t _ cs (0, 0) d hg hu hd hi]
theorem ret_cell_tmp {P : Program} {fn : Func} {R : Ending → World → Prop} {a : Act} {p u : Tmp} {ty t : TypeId} (h : fn.results = #[.cell p ty, .tmp u]) {w : World} {g : Nat} {cs : Array Value} {d : TypeDesc}
    (hg : Blk w g cs t) (hp : a.tmps.getD p undef = .pointer (some ⟨g, 0, none⟩)) (hu : P.underlying ty = some d) (hd : (match d with | .struct _ | .array _ _ => true | _ => false) = true) (hi : (P.info? ty).map (·.size) = some cs.size)
    (hdf : a.defers = []) (hR : R (.returned (.tuple #[.agg cs, a.tmps.getD u undef])) w) : bodyPost P fn R .ret a w :=
  bodyPost_ret (res_cell_tmp h hg hp hu hd hi) hdf hR
end Go.Proofs.YtjgaobkgmheocaaDoor
