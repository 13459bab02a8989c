/- Trees of blocks: in memory, and of a parser's state. -/
import Derived.Test.YtjgaobkgmheocaaDoorPnextb
import Derived.Test.YtjgaobkgmheocaaDoorJoin
namespace Go.Proofs.YtjgaobkgmheocaaDoor
open Go Go.RowKit

inductive Tree where
  | node (kind level : Nat) (text info : List UInt8) (line : Nat) (kids : List Tree)
def Tree.kind : Tree → Nat | .node k _ _ _ _ _ => k
def Tree.level : Tree → Nat | .node _ l _ _ _ _ => l
def Tree.text : Tree → List UInt8 | .node _ _ t _ _ _ => t
def Tree.info : Tree → List UInt8 | .node _ _ _ i _ _ => i
def Tree.line : Tree → Nat | .node _ _ _ _ l _ => l
def Tree.kids : Tree → List Tree | .node _ _ _ _ _ k => k
def blkCells (k lv : Nat) (t i : List UInt8) (ln : Nat) (v : Value) : Array Value := #[.int .i64 k, .int .i64 lv, .string (S t), .string (S i), .int .i64 ln, v]
/-- A block's cells that read as a tree; its lists lie in blocks of D. -/
inductive TreeAt (w : World) (D : Nat → Prop) : Tree → Array Value → Prop
  | mk (k lv : Nat) (t i : List UInt8) (ln : Nat) (kids : List Tree) (v : Value) (xs : List Value) (c : Nat → Array Value) (hrow : Row w 0 31 6 v kids.length xs) (hD : ∀ g, v.ownBlock = some g → D g)
    (hsub : ∀ (j : Nat) (h : j < kids.length), TreeAt w D kids[j] (c j)) (hcells : ∀ j, j < kids.length → (xs.drop (j * 6)).take 6 = (c j).toList) :
    TreeAt w D (.node k lv t i ln kids) (blkCells k lv t i ln v)
theorem TreeAt.move {w w' : World} {D D' : Nat → Prop} {t : Tree} {cs : Array Value} (h : TreeAt w D t cs) (hm : ∀ k, D k → k < w.heap.size → w'.heap[k]? = w.heap[k]? ∧ D' k) : TreeAt w' D' t cs := by
  induction h with
  | mk k lv t i ln kids v xs c hrow hD _ hcells ih => exact .mk k lv t i ln kids v xs c (hrow.move fun k hk => (hm k (hD k hk) (hrow.blk k hk).2.1).1) (fun g hg => (hm g (hD g hg) (hrow.blk g hg).2.1).2) (fun j h => ih j h) hcells
theorem TreeAt.keep {w w' : World} {D : Nat → Prop} {t : Tree} {cs : Array Value} (h : TreeAt w D t cs) (hb : Below w.heap.size w w') : TreeAt w' D t cs := h.move fun k hD hk => ⟨hb.block k hk, hD⟩
theorem TreeAt.mono {w : World} {D D' : Nat → Prop} {t : Tree} {cs : Array Value} (h : TreeAt w D t cs) (hm : ∀ k, D k → D' k) : TreeAt w D' t cs := h.move fun k hD _ => ⟨rfl, hm k hD⟩
/-- What a block's cells are. -/
theorem TreeAt.form {w : World} {D : Nat → Prop} {t : Tree} {cs : Array Value} (h : TreeAt w D t cs) : ∃ A n, cs = blkCells t.kind t.level t.text t.info t.line (.slice A t.kids.length n) ∧ t.kids.length ≤ n ∧ n ≤ maxLen := by
  cases h with
  | mk k lv t i ln kids v xs c hrow _ _ hcells =>
    obtain ⟨A, n, rfl, h1, h2⟩ := hrow.slice
    exact ⟨A, n, rfl, h1, h2⟩
/-- A kid. -/
theorem TreeAt.kid {w : World} {D : Nat → Prop} {t : Tree} {k lv : Nat} {tx i : List UInt8} {ln : Nat} {v : Value} (h : TreeAt w D t (blkCells k lv tx i ln v)) (j : Nat) (hj : j < t.kids.length) :
    ∃ g n c, v = .slice (some ⟨g, 0, none⟩) t.kids.length n ∧ g < w.heap.size ∧ t.kids.length ≤ n ∧ n ≤ maxLen ∧ TreeAt w D t.kids[j] c ∧ ∀ q u, c[q]? = some u → w.cell? ⟨g, j * 6 + q, none⟩ = some u := by
  generalize hc : blkCells k lv tx i ln v = cs at h
  cases h with
  | mk k' lv' t' i' ln' kids v' xs c hrow _ hsub hcells =>
    have hv : v = v' := by have := congrArg (fun a => a[5]?) hc; simpa [blkCells] using this
    subst hv
    have hj' : j < kids.length := hj
    obtain ⟨g, cap, rfl, _, h2, h3, h4, h5, _⟩ := hrow.at_ (by omega)
    refine ⟨g, cap, c j, rfl, h2, h3, h4, hsub j hj', fun q u hq => h5 _ _ ?_⟩
    have hcl := hcells j hj'
    have hq6 : q < 6 := by
      have hl := (hsub j hj').form
      obtain ⟨A, n, hf, _⟩ := hl
      rw [hf] at hq
      have := (Array.getElem?_eq_some_iff.1 hq).1
      simpa [blkCells] using this
    have hx : ((xs.drop (j * 6)).take 6)[q]? = some u := by rw [hcl, Array.getElem?_toList]; exact hq
    rw [List.getElem?_take, if_pos hq6, List.getElem?_drop] at hx
    exact hx
theorem TreeAt.six {w : World} {D : Nat → Prop} {t : Tree} {cs : Array Value} (h : TreeAt w D t cs) : cs.toList.length = 6 := by
  obtain ⟨A, n, rfl, _⟩ := h.form
  rfl
/-- A list of trees. -/
def TreesAt (w : World) (D : Nat → Prop) (m : Nat) (xs : List Value) (ts : Nat → Tree) : Prop :=
  xs.length = m * 6 ∧ ∀ j, j < m → ∃ c, TreeAt w D (ts j) c ∧ (xs.drop (j * 6)).take 6 = c.toList
theorem TreesAt.nil (w : World) (D : Nat → Prop) (ts : Nat → Tree) : TreesAt w D 0 [] ts := ⟨rfl, fun j h => absurd h (Nat.not_lt_zero j)⟩
theorem TreesAt.move {w w' : World} {D D' : Nat → Prop} {m : Nat} {xs : List Value} {ts : Nat → Tree} (h : TreesAt w D m xs ts) (hm : ∀ k, D k → k < w.heap.size → w'.heap[k]? = w.heap[k]? ∧ D' k) : TreesAt w' D' m xs ts :=
  ⟨h.1, fun j hj => by obtain ⟨c, h1, h2⟩ := h.2 j hj; exact ⟨c, h1.move hm, h2⟩⟩
theorem TreesAt.snoc {w : World} {D : Nat → Prop} {m : Nat} {xs : List Value} {ts : Nat → Tree} (h : TreesAt w D m xs ts) {cs : Array Value} (ht : TreeAt w D (ts m) cs) : TreesAt w D (m + 1) (xs ++ cs.toList) ts := by
  have hl := h.1
  have h6 := ht.six
  refine ⟨by rw [List.length_append, h6]; omega, fun j hj => ?_⟩
  by_cases hjm : j < m
  · obtain ⟨c, h1, h2⟩ := h.2 j hjm
    refine ⟨c, h1, ?_⟩
    rw [List.drop_append_of_le_length (by omega), List.take_append_of_le_length (by rw [List.length_drop]; omega)]
    exact h2
  · obtain rfl : j = m := by omega
    refine ⟨cs, ht, ?_⟩
    rw [← hl, List.drop_left, List.take_of_length_le (by omega)]
theorem TreeAt.of {w : World} {D : Nat → Prop} {k lv : Nat} {t i : List UInt8} {ln : Nat} {kids : List Tree} {v : Value} {xs : List Value} {b : Nat} (hrow : Row w b 31 6 v kids.length xs) (hD : ∀ g, v.ownBlock = some g → D g) (hx : TreesAt w D kids.length xs (fun j => kids.getD j (.node 0 0 [] [] 0 []))) :
    TreeAt w D (.node k lv t i ln kids) (blkCells k lv t i ln v) := by
  have hc : ∀ j, ∃ c, ∀ h : j < kids.length, TreeAt w D kids[j] c ∧ (xs.drop (j * 6)).take 6 = c.toList := by
    intro j
    by_cases h : j < kids.length
    · obtain ⟨c, h1, h2⟩ := hx.2 j h
      refine ⟨c, fun _ => ⟨?_, h2⟩⟩
      simp only [List.getD_eq_getElem?_getD, List.getElem?_eq_getElem h, Option.getD_some] at h1
      exact h1
    · exact ⟨#[], fun h' => absurd h' h⟩
  exact .mk k lv t i ln kids v xs (fun j => (hc j).choose) (hrow.lower (Nat.zero_le _)) hD (fun j h => ((hc j).choose_spec h).1) (fun j h => ((hc j).choose_spec h).2)
def textOf (n : Nd) : List UInt8 := if n.kind = 4 then Lib.join n.lines [10] else if n.kind = 7 then joinL n.lines [10] else n.text
/-- The tree of a node. -/
def treeN (st : PS) : Nat → Nat → Tree
  | 0, _ => .node 0 0 [] [] 0 []
  | f + 1, i => .node (st.nd i).kind (st.nd i).level (textOf (st.nd i)) (st.nd i).info (st.nd i).line ((st.nd i).kids.map (treeN st f))
theorem join_le (ls : List (List UInt8)) (e : List UInt8) : (Lib.join ls e).length ≤ (joinL ls e).length := by
  cases ls with
  | nil => simp [Lib.join_nil]
  | cons x r =>
    rw [Lib.join_cons]
    unfold joinL Lib.joinTail
    have h : ∀ r : List (List UInt8), ((r.map (e ++ ·)).flatten).length = (r.flatMap fun s => s ++ e).length := by
      intro r
      induction r with
      | nil => rfl
      | cons a b ih => simp only [List.map_cons, List.flatten_cons, List.flatMap_cons, List.length_append, ih]; omega
    simp only [List.flatMap_cons, List.length_append, h]
    omega
theorem infoBlock : (Tryd.prog.info? 31).map (fun i => (i.zero, i.size, i.bytes)) = some (some (.agg #[.int .i64 0, .int .i64 0, .string ⟨#[]⟩, .string ⟨#[]⟩, .int .i64 0, .slice none 0 0]), 6, 80) := by kernel_rfl
theorem clip_blocks (w : World) (A : Option Addr) (n c : Nat) (hn : n ≤ c) (_hc : c ≤ maxLen) :
    Calls Tryd.prog 36 #[.slice A n c] w fun e w' => e = .returned (.slice A n n) ∧ w = w' := by
  unfold maxLen at _hc
  go_enter Tryd.func36, Tryd.ntmps36
  go_wp2
  go_ret
  exact ⟨rfl, rfl⟩
theorem ret_cell {P : Program} {fn : Func} {R : Ending → World → Prop} {a : Act} {p : Tmp} {ty t : TypeId} (h : fn.results = #[.cell p ty]) {w : World} {g : Nat} {cs : Array Value} {d : TypeDesc}
    (hg : Blk w g cs t) (hp : a.tmps.getD p undef = .pointer (some ⟨g, 0, none⟩)) (hu : P.underlying ty = some d) (hd : (match d with | .struct _ | .array _ _ => true | _ => false) = true) (hi : (P.info? ty).map (·.size) = some cs.size)
    (hdf : a.defers = []) (hR : R (.returned (.agg cs)) w) : bodyPost P fn R .ret a w :=
  bodyPost_ret (results_cell_row h _ w g t cs (0, 0) d hp hg hu hd hi) hdf hR
end Go.Proofs.YtjgaobkgmheocaaDoor
