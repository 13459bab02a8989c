/- block.Parse: words, and what stays true. -/
import Derived.Test.YtjgaobkgmheocaaDoorDone
import Derived.Lib.ConvBytes
namespace Go.Proofs.YtjgaobkgmheocaaDoor
open Go Go.RowKit

/-- []byte(s): the bytes in a new block. -/
theorem bytes_at (w : World) (l : List UInt8) (hl : l.length ≤ maxLen) : BytesAt (Lib.bytesWorld w 5 (S l)) (.slice (some ⟨w.heap.size, 0, none⟩) l.length (grownCap w (S l).size 0 5)) l := by
  have h1 := grownCap_ge w (S l).size 0 5
  have h2 := grownCap_le_maxLen w (S l).size 0 5 (by rw [S_size]; exact hl)
  rw [S_size] at h1
  refine ⟨_, _, rfl, by rw [S_size] at *; exact h1, by unfold maxLen at h2; omega, fun _ => ⟨w.heap.size, 0, rfl, fun k hk => ?_⟩⟩
  rw [Nat.zero_add, Lib.bytesWorld_cell w 5 (S l) k (by rw [S_size]; exact hk), S_list]
  simp [List.getD_eq_getElem?_getD, List.getElem?_eq_getElem hk]
theorem bytes_below (w : World) (e : TypeId) (s : ByteArray) : Below w.heap.size w (Lib.bytesWorld w e s) := by
  refine ⟨?_, ?_, ?_, by rw [Lib.bytesWorld_size]; omega, fun k hk => Lib.bytesWorld_at_old w e s k hk⟩ <;> (first | rfl | (simp [Lib.bytesWorld, World.freeze]; first | rfl | (split <;> rfl)))
def atLine (st : PS) (k : Nat) : PS := { st with line := k }
/-- Lines are taken, the first of them number k. -/
def runS (st : PS) : Nat → List (List UInt8) → PS
  | _, [] => st
  | k, s :: r => runS (nextS (atLine st k) (textR s)) (k + 1) r
def initS : PS := ⟨[Nd.zero], [], none, 0⟩
def parseS (l : List UInt8) : PS := runS initS 0 (textsL (l.take 65536))
def parseT (l : List UInt8) : Tree := treeN (parseS l) (parseS l).nodes.length 0
theorem runS_append : ∀ (a b : List (List UInt8)) (st : PS) (k : Nat), runS st k (a ++ b) = runS (runS st k a) (k + a.length) b
  | [], b, st, k => rfl
  | s :: a, b, st, k => by
    show runS (nextS (atLine st k) (textR s)) (k + 1) (a ++ b) = _
    rw [runS_append a b, List.length_cons, show k + 1 + a.length = k + (a.length + 1) by omega]
    rfl
theorem runS_snoc (L : List (List UInt8)) (k : Nat) (h : k < L.length) : runS initS 0 (L.take (k + 1)) = nextS (atLine (runS initS 0 (L.take k)) k) (textR L[k]) := by
  rw [List.take_succ_eq_append_getElem h, runS_append, List.length_take, Nat.min_eq_left (Nat.le_of_lt h), Nat.zero_add]
  rfl
theorem fresh_nodes (st : PS) (i : Nat) (fr : Bool) : (if fr then st else shutS st i).nodes.length = st.nodes.length := by split; rfl; rfl
theorem next_nodes (st : PS) (l : List UInt8) : st.nodes.length ≤ (nextS st l).nodes.length := by
  unfold nextS
  dsimp only
  split
  · split
    · exact Nat.le_refl _
    · unfold lnS; rw [len_set]; exact Nat.le_refl _
  · have h1 := begins_nodes (runRow st st.row l 0).1 (40 - (runRow st st.row l 0).1) st (runRow st st.row l 0).2 false
    generalize beginsF (runRow st st.row l 0).1 (40 - (runRow st st.row l 0).1) st (runRow st st.row l 0).2 false = b at *
    split
    · refine Nat.le_trans h1 ?_
      show _ ≤ (if _ then _ else _ : PS).nodes.length
      split
      · exact Nat.le_refl _
      · exact Nat.le_refl _
    · split
      · rename_i st3 he
        unfold blockS at he
        dsimp only at he
        split at he
        · injection he with he
          subst he
          rw [len_addNew, fresh_nodes]
          omega
        · split at he
          · injection he with he
            subst he
            rw [len_addNew, fresh_nodes]
            omega
          · split at he
            · injection he with he
              subst he
              show _ ≤ (addS (newS _ _) _).nodes.length
              rw [len_addNew, fresh_nodes]
              omega
            · cases he
      · unfold textS
        split
        · unfold lnS; rw [len_set]; exact h1
        · show _ ≤ (addS (newS _ _) _).nodes.length
          rw [len_addNew, fresh_nodes]
          omega
/-- How great a state is behind k lines. -/
structure Fine (k : Nat) (st : PS) : Prop where
  ok : Ok st
  size : st.nodes.length ≤ 1 + 81 * k
  small : NI (Small k 20000000) st
theorem Fine.line {k : Nat} {st : PS} (h : Fine k st) (n : Nat) : Fine k (atLine st n) := ⟨⟨⟨h.ok.wf.row, h.ok.wf.leaf, h.ok.wf.kids⟩, ⟨h.ok.sz.row, h.ok.sz.kids⟩, h.ok.pos⟩, h.size, h.small⟩
theorem Fine.init : Fine 0 initS := by
  have hnd : ∀ i, initS.nd i = Nd.zero := fun i => by
    unfold initS PS.nd
    cases i with
    | zero => rfl
    | succ j => rfl
  refine ⟨⟨⟨fun i h => (nomatch h), fun i h => (nomatch h), fun i hi k hk => by rw [hnd] at hk; cases hk⟩, ⟨Nat.lt_succ_self 0, fun i => by rw [hnd]; exact Nat.lt_succ_self 0⟩, Nat.lt_succ_self 0⟩, Nat.le_refl _, fun i => ?_⟩
  rw [hnd]
  exact .new (Nat.zero_le _) (Nat.zero_le _) rfl
theorem Fine.next {k : Nat} {st : PS} (h : Fine k st) (l : List UInt8) (hl : l.length ≤ 262144) (hk : k ≤ 65536) : Fine (k + 1) (nextS st l) := by
  obtain ⟨h1, h2⟩ := h.ok.next l
  have h3 := h.ok.sz.row
  have h4 := h.size
  exact ⟨h1, by omega, Small.next h.small l (by omega)⟩
theorem Fine.run (L : List (List UInt8)) (hL : ∀ s, s ∈ L → s.length ≤ 65536) : ∀ k, k ≤ L.length → k ≤ 65536 → Fine k (runS initS 0 (L.take k))
  | 0, _, _ => Fine.init
  | k + 1, h, h2 => by
    rw [runS_snoc L k (by omega)]
    refine ((Fine.run L hL k (by omega) (by omega)).line k).next _ ?_ (by omega)
    have h1 := textR_le L[k]
    have h3 := hL L[k] (List.getElem_mem _)
    omega
theorem textsL_mem (l : List UInt8) (s : List UInt8) (h : s ∈ textsL l) : s.length ≤ l.length := by
  unfold textsL at h
  obtain ⟨x, _, rfl⟩ := List.mem_map.1 h
  rw [List.length_drop, List.length_take]
  omega
theorem Fine.texts {k : Nat} {st : PS} (h : Fine k st) (hk : k ≤ 65536) (i : Nat) : (joinL (st.nd i).lines [10]).length ≤ 140737488355328 ∧ (st.nd i).lines.length ≤ 140737488355328 ∧ (st.nd i).kids.length ≤ 1000000000 := by
  obtain ⟨_, _, h3, h4⟩ := h.small i
  have h5 := h.ok.sz.kids i
  have h6 := h.size
  have hj : ∀ ls : List (List UInt8), (∀ t, t ∈ ls → t.length ≤ 20000000) → (joinL ls [10]).length ≤ ls.length * 20000001 := by
    intro ls
    induction ls with
    | nil => intro _; simp [joinL]
    | cons a b ih =>
      intro hq
      have h1 := ih (fun t ht => hq t (List.mem_cons_of_mem _ ht))
      have h2 := hq a List.mem_cons_self
      unfold joinL at *
      simp only [List.flatMap_cons, List.length_append, List.length_cons, List.length_nil]
      omega
  have h7 := hj _ h4
  exact ⟨by omega, by omega, by omega⟩
/-- The line is written. -/
theorem Holds.setLine {w : World} {base p : Nat} {ad : Nat → Nat} {own : Nat → Role} {KP : Nat → Option Obj} {st : PS} (h : Holds KP w base p ad own st) (k : Nat) : Holds KP (w.setCell ⟨p, 3, none⟩ (.int .i64 k)) base p ad own (atLine st k) := by
  obtain ⟨vr, hb, hr, ho⟩ := h.prs
  exact h.parser (row' := st.row) (leaf' := st.leaf) ⟨vr, Blk.cast (hb.set 3 _) rfl, hr.set (fun k hk => role_ne (ho k hk) h.own_p (by nofun)) _, ho⟩ fun _ _ _ hp _ => Below.heap_setCell _ _ _ _ (role_ne rfl h.own_p hp)
/-- What is kept is there still. -/
theorem Holds.row {w w0 : World} {base p : Nat} {ad : Nat → Nat} {own : Nat → Role} {KP : Nat → Option Obj} {st : PS} (h : Holds KP w base p ad own st) {b : Nat} {e : TypeId} {sz : Nat} {v : Value} {n : Nat} {xs : List Value} (hr : Row w0 b e sz v n xs)
    (hK : ∀ k, v.ownBlock = some k → KP k = w0.heap[k]?) : Row w b e sz v n xs := by
  refine hr.move fun k hk => ?_
  obtain ⟨_, hlt, _⟩ := hr.blk k hk
  have h1 := hK k hk
  rw [Array.getElem?_eq_getElem hlt] at h1
  rw [(h.kept k _ h1).1, Array.getElem?_eq_getElem hlt]
/-- A parser that has just been made. -/
theorem Holds.made {w : World} {base p q : Nat} {KP : Nat → Option Obj} (hp : Blk w p #[ptr q, .slice none 0 0, .pointer none, .int .i64 0] 56) (hq : Blk w q (ndCells Nd.zero (.slice none 0 0) (.slice none 0 0)) 54) (h1 : base ≤ p) (h2 : base ≤ q) (hpq : p ≠ q)
    (hK : ∀ k o, KP k = some o → w.heap[k]? = some o ∧ k ≠ p ∧ k ≠ q) : Holds KP w base p (fun _ => q) (fun k => if k = p then .prs else if k = q then .nd 0 else .kept) initS := by
  have hnd : ∀ i, i < initS.nodes.length → i = 0 := fun i hi => by have : i < 1 := hi; omega
  refine ⟨⟨_, hp, Row.nil _ _ _ _, by simp [Value.ownBlock]⟩, fun i hi => ?_, if_pos rfl, fun i hi => ?_, h1, fun _ _ => h2, Nat.lt_succ_self 0, fun k o hk => ?_⟩
  · obtain rfl := hnd i hi
    exact ⟨_, _, hq, Row.nil _ _ _ _, Row.nil _ _ _ _, by simp [Value.ownBlock], by simp [Value.ownBlock]⟩
  · obtain rfl := hnd i hi
    show (if q = p then Role.prs else if q = q then .nd 0 else .kept) = _
    rw [if_neg (Ne.symm hpq), if_pos rfl]
  · obtain ⟨a, b, c⟩ := hK k o hk
    refine ⟨a, ?_⟩
    show (if k = p then Role.prs else if k = q then .nd 0 else .kept) = _
    rw [if_neg b, if_neg c]
end Go.Proofs.YtjgaobkgmheocaaDoor
