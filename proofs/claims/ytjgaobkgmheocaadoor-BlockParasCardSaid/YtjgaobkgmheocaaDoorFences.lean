/- block.Fences: words. -/
import Derived.Test.YtjgaobkgmheocaaDoorParseb
namespace Go.Proofs.YtjgaobkgmheocaaDoor
open Go Go.RowKit

structure FP where
  line : Nat
  op : FO
  first : Nat
  last : Nat
  closed : Bool
def FP.cells (q : FP) : List Value := [.int .i64 q.line, .int .u8 q.op.char.toNat, .int .i64 q.op.count, .int .i64 q.op.indent, .string (S q.op.info), .int .i64 q.first, .int .i64 q.last, .bool q.closed]
def placeVals (l : List FP) : List Value := l.flatMap FP.cells
theorem placeVals_length (l : List FP) : (placeVals l).length = l.length * 8 := by
  induction l with
  | nil => rfl
  | cons a b ih =>
    unfold placeVals at *
    rw [List.flatMap_cons, List.length_append, ih, List.length_cons]
    show 8 + _ = _
    omega
theorem placeVals_append (a b : List FP) : placeVals (a ++ b) = placeVals a ++ placeVals b := by unfold placeVals; rw [List.flatMap_append]
theorem placeVals_get (l : List FP) : ∀ (k : Nat) (h : k < l.length) (j : Nat), j < 8 → (placeVals l)[k * 8 + j]? = (l[k].cells)[j]? := by
  induction l with
  | nil => intro k h; exact absurd h (Nat.not_lt_zero k)
  | cons a b ih =>
    intro k h j hj
    have h8 : a.cells.length = 8 := rfl
    unfold placeVals
    rw [List.flatMap_cons]
    cases k with
    | zero => rw [List.getElem?_append_left (by omega), Nat.zero_mul, Nat.zero_add]; rfl
    | succ k =>
      rw [List.getElem?_append_right (by omega), show (k + 1) * 8 + j - a.cells.length = k * 8 + j by omega]
      exact ih k (by simpa using h) j hj
/-- Does the line end the last fence? -/
def closeB (was : Option Nat) (st : PS) (out : List FP) : Bool :=
  match was with
  | none => false
  | some j => (st.nd j).kind == 7 && st.leaf.isNone && (match out.getLast? with | none => false | some q => q.line == (st.nd j).line)
/-- Does the line begin one? -/
def openB (was : Option Nat) (st : PS) : Bool :=
  match st.leaf with
  | none => false
  | some q => decide (was ≠ some q) && (st.nd q).kind == 7
def closeL (i : Nat) (out : List FP) : List FP := out.set (out.length - 1) { out.getD (out.length - 1) ⟨0, FO.zero, 0, 0, false⟩ with last := i, closed := true }
def fenceStep (n : Nat) (was : Option Nat) (st : PS) (i : Nat) (out : List FP) : List FP :=
  if 0 < st.row.length then out
  else
    let out1 := if closeB was st out then closeL i out else out
    if openB was st then out1 ++ [⟨i, (st.nd (st.leaf.getD 0)).fence, i + 1, n, false⟩] else out1
def fencesR (n : Nat) : PS → List FP → Nat → List (List UInt8) → List FP
  | _, out, _, [] => out
  | st, out, k, s :: r => fencesR n (nextS (atLine st k) (textR s)) (fenceStep n st.leaf (nextS (atLine st k) (textR s)) k out) (k + 1) r
def fencesL (l : List UInt8) : List FP := fencesR (textsL (l.take 65536)).length initS [] 0 (textsL (l.take 65536))
theorem fencesR_append (n : Nat) : ∀ (a b : List (List UInt8)) (st : PS) (out : List FP) (k : Nat), fencesR n st out k (a ++ b) = fencesR n (runS st k a) (fencesR n st out k a) (k + a.length) b
  | [], b, st, out, k => rfl
  | s :: a, b, st, out, k => by
    show fencesR n (nextS (atLine st k) (textR s)) (fenceStep n st.leaf (nextS (atLine st k) (textR s)) k out) (k + 1) (a ++ b) = _
    rw [fencesR_append n a b, List.length_cons, show k + 1 + a.length = k + (a.length + 1) by omega]
    rfl
theorem fencesR_snoc (n : Nat) (L : List (List UInt8)) (k : Nat) (h : k < L.length) :
    fencesR n initS [] 0 (L.take (k + 1)) = fenceStep n (runS initS 0 (L.take k)).leaf (nextS (atLine (runS initS 0 (L.take k)) k) (textR L[k])) k (fencesR n initS [] 0 (L.take k)) := by
  rw [List.take_succ_eq_append_getElem h, fencesR_append, List.length_take, Nat.min_eq_left (Nat.le_of_lt h), Nat.zero_add]
  rfl
theorem closeL_length (i : Nat) (out : List FP) : (closeL i out).length = out.length := by unfold closeL; exact List.length_set
theorem fenceStep_length (n : Nat) (was : Option Nat) (st : PS) (i : Nat) (out : List FP) : (fenceStep n was st i out).length ≤ out.length + 1 := by
  have h1 : (if closeB was st out then closeL i out else out).length = out.length := by split; exact closeL_length _ _; rfl
  unfold fenceStep
  dsimp only
  split
  · omega
  · split
    · rw [List.length_append, h1]; exact Nat.le_refl _
    · omega
theorem fencesR_length (n : Nat) (L : List (List UInt8)) : ∀ k, k ≤ L.length → (fencesR n initS [] 0 (L.take k)).length ≤ k
  | 0, _ => Nat.le_refl _
  | k + 1, h => by
    rw [fencesR_snoc n L k (by omega)]
    have h1 := fenceStep_length n (runS initS 0 (L.take k)).leaf (nextS (atLine (runS initS 0 (L.take k)) k) (textR L[k])) k (fencesR n initS [] 0 (L.take k))
    have h2 := fencesR_length n L k (by omega)
    omega
/-- The owners, without those whose blocks are kept. -/
def freed (own : Nat → Role) (k : Nat) : Role := match own k with | .kept => .other | r => r
theorem freed_eq {own : Nat → Role} {k : Nat} {r : Role} (h : own k = r) (hr : r ≠ .kept) : freed own k = r := by
  unfold freed
  rw [h]
  cases r <;> first | rfl | exact absurd rfl hr
theorem Holds.forget {w : World} {base p : Nat} {ad : Nat → Nat} {own : Nat → Role} {KP : Nat → Option Obj} {st : PS} (h : Holds KP w base p ad own st) : Holds (fun _ => none) w base p ad (freed own) st := by
  obtain ⟨vr, hb, hr, ho⟩ := h.prs
  refine ⟨⟨vr, hb, hr, fun k hk => freed_eq (ho k hk) (by nofun)⟩, fun i hi => ?_, freed_eq h.own_p (by nofun), fun i hi => freed_eq (h.own_n i hi) (by nofun), h.bp, h.bn, h.pos, fun k o hk => by cases hk⟩
  obtain ⟨vl, vk, h1, h2, h3, h4, h5⟩ := h.nds i hi
  exact ⟨vl, vk, h1, h2, h3, fun k hk => freed_eq (h4 k hk) (by nofun), fun k hk => freed_eq (h5 k hk) (by nofun)⟩
/-- What is kept turns, or more is kept. -/
theorem Holds.rekeep {w w' : World} {base p : Nat} {ad : Nat → Nat} {own : Nat → Role} {KP KP' : Nat → Option Obj} {st : PS} (h : Holds KP w base p ad own st) (hm : ∀ k, k < w.heap.size → KP k = none → w'.heap[k]? = w.heap[k]?)
    (hK : ∀ k o, KP' k = some o → w'.heap[k]? = some o ∧ ((KP k).isSome = true ∨ w.heap.size ≤ k)) : ∃ own', Holds KP' w' base p ad own' st := by
  have hno : ∀ k, freed own k ≠ .other → KP k = none := by
    intro k hk
    cases hq : KP k with
    | none => rfl
    | some o =>
      refine absurd ?_ hk
      unfold freed
      rw [(h.kept k o hq).2]
  have h1 := h.forget.move (w' := w') (fun k hk ho => hm k hk (hno k ho))
  let own' : Nat → Role := fun k => if (KP' k).isSome = true then .kept else freed own k
  have hlt : ∀ {k : Nat} {o : Obj}, w.heap[k]? = some o → k < w.heap.size := fun h => lt_of_obj h
  have hsame : ∀ k, k < w.heap.size → freed own k ≠ .other → own' k = freed own k := by
    intro k hk ho
    show (if (KP' k).isSome = true then Role.kept else freed own k) = _
    cases hq : KP' k with
    | none => rfl
    | some o =>
      exfalso
      rcases (hK k o hq).2 with h2 | h2
      · rw [hno k ho] at h2; cases h2
      · omega
  obtain ⟨vr, hb, hr, ho⟩ := h.forget.prs
  obtain ⟨vr1, hb1, hr1, ho1⟩ := h1.prs
  have hvr : vr1 = vr := by
    have e1 := hb1.at_ 1 vr1 rfl
    have e0 := hb.at_ 1 vr rfl
    have e2 : w'.heap[p]? = w.heap[p]? := hm p hb.lt (hno p (by rw [h.forget.own_p]; nofun))
    have e3 : w'.cell? ⟨p, 1, none⟩ = w.cell? ⟨p, 1, none⟩ := World.cell?_of_block (w := w) e2
    rw [e1, e0] at e3
    injection e3
  subst hvr
  refine ⟨own', ⟨vr1, hb1, hr1, fun k hk => ?_⟩, fun i hi => ?_, ?_, fun i hi => ?_, h.bp, h.bn, h.pos, fun k o hk => ⟨(hK k o hk).1, by show (if (KP' k).isSome = true then Role.kept else freed own k) = _; rw [hk]; rfl⟩⟩
  · rw [hsame k (hr.blk k hk).2.1 (by rw [ho k hk]; nofun)]; exact ho k hk
  · obtain ⟨vl, vk, a1, a2, a3, a4, a5⟩ := h.forget.nds i hi
    have e2 : w'.heap[ad i]? = w.heap[ad i]? := hm _ a1.lt (hno _ (by rw [h.forget.own_n i hi]; nofun))
    exact ⟨vl, vk, e2.trans a1, a2.move fun k hk => hm k (a2.blk k hk).2.1 (hno k (by rw [a4 k hk]; nofun)), a3.move fun k hk => hm k (a3.blk k hk).2.1 (hno k (by rw [a5 k hk]; nofun)),
      fun k hk => by rw [hsame k (a2.blk k hk).2.1 (by rw [a4 k hk]; nofun)]; exact a4 k hk, fun k hk => by rw [hsame k (a3.blk k hk).2.1 (by rw [a5 k hk]; nofun)]; exact a5 k hk⟩
  · rw [hsame p hb.lt (by rw [h.forget.own_p]; nofun)]; exact h.forget.own_p
  · obtain ⟨vl, vk, a1, _⟩ := h.forget.nds i hi
    rw [hsame _ a1.lt (by rw [h.forget.own_n i hi]; nofun)]
    exact h.forget.own_n i hi
/-- Two nodes lie in two blocks. -/
theorem Holds.inj {w : World} {base p : Nat} {ad : Nat → Nat} {own : Nat → Role} {KP : Nat → Option Obj} {st : PS} (h : Holds KP w base p ad own st) {i j : Nat} (hi : i < st.nodes.length) (hj : j < st.nodes.length) (hne : i ≠ j) : ad i ≠ ad j :=
  role_ne (h.own_n i hi) (h.own_n j hj) (fun e => hne (by injection e))
/-- What is kept: the texts, and the list of places. -/
def KPo (w2 : World) (tv : Value) (wr : World) (ov : Value) (b : Nat) : Option Obj := if tv.ownBlock = some b then w2.heap[b]? else if ov.ownBlock = some b then wr.heap[b]? else none
end Go.Proofs.YtjgaobkgmheocaaDoor
