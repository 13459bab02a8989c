/- block.parser.item. -/
import Derived.Test.YtjgaobkgmheocaaDoorItem
import Derived.Deep.RegionHeld3
namespace Go.Proofs.YtjgaobkgmheocaaDoor
open Go Go.RowKit

/-- The parser's row has been appended to, and stored. -/
theorem row_appended {w1 w2 : World} {base p : Nat} {ad : Nat → Nat} {own : Nat → Role} {KP : Nat → Option Obj} {st : PS} {i : Nat} {vr v2 : Value} (H : Holds KP w1 base p ad own st)
    (hb : Blk w1 p #[ptr (ad 0), vr, leafV ad st.leaf, .int .i64 st.line] 56) (hro : ∀ k, vr.ownBlock = some k → own k = .row)
    (hrow : Row w2 base 51 1 v2 (st.row.length + 1) (ptrs ad st.row ++ [ptr (ad i)])) (hg : w1.grownBy w2 vr.ownBlock) (hat : v2.ownBlock = vr.ownBlock ∨ ∃ g, v2.ownBlock = some g ∧ w1.heap.size ≤ g) :
    ∃ own', Holds KP (w2.setCell ⟨p, 1, none⟩ v2) base p ad own' { st with row := st.row ++ [i] } := by
  have hnew : ∀ k, v2.ownBlock = some k → k < w1.heap.size → own k = .row := by
    intro k hk hlt
    rcases hat with h | ⟨g, h, hge⟩
    · exact hro k (by rw [← h]; exact hk)
    · rw [h] at hk
      injection hk with hk
      omega
  let own' : Nat → Role := fun k => if some k = v2.ownBlock then .row else own k
  have hown : ∀ k, k < w1.heap.size → own' k = own k := by
    intro k hk
    show (if some k = v2.ownBlock then Role.row else own k) = own k
    by_cases h : some k = v2.ownBlock
    · rw [if_pos h, hnew k h.symm hk]
    · rw [if_neg h]
  have H1 := H.ext hown
  have hv2 : ∀ k, v2.ownBlock = some k → own' k = .row := fun k hk => if_pos hk.symm
  refine ⟨own', H1.parser (leaf' := st.leaf) (line' := st.line) ⟨v2, Blk.cast ((hb.grown hg (fun e => ?_)).set 1 v2) rfl, ?_, hv2⟩ (fun k hk _ h1 h2 => ?_)⟩
  · have := hro p e.symm
    rw [H.own_p] at this
    cases this
  · have h := hrow.set (p := ⟨p, 1, none⟩) (fun k hk => role_ne (hv2 k hk) H1.own_p (by nofun)) v2
    have e1 : (st.row ++ [i]).length = st.row.length + 1 := by simp
    rw [e1, ptrs_snoc]
    exact h
  · rw [Below.heap_setCell _ _ _ _ (role_ne rfl H1.own_p h1)]
    exact hg.block k hk (fun e => h2 (by rw [hown k hk]; exact hro k e.symm))
def listNd (sign : UInt8) : Nd := { Nd.zero with kind := 2, sign := sign }
def itemNd (line inn : Nat) : Nd := { Nd.zero with kind := 3, line := line, inn := inn }
/-- Is the last kid of x a List of that sign? -/
def sameList (st : PS) (x : Nat) (sign : UInt8) : Bool :=
  match (st.nd x).kids.getLast? with
  | none => false
  | some j => (st.nd j).kind == 2 && (st.nd j).sign == sign
/-- The rest of item, behind the List j. -/
def putItem (st : PS) (j inn : Nat) : PS :=
  let st3 := leafS (kidS (newS st (itemNd st.line inn)) j st.nodes.length) none
  { st3 with row := st3.row ++ [st.nodes.length] }
def itemS (st : PS) (sign : UInt8) (inn : Nat) : PS :=
  let x := inId st st.row.length
  if sameList st x sign then putItem st ((st.nd x).kids.getLast?.getD 0) inn
  else putItem (addS (newS st (listNd sign)) st.nodes.length) st.nodes.length inn
end Go.Proofs.YtjgaobkgmheocaaDoor
