/- A region that draws its order, whose last operation waits for all others and may write what the others read. -/
import Derived.Test.YtjgaobkgmheocaaDoorRow
import Derived.OrdersHeld
import Derived.StillTail
import Derived.Deep.RegionHeld3
namespace Go.Proofs.YtjgaobkgmheocaaDoor
open Go Go.RowKit

section
variable {P : Program} {Q : Exit → Act → World → Prop} {md : Region.Mode} {S : World → Prop} {n : Nat}
/-- Whatever order is picked; S holds behind each operation but the last, number n. -/
def wpAnyT (P : Program) (md : Region.Mode) (ops : Array Oper) (Q : Exit → Act → World → Prop) (n : Nat) (S : World → Prop) : Nat → Array Bool → Act → World → Prop
  | 0, listed, a, w => Region.ready md ops listed = [] ∧ Q .normal a w
  | fuel + 1, listed, a, w =>
    (Region.ready md ops listed = [] → Q .normal a w) ∧
    ∀ i ∈ Region.ready md ops listed, wpOp P ops Q i (fun a' w' => (i < n → S w') ∧ wpAnyT P md ops Q n S fuel (listed.setIfInBounds i true) a' w') a w
theorem wpAny_of_T {ops : Array Oper} : ∀ (fuel : Nat) (listed : Array Bool) (a : Act) (w : World), wpAnyT P md ops Q n S fuel listed a w → wpAny P md ops Q fuel listed a w
  | 0, _, _, _, h => h
  | fuel + 1, _, _, _, h => ⟨h.1, fun i hi => wpOp_mono (fun a' w' h' => wpAny_of_T fuel _ a' w' h'.2) (h.2 i hi)⟩
theorem wpAnyT_first {ops : Array Oper} {i : Nat} {oi : Oper} {v : Value} (hs : Region.sinkB md ops n = true) (hc : Region.chainB md ops n = true) (hn : n < ops.size) (hin : i < n) (hi : ops[i]? = some oi) (hsel : ∀ (j : Nat) (o : Oper) cs b, ops[j]? = some o → o.op ≠ .select cs b)
    (hQ : ∀ c a w, Q (.panic c) (a.put oi.dst v) w → Q (.panic c) a w) :
    ∀ (fuel : Nat) (listed : Array Bool) (a : Act) (w : World), HeadInv md ops n listed →
      (∀ j oj, ops[j]? = some oj → j ≠ i → listed.getD j true = false → (∀ e ∈ oj.after, Region.binds md e = true → e.on ≠ i) → oi.apart ops oj = true) →
      i ∈ Region.ready md ops listed → YieldsIf P ops S oi v a → S w →
      wpAnyT P md ops Q n S fuel (listed.setIfInBounds i true) (a.put oi.dst v) w → wpAnyT P md ops Q n S (fuel + 1) listed a w := by
  intro fuel
  induction fuel with
  | zero =>
    intro listed a w _ _ hr hy hS H
    refine ⟨fun h => (by rw [h] at hr; cases hr), fun j hj => ?_⟩
    by_cases hji : j = i
    · subst hji; exact hy.wpOp hi hS ⟨fun _ => hS, H⟩
    · have := ready_mono hj hji
      rw [H.1] at this
      cases this
  | succ fuel ih =>
    intro listed a w inv hfree hr hy hS H
    refine ⟨fun h => (by rw [h] at hr; cases hr), fun j hj => ?_⟩
    by_cases hji : j = i
    · subst hji; exact hy.wpOp hi hS ⟨fun _ => hS, H⟩
    · have hjn : j < n := by
        rcases Nat.lt_or_ge j n with h | h
        · exact h
        · exact absurd hj (tail_waits hs hc hn inv (n - i) i rfl hin (mem_ready.1 hr).1 j h)
      have h1 := H.2 j (ready_mono hj hji)
      obtain ⟨hjun, oj, hoj, hall⟩ := mem_ready.1 hj
      have hnot : ∀ e ∈ oj.after, Region.binds md e = true → e.on ≠ i := fun e he hb heq => by
        have h1 := hall e he hb
        have h0 := (mem_ready.1 hr).1
        rw [heq] at h1
        rcases Nat.lt_or_ge i listed.size with h' | h'
        · simp [h'] at h0 h1; rw [h0] at h1; cases h1
        · simp [Array.getElem?_eq_none h'] at h1
      have h2 := wpOp_putIf hoj (hfree j oj hoj hji hjun hnot) (fun cs b => hsel i oi cs b hi) (fun cs b => hsel j oj cs b hoj) hQ hy h1
      have hfree' : ∀ k ok, ops[k]? = some ok → k ≠ i → (listed.setIfInBounds j true).getD k true = false →
          (∀ e ∈ ok.after, Region.binds md e = true → e.on ≠ i) → oi.apart ops ok = true := fun k ok hk hki hun hno => by
        refine hfree k ok hk hki ?_ hno
        by_cases hjk : j = k
        · subst hjk; exact hjun
        · rw [getD_set_ne true hjk] at hun; exact hun
      refine wpOp_mono (fun a' w' h3 => ⟨fun _ => h3.2.1 hjn, ih (listed.setIfInBounds j true) a' w' (inv.set hj hjn) hfree' (ready_mono hr (Ne.symm hji)) h3.1 (h3.2.1 hjn) ?_⟩) h2
      rw [Array.setIfInBounds_comm _ _ hji]
      exact h3.2.2
/-- The walk's goal: the order is sound so far. -/
def WpT (P : Program) (md : Region.Mode) (l : List Oper) (Q : Exit → Act → World → Prop) (n : Nat) (S : World → Prop) (fuel : Nat) (listed : Array Bool) (a : Act) (w : World) : Prop :=
  HeadInv md l.toArray n listed → wpAnyT P md l.toArray Q n S fuel listed a w
theorem at_drop {l : List Oper} {i : Nat} {o : Oper} {r : List Oper} (h : l.drop i = o :: r) : l.toArray[i]? = some o := by
  rw [List.getElem?_toArray]
  have := congrArg (·[0]?) h
  simpa using this
/-- Number i is taken first. -/
theorem wpT_take {l : List Oper} {fuel : Nat} {listed : Array Bool} {a : Act} {w : World} (i : Nat) {oi : Oper} {r : List Oper} {v : Value} (hi : l.drop i = oi :: r) (hs : Region.sinkB md l.toArray n = true) (hc : Region.chainB md l.toArray n = true)
    (hn : (decide (n < l.toArray.size) && decide (i < n) && Region.noSelect l.toArray && Region.free md l.toArray listed i && (Region.ready md l.toArray listed).contains i) = true)
    (hQ : ∀ c a w, Q (.panic c) (a.put oi.dst v) w → Q (.panic c) a w) (hw : Region.wanted oi (yielded l.toArray a.tmps) = true) (hy : ∀ w, S w → (execOp a.eval oi).run P w = .ok (.value v) w) (hS : S w) (L : Array Bool) (hL : listed.setIfInBounds i true = L)
    (h : WpT P md l Q n S fuel L (a.put oi.dst v) w) : WpT P md l Q n S (fuel + 1) listed a w := by
  subst hL
  simp only [Bool.and_eq_true, decide_eq_true_eq] at hn
  obtain ⟨⟨⟨⟨h1, h2⟩, h3⟩, h4⟩, h5⟩ := hn
  have h6 : i ∈ Region.ready md l.toArray listed := by simpa using h5
  exact fun inv => wpAnyT_first hs hc h1 h2 (at_drop hi) (Region.noSelect_spec h3) hQ fuel listed a w inv (Region.free_spec (at_drop hi) h4) h6 (.inl ⟨hw, hy⟩) hS (h (inv.set h6 h2))
/-- Number i alone may come up; it does something. -/
theorem wpT_one {l : List Oper} {fuel : Nat} {listed : Array Bool} {a : Act} {w : World} (i : Nat) {oi : Oper} {r : List Oper} (hi : l.drop i = oi :: r) (hin : i < n) (hr : Region.ready md l.toArray listed = [i]) (L : Array Bool) (hL : listed.setIfInBounds i true = L)
    (h : ∀ K' : Act → World → Prop, (∀ a w, S w → WpT P md l Q n S fuel L a w → K' a w) → if Region.wanted oi (yielded l.toArray a.tmps) = true then Oper.wp P oi a w K' Q else K' (a.put oi.dst undef) w) :
    WpT P md l Q n S (fuel + 1) listed a w := by
  subst hL
  intro inv
  refine ⟨fun e => (by rw [hr] at e; cases e), fun j hj => ?_⟩
  rw [hr] at hj
  obtain rfl := List.mem_singleton.1 hj
  refine wpOp_step (at_drop hi) (fun K' hK => h K' (fun a w hS hW => hK a w ⟨fun _ => hS, hW (inv.set (by rw [hr]; exact List.mem_singleton.2 rfl) hin)⟩))
/-- Number n, the last. -/
theorem wpT_last {l : List Oper} {fuel : Nat} {listed : Array Bool} {a : Act} {w : World} {on : Oper} {r : List Oper} (hi : l.drop n = on :: r) (hr : Region.ready md l.toArray listed = [n]) (hr2 : Region.ready md l.toArray (listed.setIfInBounds n true) = [])
    (h : ∀ K' : Act → World → Prop, (∀ a w, Q .normal a w → K' a w) → if Region.wanted on (yielded l.toArray a.tmps) = true then Oper.wp P on a w K' Q else K' (a.put on.dst undef) w) :
    WpT P md l Q n S (fuel + 1) listed a w := by
  intro inv
  refine ⟨fun e => (by rw [hr] at e; cases e), fun j hj => ?_⟩
  rw [hr] at hj
  obtain rfl := List.mem_singleton.1 hj
  refine wpOp_step (at_drop hi) (fun K' hK => h K' (fun a w hq => hK a w ⟨fun h => absurd h (Nat.lt_irrefl _), ?_⟩))
  cases fuel with
  | zero => exact ⟨hr2, hq⟩
  | succ f => exact ⟨fun _ => hq, by rw [hr2]; simp⟩
theorem wpT_start {l : List Oper} {id : Nat} {a : Act} {w : World} (n : Nat) (S : World → Prop) (hm : P.follows .mixedOrders = true) (k : Nat) (hk : l.toArray.size = k) (L : Array Bool) (hL : Array.replicate k false = L) (h : WpT P .any l Q n S k L a w.drew) : (Code.region id l.toArray true).wp P Q a w := by
  subst hL; subst hk
  exact
  wp_region_any hm (wpAny_of_T (n := n) (S := S) _ _ _ _ (h ⟨by simp, fun j oj _ hl => (by rw [getD_replicate_false] at hl; cases hl), fun t _ ht => (by simp at ht ⊢; simp [ht])⟩))
end
end Go.Proofs.YtjgaobkgmheocaaDoor
