/- block.Fences: lemmas on what is kept, on the last place. -/
import Derived.Test.YtjgaobkgmheocaaDoorFences
import Derived.LaidEqlPtr
import Derived.Lib.Builder
namespace Go.Proofs.YtjgaobkgmheocaaDoor
open Go Go.RowKit

theorem run_neq_ptr_two {P : Program} (w : World) {tp te : TypeId} {j : TypeInfo} {a b : Addr} {ca cb : Array Value} {ta tb : TypeId} (hp : P.underlying tp = some (.pointer te)) (hte : P.info? te = some j) (hsz : j.size ≠ 0)
    (hne : a ≠ b) (ha : w.heap[a.block]? = some (.cells ca ta (0, 0))) (hb : w.heap[b.block]? = some (.cells cb tb (0, 0))) :
    (binOp .neq tp (.pointer (some a)) (.pointer (some b))).run P w = .ok (.bool true) w := by
  have h : ∀ d : Nat, (Op.equalIn (d + 1) tp (.pointer (some a)) (.pointer (some b))).run P w = .ok false w := fun d => by
    simp [Op.equalIn, run_underlying hp, sizeOf, typeInfo, hte, hsz, run_sameAddr_other w hne ha hb]
  simp only [binOp]
  simp [Op.equal, Op.maxDepth, h 9999]
/-- Pointers to two nodes; to one. -/
theorem node_neq {w : World} {x y : Nat} {cx cy : Array Value} (hx : Blk w x cx 54) (hy : Blk w y cy 54) (h : x ≠ y) : (binOp .neq 51 (.pointer (some ⟨x, 0, none⟩)) (.pointer (some ⟨y, 0, none⟩))).run Tryd.prog w = .ok (.bool true) w := by
  obtain ⟨i, hi⟩ : ∃ i, Tryd.prog.info? 54 = some i ∧ i.size = 14 := by
    obtain ⟨i, h1, h2⟩ := Option.map_eq_some_iff.1 (show (Tryd.prog.info? 54).map (·.size) = some 14 by kernel_rfl)
    exact ⟨i, h1, h2⟩
  exact run_neq_ptr_two w Tryd.underlying51 hi.1 (by rw [hi.2]; decide) (fun e => h (by injection e)) hx hy
theorem node_same (w : World) (x : Nat) : (binOp .neq 51 (.pointer (some ⟨x, 0, none⟩)) (.pointer (some ⟨x, 0, none⟩))).run Tryd.prog w = .ok (.bool false) w := by
  obtain ⟨i, h1, _⟩ := Option.map_eq_some_iff.1 (show (Tryd.prog.info? 54).map (·.size) = some 14 by kernel_rfl)
  exact Lib.run_neq_ptr_same w _ Tryd.underlying51 h1
/-- A cell of a row is written. -/
theorem Row.put {w : World} {b : Nat} {e : TypeId} {sz n c g : Nat} {xs : List Value} (h : Row w b e sz (.slice (some ⟨g, 0, none⟩) n c) n xs) (j : Nat) (u : Value) : Row (w.setCell ⟨g, j, none⟩ u) b e sz (.slice (some ⟨g, 0, none⟩) n c) n (xs.set j u) := by
  refine ⟨by rw [List.length_set]; exact h.1, ?_⟩
  rcases h.2 with ⟨h1, h2⟩ | ⟨g', cap, cur, hv, h2, h3, h4, h5, h6, h7⟩
  · cases h1
  · injection hv with hA _ hC
    injection hA with hA
    injection hA with hA _ _
    subst hA hC
    refine .inr ⟨g, c, cur.setIfInBounds j u, rfl, h2, h3.set j u, h4, h5, by rw [Array.size_setIfInBounds]; exact h6, ?_⟩
    rw [Array.toList_setIfInBounds, ← h7, List.take_set]
theorem closeL_vals (i : Nat) (F : List FP) (h : 0 < F.length) : placeVals (closeL i F) = ((placeVals F).set ((F.length - 1) * 8 + 6) (.int .i64 i)).set ((F.length - 1) * 8 + 7) (.bool true) := by
  obtain ⟨A, q, rfl⟩ : ∃ A q, F = A ++ [q] := ⟨F.dropLast, F.getLast (by intro e; subst e; exact absurd h (Nat.lt_irrefl 0)), (List.dropLast_concat_getLast _).symm⟩
  have hl : (A ++ [q]).length - 1 = A.length := by simp
  have hg : (A ++ [q]).getD A.length ⟨0, FO.zero, 0, 0, false⟩ = q := by simp [List.getD_eq_getElem?_getD]
  unfold closeL
  rw [hl, hg, List.set_append_right _ _ (Nat.le_refl _), Nat.sub_self, List.set_cons_zero, placeVals_append, placeVals_append]
  have hA := placeVals_length A
  have hq : placeVals [q] = q.cells := by unfold placeVals; simp
  rw [List.set_append_right _ _ (by omega), List.set_append_right _ _ (by omega), hA, show A.length * 8 + 6 - A.length * 8 = 6 by omega, show A.length * 8 + 7 - A.length * 8 = 7 by omega, hq]
  simp [placeVals, FP.cells]
section
variable {w2 wo wn w' : World} {base p b0 b1 : Nat} {ad : Nat → Nat} {own : Nat → Role} {st : PS} {tv o o' : Value} {n m : Nat} {xs ys : List Value} {e1 e2 : TypeId} {s1 s2 : Nat}
/-- What is kept has turned, by ourselves. -/
theorem fk_turn (h : Holds (KPo w2 tv wo o) wn base p ad own st) (ho : Row wo b1 e2 s2 o m ys) (hto : ∀ k, tv.ownBlock = some k → o.ownBlock ≠ some k)
    (hm : ∀ k, k < wn.heap.size → o.ownBlock ≠ some k → w'.heap[k]? = wn.heap[k]?) (hat : o'.ownBlock = o.ownBlock ∨ ∃ g, o'.ownBlock = some g ∧ wn.heap.size ≤ g) : ∃ own', Holds (KPo w2 tv w' o') w' base p ad own' st := by
  have hsome : ∀ k, o.ownBlock = some k → (KPo w2 tv wo o k).isSome = true := by
    intro k hk
    unfold KPo
    rw [if_neg (fun e => hto k e hk), if_pos hk, Array.getElem?_eq_getElem (ho.blk k hk).2.1]
    rfl
  have htv : ∀ k, tv.ownBlock = some k → KPo w2 tv wo o k = w2.heap[k]? := fun k hk => if_pos hk
  refine h.rekeep (fun k hk hn => hm k hk (fun e => by have := hsome k e; rw [hn] at this; cases this)) (fun k ob hk => ?_)
  unfold KPo at hk
  split at hk
  · rename_i he
    have h1 := h.kept k ob (by rw [htv k he]; exact hk)
    exact ⟨(hm k (lt_of_obj h1.1) (hto k he)).trans h1.1, .inl (by rw [htv k he, hk]; rfl)⟩
  · split at hk
    · rename_i he
      refine ⟨hk, ?_⟩
      rcases hat with h2 | ⟨g, h2, h3⟩
      · exact .inl (hsome k (by rw [← h2]; exact he))
      · rw [h2] at he
        injection he with he
        exact .inr (by omega)
    · cases hk
theorem fk_same (h : Holds (KPo w2 tv wo o) wn base p ad own st) (ho : Row wo b1 e2 s2 o m ys) (hto : ∀ k, tv.ownBlock = some k → o.ownBlock ≠ some k) : ∃ own', Holds (KPo w2 tv wn o) wn base p ad own' st :=
  fk_turn h ho hto (fun _ _ _ => rfl) (.inl rfl)
theorem fk_row (h : Holds (KPo w2 tv wo o) wn base p ad own st) (ho : Row wo b1 e2 s2 o m ys) (hto : ∀ k, tv.ownBlock = some k → o.ownBlock ≠ some k) : Row wn b1 e2 s2 o m ys :=
  h.row ho fun k hk => by unfold KPo; rw [if_neg (fun e => hto k e hk), if_pos hk]
theorem fk_texts (h : Holds (KPo w2 tv wo o) wn base p ad own st) (ht : Row w2 b0 e1 s1 tv n xs) : Row wn b0 e1 s1 tv n xs := h.row ht fun _ hk => if_pos hk
end
theorem clip_places (w : World) (A : Option Addr) (n c : Nat) (hn : n ≤ c) (_hc : c ≤ maxLen) :
    Calls Tryd.prog 19 #[.slice A n c] w fun e w' => e = .returned (.slice A n n) ∧ w = w' := by
  unfold maxLen at _hc
  go_enter Tryd.func19, Tryd.ntmps19
  go_wp2
  go_ret
  exact ⟨rfl, rfl⟩
theorem infoPlace : (Tryd.prog.info? 39).map (fun i => (i.zero, i.size, i.bytes)) = some (some (.agg #[.int .i64 0, .int .u8 0, .int .i64 0, .int .i64 0, .string ⟨#[]⟩, .int .i64 0, .int .i64 0, .bool false]), 8, 72) := by kernel_rfl
end Go.Proofs.YtjgaobkgmheocaaDoor
