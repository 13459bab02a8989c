/- block.parser's small methods: in, shut, add. -/
import Derived.Test.YtjgaobkgmheocaaDoorNode
namespace Go.Proofs.YtjgaobkgmheocaaDoor
open Go Go.RowKit

theorem Blk.at_ {w : World} {b : Nat} {cs : Array Value} {t : TypeId} (h : Blk w b cs t) (j : Nat) (v : Value) (hv : cs[j]? = some v) : w.cell? ⟨b, j, none⟩ = some v := by rw [h.cell, hv]
def inId (st : PS) (k : Nat) : Nat := if k = 0 then 0 else st.row.getD (k - 1) 0
set_option maxRecDepth 100000 in
theorem in_any {w : World} {base p : Nat} {ad : Nat → Nat} {own : Nat → Role} {KP : Nat → Option Obj} {st : PS} (H : Holds KP w base p ad own st) (k : Nat) (hk : k ≤ st.row.length) :
    Calls Tryd.prog 61 #[ptr p, .int .i64 k] w fun e w' => e = .returned (ptr (ad (inId st k))) ∧ w = w' := by
  obtain ⟨vr, hb, hr, ho⟩ := H.prs
  have hc0 := hb.at_ 0 _ rfl
  have hc1 := hb.at_ 1 _ rfl
  unfold ptr at *
  by_cases h0 : k = 0
  · subst h0
    clear hr
    go_enter Tryd.func61, Tryd.ntmps61
    go_wp2
    go_ret
    exact ⟨rfl, rfl⟩
  · obtain ⟨g, cap, rfl, hg1, hg2, hcc, hcm, hce, _⟩ := hr.at_ (by omega)
    have hx := hce (k - 1) _ (ptrs_get ad st.row (k - 1) (by omega))
    have hres : inId st k = st.row[k - 1]'(by omega) := by unfold inId; rw [if_neg h0]; simp [List.getD_eq_getElem?_getD, List.getElem?_eq_getElem (show k - 1 < st.row.length by omega)]
    have HRES := Lib.hid hres
    obtain ⟨k, rfl⟩ : ∃ m, k = m + 1 := ⟨k - 1, by omega⟩
    simp only [Nat.add_sub_cancel] at hx
    unfold ptr at hx
    have hlen : (k : Int) < (st.row.length : Int) := by omega
    have h0' : (((k : Int) + 1) == 0) = false := by rw [beq_eq_false_iff_ne]; omega
    unfold maxLen at hcm
    clear hr ho hce hres
    go_enter Tryd.func61, Tryd.ntmps61
    go_wp2
    go_ret
    exact ⟨by rw [HRES.out]; rfl, rfl⟩
theorem clip_nodes (w : World) (A : Option Addr) (n c : Nat) (hn : n ≤ c) (hc : c ≤ maxLen) :
    Calls Tryd.prog 47 #[.slice A n c] w fun e w' => e = .returned (.slice A n n) ∧ w = w' := by
  unfold maxLen at hc
  go_enter Tryd.func47, Tryd.ntmps47
  go_wp2
  go_ret
  exact ⟨rfl, rfl⟩
def shutS (st : PS) (k : Nat) : PS := { st with row := st.row.take k, leaf := if k < st.row.length then none else st.leaf }
theorem Row.take {w : World} {base : Nat} {e : TypeId} {sz n : Nat} {v : Value} {xs : List Value} (h : Row w base e sz v n xs) {A : Option Addr} {c : Nat} (hv : v = .slice A n c) (k : Nat) (hk : k ≤ n) : Row w base e sz (.slice A k k) k (xs.take (k * sz)) := by
  refine ⟨by rw [List.length_take, h.1]; exact Nat.min_eq_left (Nat.mul_le_mul_right _ hk), ?_⟩
  rcases h.2 with ⟨rfl, rfl⟩ | ⟨g, cap, cur, rfl, h2, h3, h4, h5, h6, h7⟩
  · injection hv with h1 h2 h3
    subst h1
    obtain rfl : k = 0 := by omega
    exact .inl ⟨rfl, rfl⟩
  · injection hv with h1' h2' h3'
    subst h1' h3'
    refine .inr ⟨g, k, cur, rfl, h2, h3, Nat.le_refl _, by omega, Nat.le_trans (Nat.mul_le_mul_right _ (Nat.le_trans hk h4)) h6, ?_⟩
    rw [← h7, List.take_take]
    congr 1
    exact (Nat.min_eq_left (Nat.mul_le_mul_right _ hk)).symm
set_option maxRecDepth 100000 in
theorem shut_full {w : World} {base p : Nat} {ad : Nat → Nat} {own : Nat → Role} {KP : Nat → Option Obj} {st : PS} (H : Holds KP w base p ad own st) (k : Nat) (hk : k ≤ st.row.length) :
    Calls Tryd.prog 29 #[ptr p, .int .i64 k] w fun e w' => e = .returned (.tuple #[]) ∧ Holds KP w' base p ad own (shutS st k) ∧ Below base w w' ∧ ∀ j, j ≠ p → w'.heap[j]? = w.heap[j]? := by
  obtain ⟨vr, hb, hr, ho⟩ := H.prs
  obtain ⟨A, c, rfl, hc, hm⟩ := hr.slice
  have hc1 := hb.at_ 1 _ rfl
  have hc2 := hb.at_ 2 _ rfl
  have hf1 := hb.free 1
  have hf2 := hb.free 2
  have hrt := hr.take rfl k hk
  have HR := Lib.hid hrt
  have HB := Lib.hid hb
  have HO := Lib.hid ho
  have hkc : k ≤ c := by omega
  have hm' : k ≤ maxLen := by omega
  have hmc := hm
  unfold maxLen at hmc
  unfold ptr at *
  clear hr hrt hb ho
  have hne : ∀ g, (Value.slice A k k).ownBlock = some g → g ≠ p := fun g hg => role_ne (HO.out g (by cases A <;> first | (simp [Value.ownBlock] at hg; done) | simpa [Value.ownBlock] using hg)) H.own_p (by nofun)
  have hbase : ∀ j, base ≤ (⟨p, j, none⟩ : Addr).block := fun _ => H.bp
  by_cases hlt : k < st.row.length
  · have hst : shutS st k = { st with row := st.row.take k, leaf := none } := by unfold shutS; rw [if_pos hlt]
    have HST := Lib.hid hst
    clear hst
    go_enter Tryd.func29, Tryd.ntmps29
    go_wp2_with (go_at_call 47; refine (clip_nodes _ _ _ _ hkc hm).mono ?_; rintro e w' ⟨rfl, rfl⟩)
    go_end0
    refine ⟨rfl, ?_, ((Below.refl _ _).setCell H.bp _).setCell H.bp _, fun j hj => (Below.heap_setCell _ _ _ _ hj).trans (Below.heap_setCell _ _ _ _ hj)⟩
    rw [HST.out]
    refine H.parser (line' := st.line) ⟨_, Blk.cast ((HB.out.set 2 _).set 1 _) rfl, ?_, fun g hg => HO.out g (by cases A <;> first | (simp [Value.ownBlock] at hg; done) | simpa [Value.ownBlock] using hg)⟩ (fun g hg ho hp hr => ?_)
    · have h := ((HR.out.set (p := ⟨p, 2, none⟩) hne (.pointer none)).set (p := ⟨p, 1, none⟩) hne (.slice A k k))
      have e1 : (st.row.take k).length = k := by rw [List.length_take]; omega
      have e2 : ptrs ad (st.row.take k) = (ptrs ad st.row).take (k * 1) := by unfold ptrs; rw [Nat.mul_one, List.map_take]
      rw [e1, e2]
      exact h
    · rw [Below.heap_setCell _ _ _ _ (role_ne rfl H.own_p hp), Below.heap_setCell _ _ _ _ (role_ne rfl H.own_p hp)]
  · have hst : shutS st k = { st with row := st.row.take k, leaf := st.leaf } := by unfold shutS; rw [if_neg hlt]
    have HST := Lib.hid hst
    clear hst
    go_enter Tryd.func29, Tryd.ntmps29
    go_wp2_with (go_at_call 47; refine (clip_nodes _ _ _ _ hkc hm).mono ?_; rintro e w' ⟨rfl, rfl⟩)
    go_end0
    refine ⟨rfl, ?_, ((Below.refl _ _).setCell H.bp _), fun j hj => Below.heap_setCell _ _ _ _ hj⟩
    rw [HST.out]
    refine H.parser (line' := st.line) ⟨_, Blk.cast (HB.out.set 1 _) rfl, ?_, fun g hg => HO.out g (by cases A <;> first | (simp [Value.ownBlock] at hg; done) | simpa [Value.ownBlock] using hg)⟩ (fun g hg ho hp hr => ?_)
    · have h := HR.out.set (p := ⟨p, 1, none⟩) hne (.slice A k k)
      have e1 : (st.row.take k).length = k := by rw [List.length_take]; omega
      have e2 : ptrs ad (st.row.take k) = (ptrs ad st.row).take (k * 1) := by unfold ptrs; rw [Nat.mul_one, List.map_take]
      rw [e1, e2]
      exact h
    · rw [Below.heap_setCell _ _ _ _ (role_ne rfl H.own_p hp)]
theorem shut_any {w : World} {base p : Nat} {ad : Nat → Nat} {own : Nat → Role} {KP : Nat → Option Obj} {st : PS} (H : Holds KP w base p ad own st) (k : Nat) (hk : k ≤ st.row.length) :
    Calls Tryd.prog 29 #[ptr p, .int .i64 k] w fun e w' => e = .returned (.tuple #[]) ∧ Holds KP w' base p ad own (shutS st k) ∧ Below base w w' :=
  (shut_full H k hk).mono fun _ _ h => ⟨h.1, h.2.1, h.2.2.1⟩
end Go.Proofs.YtjgaobkgmheocaaDoor
