/- block.parser.item: all of it. -/
import Derived.Test.YtjgaobkgmheocaaDoorItemd
namespace Go.Proofs.YtjgaobkgmheocaaDoor
open Go Go.RowKit

theorem pitem_any {w : World} {base p : Nat} {ad : Nat → Nat} {own : Nat → Role} {KP : Nat → Option Obj} {st : PS} (H : Holds KP w base p ad own st) (wf : Wf st) (sign : UInt8) (inn : Nat)
    (hkl : ∀ i, (st.nd i).kids.length < 1000000000) (hrl : st.row.length ≤ 1000000000) :
    Calls Tryd.prog 46 #[ptr p, .int .u8 sign.toNat, .int .i64 inn] w fun e w' => e = .returned (.tuple #[]) ∧ (∃ ad' own', (∀ i, i < st.nodes.length → ad' i = ad i) ∧ Holds KP w' base p ad' own' (itemS st sign inn)) ∧ Below base w w' := by
  rcases Nat.eq_zero_or_pos (st.nd (inId st st.row.length)).kids.length with h0 | h0
  · have e : itemS st sign inn = putItem (addS (newS st (listNd sign)) st.nodes.length) st.nodes.length inn := by
      unfold itemS sameList
      dsimp only
      rw [List.length_eq_zero_iff.1 h0]
      rfl
    rw [e]
    exact item_none H wf sign inn h0 hkl hrl
  · obtain ⟨n, hn⟩ : ∃ n, (st.nd (inId st st.row.length)).kids.length = n + 1 := ⟨_, (Nat.succ_pred_eq_of_pos h0).symm⟩
    have hne : (st.nd (inId st st.row.length)).kids ≠ [] := by intro h; rw [h] at hn; cases hn
    have hk := (List.dropLast_concat_getLast hne).symm
    generalize (st.nd (inId st st.row.length)).kids.getLast hne = j at hk
    generalize (st.nd (inId st st.row.length)).kids.dropLast = ks at hk
    have hlast : (st.nd (inId st st.row.length)).kids.getLast? = some j := by rw [hk]; simp
    have hget : (st.nd (inId st st.row.length)).kids[n]? = some j := by
      rw [hk] at hn ⊢
      obtain rfl : ks.length = n := by simpa using hn
      simp
    have hs : sameList st (inId st st.row.length) sign = ((st.nd j).kind == 2 && (st.nd j).sign == sign) := by unfold sameList; rw [hlast]
    by_cases h2 : (st.nd j).kind = 2
    · by_cases h3 : (st.nd j).sign = sign
      · have e : itemS st sign inn = putItem st j inn := by
          unfold itemS
          simp only [hs, h2, h3, hlast]
          simp
        rw [e]
        exact item_same H wf sign inn ks j hk h2 h3 (fun i => Nat.le_of_lt (hkl i)) hrl
      · have e : itemS st sign inn = putItem (addS (newS st (listNd sign)) st.nodes.length) st.nodes.length inn := by
          unfold itemS
          simp only [hs, h2]
          simp [h3]
        rw [e]
        exact item_sign H wf sign inn hn hget h2 h3 hkl hrl
    · have e : itemS st sign inn = putItem (addS (newS st (listNd sign)) st.nodes.length) st.nodes.length inn := by
        unfold itemS
        simp only [hs]
        simp [h2]
      rw [e]
      exact item_kind H wf sign inn hn hget (by exact_mod_cast h2) hkl hrl
end Go.Proofs.YtjgaobkgmheocaaDoor
