/- line.Join, strings.Join. -/
import Derived.Test.YtjgaobkgmheocaaDoorTexts
import Derived.Lib.AppendStr
namespace Go.Proofs.YtjgaobkgmheocaaDoor
open Go Go.RowKit

theorem infoByte : (Tryd.prog.info? 5).map (fun i => (i.zero, i.size, i.bytes)) = some (some (.int .u8 0), 1, 1) := by kernel_rfl
def byteVals (l : List UInt8) : List Value := l.map fun b => Value.int .u8 b.toNat
theorem byteVals_length (l : List UInt8) : (byteVals l).length = l.length := by simp [byteVals]
theorem byteVals_append (a b : List UInt8) : byteVals (a ++ b) = byteVals a ++ byteVals b := by simp [byteVals]
theorem strCells_S (l : List UInt8) : Lib.strCells (S l) = byteVals l := by simp [Lib.strCells, byteVals, S]
theorem byteVals_get (l : List UInt8) (k : Nat) (h : k < l.length) : (byteVals l)[k]? = some (.int .u8 (l[k].toNat)) := by simp [byteVals, List.getElem?_eq_getElem h]
theorem BytesAt.of_row {w : World} {b0 : Nat} {v : Value} {l : List UInt8} (h : Row w b0 5 1 v l.length (byteVals l)) : BytesAt w v l := by
  obtain ⟨A, c, rfl, hc, hm⟩ := h.slice
  refine ⟨A, c, rfl, hc, by unfold maxLen at hm; omega, fun hl => ?_⟩
  obtain ⟨g, cap, hv, _, _, _, _, hce, _⟩ := h.at_ hl
  injection hv with hA _ _
  subst hA
  exact ⟨g, 0, rfl, fun k hk => by rw [Nat.zero_add]; exact hce k _ (byteVals_get l k hk)⟩
/-- Each text with an end. -/
def joinL (ls : List (List UInt8)) (e : List UInt8) : List UInt8 := ls.flatMap fun s => s ++ e
theorem joinL_snoc (ls : List (List UInt8)) (e : List UInt8) (k : Nat) (h : k < ls.length) : joinL (ls.take (k + 1)) e = joinL (ls.take k) e ++ ls[k] ++ e := by
  unfold joinL
  rw [List.take_succ_eq_append_getElem h]
  simp only [List.flatMap_append, List.flatMap_cons, List.flatMap_nil, List.append_nil, List.append_assoc]
theorem joinL_le (ls : List (List UInt8)) (e : List UInt8) (k : Nat) : (joinL (ls.take k) e).length ≤ (joinL ls e).length := by
  have : joinL ls e = joinL (ls.take k) e ++ joinL (ls.drop k) e := by
    unfold joinL
    rw [← List.flatMap_append, List.take_append_drop]
  rw [this, List.length_append]
  omega
theorem clip_bytes (w : World) (A : Option Addr) (n c : Nat) (hn : n ≤ c) (_hc : c ≤ maxLen) :
    Calls Tryd.prog 56 #[.slice A n c] w fun e w' => e = .returned (.slice A n n) ∧ w = w' := by
  unfold maxLen at _hc
  go_enter Tryd.func56, Tryd.ntmps56
  go_wp2
  go_ret
  exact ⟨rfl, rfl⟩
theorem strVals_get (ls : List (List UInt8)) (k : Nat) (h : k < ls.length) : (strVals ls)[k]? = some (.string (S ls[k])) := by simp [strVals, List.getElem?_eq_getElem h]
set_option maxRecDepth 100000 in
set_option maxHeartbeats 2000000 in
theorem join_any (b0 : Nat) (v : Value) (ls : List (List UInt8)) (e : List UInt8) (w : World) (hv : Row w b0 9 1 v ls.length (strVals ls)) (hl : (joinL ls e).length ≤ 140737488355328) :
    Calls Tryd.prog 35 #[v, .string (S e)] w fun en w' => ∃ v', en = .returned v' ∧ BytesAt w' v' (joinL ls e) ∧ Below w.heap.size w w' := by
  obtain ⟨A, c, rfl, hc, hm⟩ := hv.slice
  have HV := Lib.hid hv
  obtain ⟨i0, hi, hzz⟩ := Option.map_eq_some_iff.1 infoByte
  simp only [Prod.mk.injEq] at hzz
  obtain ⟨hz0, hz1, hz2⟩ := hzz
  have HI := Lib.hid (And.intro hi (And.intro hz0 (And.intro hz1 hz2)))
  unfold maxLen at hm
  clear hv hi hz0 hz1 hz2
  go_enter Tryd.func35, Tryd.ntmps35
  go_wp2
  go_loopw [5, 10] (fun o a wr => ∃ (k : Nat), a = .int .i64 (k : Int) ∧ k ≤ ls.length ∧ wr.ownsRow w.heap.size 5 1 o (joinL (ls.take k) e).length (byteVals (joinL (ls.take k) e)) ∧ Below w.heap.size w wr)
    (fun _ a _ => ls.length - (intOf a).toNat)
  case atStart => exact ⟨0, rfl, by omega, World.ownsRow_nil _ _ _ _, Below.refl _ _⟩
  case round =>
    obtain ⟨k, rfl, hk, hown, hbel⟩ := hrel
    have hbs := hbel.size
    have HOWN := Lib.hid hown
    have HBEL := Lib.hid hbel
    clear hown hbel
    by_cases hlt : k < ls.length
    · obtain ⟨g1, cap1, hv1, hg1, hg2, hcc, hcm, hce, hfr⟩ := HV.out.at_ (by omega)
      injection hv1 with hA1 _ hc1'
      subst hA1 hc1'
      have hd0 := (HBEL.out.cell (p := ⟨g1, k, none⟩) hg2).trans (hce _ _ (strVals_get ls k hlt))
      have h1 := joinL_le ls e (k + 1)
      have hsn := joinL_snoc ls e k hlt
      have hsl := congrArg List.length hsn
      simp only [List.length_append] at hsl
      have HSN := Lib.hid hsn
      have hs1 := S_size ls[k]
      have hs2 := S_size e
      have ha1 : (joinL (ls.take k) e).length + (S ls[k]).size ≤ 140737488355328 := by rw [hs1]; omega
      have ha2 : (joinL (ls.take k) e).length + (S ls[k]).size + (S e).size ≤ 140737488355328 := by rw [hs1, hs2]; omega
      have hm1 : (joinL (ls.take k) e).length + (S ls[k]).size ≤ maxLen := by unfold maxLen; omega
      have hm2 : (joinL (ls.take k) e).length + (S ls[k]).size + (S e).size ≤ maxLen := by unfold maxLen; omega
      have HA := Lib.hid (And.intro ha1 ha2)
      have HM := Lib.hid (And.intro hm1 hm2)
      clear hm1 hm2
      have HSL := Lib.hid hsl
      clear hce hfr hsn hsl ha1 ha2 hs1 hs2 h1
      obtain ⟨wo, rfl⟩ : ∃ wo : World, wo = wr := ⟨_, rfl⟩
      go_wp2_with (first | (at_builtin; refine Lib.wpList_append_own_string _ (by rfl) (.tmp 14) (.tmp 15) 23 9 (by rfl) w.heap.size 5 i0 Tryd.underlying23 Tryd.underlying9 HI.out.1 HI.out.2.1 HI.out.2.2.1 HI.out.2.2.2 _ _ _ (by rfl) HOWN.out (S ls[k]) (by rfl) HM.out.1 HA.out.1 hbs ?_; intro v1 w1 hown1 hg1 _; have HOWN1 := Lib.hid hown1; have HG1 := Lib.hid hg1; clear hown1 hg1) | (at_builtin; refine Lib.wpList_append_own_string _ (by rfl) (.tmp 16) (.tmp 17) 23 9 (by rfl) w.heap.size 5 i0 Tryd.underlying23 Tryd.underlying9 HI.out.1 HI.out.2.1 HI.out.2.2.1 HI.out.2.2.2 _ _ _ (by rfl) HOWN1.out (S e) (by rfl) HM.out.2 HA.out.2 (Nat.le_trans hbs HG1.out.size) ?_; intro v2 w2 hown2 hg2' _))
      have HOWN2 := Lib.hid hown2
      have HB2 := Lib.hid (((HBEL.out.grown HG1.out hbs (fun k hk => (HOWN.out.lt k hk).1)).grown hg2' (Nat.le_trans hbs HG1.out.size) (fun k hk => (HOWN1.out.lt k hk).1)))
      clear hown2 hg2'
      go_wp2
      go_roundw
      case rel =>
        refine ⟨k + 1, by go_num, by omega, ?_, HB2.out⟩
        have h := HOWN2.out
        rw [strCells_S, strCells_S, S_size, S_size, ← byteVals_append, ← byteVals_append, ← HSN.out, ← HSL.out] at h
        exact h
      case measure => simp [intOf]; omega
    · obtain rfl : k = ls.length := by omega
      have hrow := Row.of_own HOWN.out
      rw [List.take_length] at hrow
      obtain ⟨A', c', rfl, hc', hm'⟩ := hrow.slice
      have HROW := Lib.hid hrow
      clear hrow
      go_wp2_with (go_at_call 56; refine (clip_bytes _ _ _ _ hc' hm').mono ?_; rintro e w' ⟨rfl, rfl⟩)
      go_ret
      exact ⟨_, rfl, BytesAt.of_row (HROW.out.clip rfl), HBEL.out⟩
/-- strings.Join over a list of one's own. -/
theorem sjoin_any (b0 : Nat) (v : Value) (ls : List (List UInt8)) (sep : List UInt8) (w : World) (hv : Row w b0 9 1 v ls.length (strVals ls)) (hl : (Lib.join ls sep).length ≤ 140737488355328) (hn : ls.length ≤ 140737488355328) :
    Calls Tryd.prog 34 #[v, .string (S sep)] w fun en w' => en = .returned (.string (S (Lib.join ls sep))) ∧ Below w.heap.size w w' := by
  cases ls with
  | nil =>
    obtain ⟨A, c, rfl, hc, hm⟩ := hv.slice
    refine (Tryd.strings_Join_none A c (S sep) w).mono ?_
    rintro e w' ⟨rfl, rfl⟩
    exact ⟨rfl, Below.refl _ _⟩
  | cons x r =>
    obtain ⟨g, cap, rfl, hg1, hg2, hcc, hcm, hce, hfr⟩ := hv.at_ (by simp)
    have hmap : ((x :: r).map S).map (fun s => s.data.toList) = x :: r := by rw [List.map_map]; exact (List.map_congr_left fun a _ => S_list a).trans (List.map_id _)
    have h := Tryd.strings_Join g 0 cap ((x :: r).map S) (S sep) w (fun j y hy => by
      rw [List.getElem?_map] at hy
      obtain ⟨z, hz, rfl⟩ := Option.map_eq_some_iff.1 hy
      rw [Nat.zero_add]
      exact hce j _ (by simp only [strVals, List.getElem?_map, hz]; rfl)) hg2 (by rw [List.length_map]; omega) (by rw [List.length_map]; exact hcc) (by rw [hmap, S_list]; exact hl)
    rw [hmap, S_list, List.length_map] at h
    exact h
end Go.Proofs.YtjgaobkgmheocaaDoor
