/- Contracts of package fence, whole. -/
import Derived.Test.YtjgaobkgmheocaaDoorFence
namespace Go.Proofs.YtjgaobkgmheocaaDoor
open Go Go.RowKit

theorem ne_lit (c : UInt8) (n : Nat) (h : n < 256) : ((c.toNat : Int) != (n : Int)) = (c != UInt8.ofNat n) := by
  unfold bne
  rw [byte_eq c n h]
theorem begins_any (l : List UInt8) (w : World) (hl : l.length ≤ 140737488355328) :
    Calls Tryd.prog 50 #[.string (S l)] w fun e w' => e = .returned (beginVal (begins l)) ∧ Below w.heap.size w w' := by
  have hle : (indent l).2 ≤ l.length := (indentF_le l 0).1
  by_cases hkl : (indent l).2 < l.length
  · have hdr := drop_cons hkl
    by_cases hb : 3 < (indent l).1 ∨ (l[(indent l).2] ≠ 96 ∧ l[(indent l).2] ≠ 126)
    · have hT : begins l = none := by unfold begins; rw [hdr]; simp only [beginsT]; rw [if_pos hb]
      rw [hT]
      refine begins_none l w hl (l[(indent l).2]) (fun _ => rfl) ?_
      rcases hb with h | ⟨h, h'⟩
      · exact .inl h
      · refine .inr (.inr ⟨?_, ?_⟩)
        · rw [show ((l[(indent l).2].toNat : Int) != 96) = (l[(indent l).2] != 96) from ne_lit _ 96 (by omega)]
          simpa using h
        · rw [show ((l[(indent l).2].toNat : Int) != 126) = (l[(indent l).2] != 126) from ne_lit _ 126 (by omega)]
          simpa using h'
    · have hcol : (indent l).1 ≤ 3 := by
        have : ¬ 3 < (indent l).1 := fun h => hb (.inl h)
        omega
      have hck : l[(indent l).2] = 96 ∨ l[(indent l).2] = 126 := by
        by_cases h1 : l[(indent l).2] = 96
        · exact .inl h1
        · by_cases h2 : l[(indent l).2] = 126
          · exact .inr h2
          · exact absurd (.inr ⟨h1, h2⟩) hb
      have hT : begins l = beginRes l[(indent l).2] (runL l[(indent l).2] (l.drop (indent l).2)) (indent l).1 (trim (l.drop ((indent l).2 + runL l[(indent l).2] (l.drop (indent l).2)))) := by
        unfold begins
        rw [← List.drop_drop, hdr]
        simp only [beginsT]
        rw [if_neg hb]
        rfl
      rw [hT]
      exact begins_some l w hl _ _ _ _ _ hkl rfl hcol hck (fun w => indent_any l w hl) rfl rfl
  · have hT : begins l = none := by unfold begins; rw [List.drop_eq_nil_of_le (by omega)]; rfl
    rw [hT]
    exact begins_none l w hl 0 (fun h => absurd h hkl) (.inr (.inl (by omega)))
set_option maxRecDepth 100000 in
set_option maxHeartbeats 1000000 in
theorem ends_any (f : FO) (l : List UInt8) (w : World) (hl : l.length ≤ 140737488355328) :
    Calls Tryd.prog 25 #[f.val, .string (S l)] w fun e w' => e = .returned (.bool (ends f l)) ∧ Below w.heap.size w w' := by
  have hts := S_size l
  have hle : (indent l).2 ≤ l.length := (indentF_le l 0).1
  have ind := fun w => indent_any l w hl
  have hE : ends f l = endsT f (indent l).1 (l.drop (indent l).2) := rfl
  rw [hE]
  clear hE
  generalize (indent l).2 = k at *
  generalize (indent l).1 = col at *
  have hNl := runL_le f.char (l.drop k)
  rw [List.length_drop] at hNl
  have run := fun w => run_any (l.drop k) f.char w (drop_len hl)
  obtain ⟨N, hN⟩ : ∃ N, N = runL f.char (l.drop k) := ⟨_, rfl⟩
  have hres : endsT f col (l.drop k) = (decide (col ≤ 3) && decide (0 < f.count) && decide (f.count ≤ N) && empty (l.drop (k + N))) := by
    unfold endsT
    rw [← hN, List.drop_drop]
  rw [← hN] at run hNl
  have RES := Lib.hid hres
  have IND := Lib.hid ind
  have RUN := Lib.hid run
  clear ind run hres hN
  have hx : (S l).extract k l.length = S (l.drop k) := by rw [S_extract, List.take_length]
  have hx2 : (S l).extract (k + N) l.length = S (l.drop (k + N)) := by rw [S_extract, List.take_length]
  have hki : (k : Int) ≤ (l.length : Int) := by omega
  have hkn : ((k : Int) + (N : Int)) ≤ (l.length : Int) := by omega
  have hkt : ((k : Int) + (N : Int)).toNat = k + N := by omega
  obtain ⟨fc, fn, fi, ft⟩ := f
  unfold FO.val
  dsimp only at *
  go_enter Tryd.func25, Tryd.ntmps25
  go_wp2_with (go_at_call 39; refine (IND.out _).mono ?_; rintro e w' ⟨rfl, rfl⟩)
  go_region_held3 (fun w' => w'.cell? ⟨w.heap.size, 0, none⟩ = some (.int .u8 fc.toNat)) (go_keep) (first | (go_at_call 40; refine (RUN.out _).mono ?_; rintro e w' ⟨rfl, rfl⟩))
  go_wp2_with (go_at_call 28; refine (empty_any _ _ (drop_len hl)).mono ?_; rintro e w' ⟨rfl, rfl⟩)
  all_goals
    go_ret
    refine ⟨?_, ((Below.refl _ _).alloc (Nat.le_refl _) _).drew⟩
    rw [RES.out]
    by_cases hc : col ≤ 3 <;> by_cases h2 : 0 < fn <;> by_cases h3 : fn ≤ N <;> first | omega | simp [hc, h2, h3]
end Go.Proofs.YtjgaobkgmheocaaDoor
