/- Contracts of packages fence and leaf: headings, whole; fences. -/
import Derived.Test.YtjgaobkgmheocaaDoorLeafc
namespace Go.Proofs.YtjgaobkgmheocaaDoor
open Go Go.RowKit

theorem heading_core (l t : List UInt8) (col : Nat) (w : World) (HI : Inside l col t w) (hl : t.length ≤ 140737488355328) :
    Calls Tryd.prog 48 #[.string (S l)] w fun e w' => e = .returned (headVal (headingT col t)) ∧ Below w.heap.size w w' := by
  obtain ⟨d, hd, hd5⟩ : ∃ d : UInt8, (∀ h : runL 35 t < t.length, t[runL 35 t] = d) ∧ d ≠ 35 := by
    by_cases h : runL 35 t < t.length
    · exact ⟨t[runL 35 t], fun _ => rfl, runL_end 35 t h⟩
    · exact ⟨0, fun h' => absurd h' h, by decide⟩
  have hN := runL_le 35 t
  have hpre := runL_pre 35 t
  have hbd : headBad (t.drop (runL 35 t)) = true ↔ (runL 35 t < t.length ∧ Lib.indexByte [32, 9] d < 0) := by
    rw [headBad_at, indexByte_white]
    constructor
    · rintro ⟨h, hw⟩
      exact ⟨h, by rw [← hd h]; exact hw⟩
    · rintro ⟨h, hw⟩
      exact ⟨h, by rw [hd h]; exact hw⟩
  by_cases hbad : 3 < col ∨ runL 35 t < 1 ∨ 6 < runL 35 t ∨ headBad (t.drop (runL 35 t)) = true
  · have hT : headingT col t = none := if_pos hbad
    rw [hT]
    rw [hbd] at hbad
    exact heading_none l t col _ d w HI hl hN hpre hd hd5 hbad
  · have hT : headingT col t = some (runL 35 t, headCut (trim (t.drop (runL 35 t)))) := if_neg hbad
    rw [hT]
    rw [hbd] at hbad
    have h1 : ¬ 3 < col := fun h => hbad (.inl h)
    have h2 : ¬ runL 35 t < 1 := fun h => hbad (.inr (.inl h))
    have h3 : ¬ 6 < runL 35 t := fun h => hbad (.inr (.inr (.inl h)))
    have h4 : runL 35 t < t.length → ¬ Lib.indexByte [32, 9] d < 0 := fun h h' => hbad (.inr (.inr (.inr ⟨h, h'⟩)))
    generalize ht2 : trim (t.drop (runL 35 t)) = t2
    rcases List.eq_nil_or_concat (trimHash t2) with hu | ⟨v, x, hu⟩
    · have hc : headCut t2 = trimR [] := by unfold headCut; rw [hu]; rfl
      rw [hc]
      exact heading_a l t col _ d w HI hl hN hpre hd hd5 (by omega) (by omega) (by omega) h4 t2 ht2 hu
    · by_cases hxw : Lib.indexByte [32, 9] x < 0
      · have hc : headCut t2 = t2 := by
          unfold headCut
          rw [hu]
          simp [(indexByte_white x).1 hxw]
        rw [hc]
        exact heading_c l t col _ d w HI hl hN hpre hd hd5 (by omega) (by omega) (by omega) h4 t2 v ht2 x (by simpa using hu) hxw
      · have hxw' : white x = true := by
          cases h : white x
          · exact absurd ((indexByte_white x).2 h) hxw
          · rfl
        have hc : headCut t2 = trimR (v ++ [x]) := by
          unfold headCut
          rw [hu]
          simp [hxw']
        rw [hc]
        exact heading_b l t col _ d w HI hl hN hpre hd hd5 (by omega) (by omega) (by omega) h4 t2 v ht2 x (by simpa using hu) hxw
theorem heading_any (l : List UInt8) (w : World) (hl : l.length ≤ 140737488355328) :
    Calls Tryd.prog 48 #[.string (S l)] w fun e w' => e = .returned (headVal (heading l)) ∧ Below w.heap.size w w' :=
  heading_core l _ _ w (inside_of l w hl) (drop_len hl)
end Go.Proofs.YtjgaobkgmheocaaDoor
