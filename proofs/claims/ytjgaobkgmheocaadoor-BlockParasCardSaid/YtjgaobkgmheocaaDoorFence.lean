/- Contracts of package fence. -/
import Derived.Test.YtjgaobkgmheocaaDoorLeafd
import Derived.Test.YtjgaobkgmheocaaDoorHeap
namespace Go.Proofs.YtjgaobkgmheocaaDoor
open Go Go.RowKit

theorem bcell {W w1 : World} (hb : Below W.heap.size W w1) : (∀ b o, b < W.heap.size → w1.cell? ⟨b, o, none⟩ = W.cell? ⟨b, o, none⟩) ∧ (∀ b o, b < W.heap.size → w1.frozen? ⟨b, o, none⟩ = W.frozen? ⟨b, o, none⟩) :=
  ⟨fun b o h => hb.cell (p := ⟨b, o, none⟩) h, fun b o h => hb.frozen (p := ⟨b, o, none⟩) h⟩
def FO.zero : FO := ⟨0, 0, 0, []⟩
def beginVal (x : Option FO) : Value := .tuple #[(x.getD FO.zero).val, .bool x.isSome]
set_option maxRecDepth 100000 in
set_option maxHeartbeats 1000000 in
theorem begins_none (l : List UInt8) (w : World) (hl : l.length ≤ 140737488355328) (c : UInt8) (hc : ∀ h : (indent l).2 < l.length, l[(indent l).2] = c)
    (hbad : 3 < (indent l).1 ∨ (indent l).2 = l.length ∨ (((c.toNat : Int) != 96) = true ∧ ((c.toNat : Int) != 126) = true)) :
    Calls Tryd.prog 50 #[.string (S l)] w fun e w' => e = .returned (beginVal none) ∧ Below w.heap.size w w' := by
  have hts := S_size l
  have hle : (indent l).2 ≤ l.length := (indentF_le l 0).1
  have ind := fun w => indent_any l w hl
  generalize hk : (indent l).2 = k at *
  generalize hcol : (indent l).1 = col at *
  clear hk hcol
  have IND := Lib.hid ind
  have HC := Lib.hid hc
  clear ind hc
  by_cases hkl : k < l.length
  · have hg := S_get l k (by rw [S_size]; exact hkl)
    have hgc := HC.out hkl
    rcases hbad with h3 | h3 | ⟨h3, h4⟩
    · go_enter Tryd.func50, Tryd.ntmps50
      go_wp2_with (go_at_call 39; refine (IND.out _).mono ?_; rintro e w' ⟨rfl, rfl⟩)
      exact bodyPost_ret (v := beginVal none) (by simp [results, Tryd.results50, go_sem, beginVal, FO.zero, FO.val, S]) rfl ⟨rfl, (Below.refl _ _).alloc (Nat.le_refl _) _⟩
    · omega
    · go_enter Tryd.func50, Tryd.ntmps50
      go_wp2_with (go_at_call 39; refine (IND.out _).mono ?_; rintro e w' ⟨rfl, rfl⟩)
      all_goals exact bodyPost_ret (v := beginVal none) (by simp [results, Tryd.results50, go_sem, beginVal, FO.zero, FO.val, S]) rfl ⟨rfl, (Below.refl _ _).alloc (Nat.le_refl _) _⟩
  · go_enter Tryd.func50, Tryd.ntmps50
    go_wp2_with (go_at_call 39; refine (IND.out _).mono ?_; rintro e w' ⟨rfl, rfl⟩)
    all_goals exact bodyPost_ret (v := beginVal none) (by simp [results, Tryd.results50, go_sem, beginVal, FO.zero, FO.val, S]) rfl ⟨rfl, (Below.refl _ _).alloc (Nat.le_refl _) _⟩
def beginRes (c : UInt8) (N col : Nat) (t2 : List UInt8) : Option FO := if N < 3 ∨ (c = 96 ∧ (96 : UInt8) ∈ t2) then none else some ⟨c, N, col, t2⟩
set_option maxRecDepth 100000 in
set_option maxHeartbeats 1000000 in
theorem begins_some (l : List UInt8) (w : World) (hl : l.length ≤ 140737488355328) (c : UInt8) (k col N : Nat) (t2 : List UInt8) (hkl : k < l.length) (hc : l[k] = c) (hcol : col ≤ 3)
    (hck : c = 96 ∨ c = 126)
    (ind : ∀ w, Calls Tryd.prog 39 #[.string (S l)] w fun e w' => e = .returned (.tuple #[.int .i64 col, .int .i64 k]) ∧ w = w')
    (hN : runL c (l.drop k) = N) (ht2 : trim (l.drop (k + N)) = t2) :
    Calls Tryd.prog 50 #[.string (S l)] w fun e w' => e = .returned (beginVal (beginRes c N col t2)) ∧ Below w.heap.size w w' := by
  have hts := S_size l
  have hg := S_get l k (by rw [S_size]; exact hkl)
  have hx : (S l).extract k l.length = S (l.drop k) := by rw [S_extract, List.take_length]
  have hx2 : (S l).extract (k + N) l.length = S (l.drop (k + N)) := by rw [S_extract, List.take_length]
  have hNl : k + N ≤ l.length := by have := runL_le c (l.drop k); rw [List.length_drop] at this; omega
  have run : ∀ w, Calls Tryd.prog 40 #[.string (S (l.drop k)), .int .u8 c.toNat] w fun e w' => e = .returned (.int .i64 N) ∧ w = w' := by
    intro w
    rw [← hN]
    exact run_any _ c w (drop_len hl)
  have hke : ((k : Int) == (l.length : Int)) = false := by rw [beq_eq_false_iff_ne]; omega
  have hki : (k : Int) ≤ (l.length : Int) := by omega
  have hkn : ((k : Int) + (N : Int)) ≤ (l.length : Int) := by omega
  have hkt : ((k : Int) + (N : Int)).toNat = k + N := by omega
  have trm : ∀ w, Calls Tryd.prog 51 #[.string (S (l.drop (k + N))), .string ⟨#[32, 9]⟩] w fun e w' => e = .returned (.string (S t2)) ∧ Below w.heap.size w w' := by
    intro w
    rw [← ht2]
    exact trim_any _ w (drop_len hl)
  have TRIM := Lib.hid trm
  clear trm ht2
  have RUN := Lib.hid run
  have IND := Lib.hid ind
  clear ind run hN
  by_cases hN3 : N < 3
  · have hres : beginRes c N col t2 = none := if_pos (.inl hN3)
    have RES := Lib.hid hres
    clear hres
    rcases hck with rfl | rfl
    · go_enter Tryd.func50, Tryd.ntmps50
      go_wp2_with (go_at_call 39; refine (IND.out _).mono ?_; rintro e w' ⟨rfl, rfl⟩)
      go_region_held3 (fun w' => w'.cell? ⟨w.heap.size + 1, 0, none⟩ = some (.int .u8 96)) (go_keep) (first | (go_at_call 40; refine (RUN.out _).mono ?_; rintro e w' ⟨rfl, rfl⟩))
      go_wp2_with fail
      refine (TRIM.out _).mono ?_
      rintro e w1 ⟨rfl, hb1⟩
      obtain ⟨hc1, hf1⟩ := bcell hb1
      have hz1 : w.heap.size + 1 < w1.heap.size := by have := hb1.size; simp at this; omega
      have hbel : Below w.heap.size w w1 := ((((Below.refl _ _).alloc (Nat.le_refl _) _).alloc (by simp) _).drew).trans (hb1.mono (by simp; omega))
      have HBEL := Lib.hid hbel
      have hB0 : Blk w1 w.heap.size #[.int .u8 0, .int .i64 0, .int .i64 0, .string ⟨#[]⟩] 37 := ((((Blk.new w _ _).alloc _).drew).below hb1)
      clear hbel hb1
      go_wp2_with fail
      have hB1 := ((((hB0.set_ne (p := ⟨w.heap.size + 1, 3, none⟩) (by simp) (.string (S t2))).set 0 (.int .u8 0)).set 1 (.int .i64 0)).set 2 (.int .i64 0)).set 3 (.string ⟨#[]⟩)
      have hE1 := (((((HBEL.out.setCell (p := ⟨w.heap.size + 1, 3, none⟩) (by simp) (.string (S t2))).setCell (p := ⟨w.heap.size, 0, none⟩) (Nat.le_refl _) (.int .u8 0)).setCell (p := ⟨w.heap.size, 1, none⟩) (Nat.le_refl _) (.int .i64 0)).setCell (p := ⟨w.heap.size, 2, none⟩) (Nat.le_refl _) (.int .i64 0)).setCell (p := ⟨w.heap.size, 3, none⟩) (Nat.le_refl _) (.string ⟨#[]⟩))
      exact ret_cell_tmp Tryd.results50 hB1 rfl Tryd.underlying37 rfl (by kernel_rfl) rfl ⟨by rw [RES.out]; rfl, hE1⟩
    · go_enter Tryd.func50, Tryd.ntmps50
      go_wp2_with (go_at_call 39; refine (IND.out _).mono ?_; rintro e w' ⟨rfl, rfl⟩)
      go_region_held3 (fun w' => w'.cell? ⟨w.heap.size + 1, 0, none⟩ = some (.int .u8 126)) (go_keep) (first | (go_at_call 40; refine (RUN.out _).mono ?_; rintro e w' ⟨rfl, rfl⟩))
      go_wp2_with fail
      refine (TRIM.out _).mono ?_
      rintro e w1 ⟨rfl, hb1⟩
      obtain ⟨hc1, hf1⟩ := bcell hb1
      have hz1 : w.heap.size + 1 < w1.heap.size := by have := hb1.size; simp at this; omega
      have hbel : Below w.heap.size w w1 := ((((Below.refl _ _).alloc (Nat.le_refl _) _).alloc (by simp) _).drew).trans (hb1.mono (by simp; omega))
      have HBEL := Lib.hid hbel
      have hB0 : Blk w1 w.heap.size #[.int .u8 0, .int .i64 0, .int .i64 0, .string ⟨#[]⟩] 37 := ((((Blk.new w _ _).alloc _).drew).below hb1)
      clear hbel hb1
      go_wp2_with fail
      have hB1 := ((((hB0.set_ne (p := ⟨w.heap.size + 1, 3, none⟩) (by simp) (.string (S t2))).set 0 (.int .u8 0)).set 1 (.int .i64 0)).set 2 (.int .i64 0)).set 3 (.string ⟨#[]⟩)
      have hE1 := (((((HBEL.out.setCell (p := ⟨w.heap.size + 1, 3, none⟩) (by simp) (.string (S t2))).setCell (p := ⟨w.heap.size, 0, none⟩) (Nat.le_refl _) (.int .u8 0)).setCell (p := ⟨w.heap.size, 1, none⟩) (Nat.le_refl _) (.int .i64 0)).setCell (p := ⟨w.heap.size, 2, none⟩) (Nat.le_refl _) (.int .i64 0)).setCell (p := ⟨w.heap.size, 3, none⟩) (Nat.le_refl _) (.string ⟨#[]⟩))
      exact ret_cell_tmp Tryd.results50 hB1 rfl Tryd.underlying37 rfl (by kernel_rfl) rfl ⟨by rw [RES.out]; rfl, hE1⟩
  · rcases hck with rfl | rfl
    · by_cases hin : Lib.indexByte t2 96 < 0
      · have hres : beginRes 96 N col t2 = some ⟨96, N, col, t2⟩ := if_neg (by rintro (h | ⟨_, h⟩); exact hN3 h; exact (indexByte_neg t2 96).2.1 hin h)
        have RES := Lib.hid hres
        clear hres
        go_enter Tryd.func50, Tryd.ntmps50
        go_wp2_with (go_at_call 39; refine (IND.out _).mono ?_; rintro e w' ⟨rfl, rfl⟩)
        go_region_held3 (fun w' => w'.cell? ⟨w.heap.size + 1, 0, none⟩ = some (.int .u8 96)) (go_keep) (first | (go_at_call 40; refine (RUN.out _).mono ?_; rintro e w' ⟨rfl, rfl⟩))
        go_wp2_with fail
        refine (TRIM.out _).mono ?_
        rintro e w1 ⟨rfl, hb1⟩
        obtain ⟨hc1, hf1⟩ := bcell hb1
        have hz1 : w.heap.size + 1 < w1.heap.size := by have := hb1.size; simp at this; omega
        have hbel : Below w.heap.size w w1 := ((((Below.refl _ _).alloc (Nat.le_refl _) _).alloc (by simp) _).drew).trans (hb1.mono (by simp; omega))
        have HBEL := Lib.hid hbel
        have hB0 : Blk w1 w.heap.size #[.int .u8 0, .int .i64 0, .int .i64 0, .string ⟨#[]⟩] 37 := ((((Blk.new w _ _).alloc _).drew).below hb1)
        clear hbel hb1
        go_wp2_with (go_at_call 62; refine (indexByte_any t2 96 _).mono ?_; rintro e w' ⟨rfl, rfl⟩)
        have hB1 := ((((hB0.set_ne (p := ⟨w.heap.size + 1, 3, none⟩) (by simp) (.string (S t2))).set 0 (.int .u8 96)).set 1 (.int .i64 N)).set 2 (.int .i64 col)).set 3 (.string (S t2))
        have hE1 := (((((HBEL.out.setCell (p := ⟨w.heap.size + 1, 3, none⟩) (by simp) (.string (S t2))).setCell (p := ⟨w.heap.size, 0, none⟩) (Nat.le_refl _) (.int .u8 96)).setCell (p := ⟨w.heap.size, 1, none⟩) (Nat.le_refl _) (.int .i64 N)).setCell (p := ⟨w.heap.size, 2, none⟩) (Nat.le_refl _) (.int .i64 col)).setCell (p := ⟨w.heap.size, 3, none⟩) (Nat.le_refl _) (.string (S t2)))
        exact ret_cell_tmp Tryd.results50 hB1 rfl Tryd.underlying37 rfl (by kernel_rfl) rfl ⟨by rw [RES.out]; rfl, hE1⟩
      · have hres : beginRes 96 N col t2 = none := if_pos (.inr ⟨rfl, by by_cases h : (96 : UInt8) ∈ t2; exact h; exact absurd ((indexByte_neg t2 96).2.2 h) hin⟩)
        have RES := Lib.hid hres
        clear hres
        go_enter Tryd.func50, Tryd.ntmps50
        go_wp2_with (go_at_call 39; refine (IND.out _).mono ?_; rintro e w' ⟨rfl, rfl⟩)
        go_region_held3 (fun w' => w'.cell? ⟨w.heap.size + 1, 0, none⟩ = some (.int .u8 96)) (go_keep) (first | (go_at_call 40; refine (RUN.out _).mono ?_; rintro e w' ⟨rfl, rfl⟩))
        go_wp2_with fail
        refine (TRIM.out _).mono ?_
        rintro e w1 ⟨rfl, hb1⟩
        obtain ⟨hc1, hf1⟩ := bcell hb1
        have hz1 : w.heap.size + 1 < w1.heap.size := by have := hb1.size; simp at this; omega
        have hbel : Below w.heap.size w w1 := ((((Below.refl _ _).alloc (Nat.le_refl _) _).alloc (by simp) _).drew).trans (hb1.mono (by simp; omega))
        have HBEL := Lib.hid hbel
        have hB0 : Blk w1 w.heap.size #[.int .u8 0, .int .i64 0, .int .i64 0, .string ⟨#[]⟩] 37 := ((((Blk.new w _ _).alloc _).drew).below hb1)
        clear hbel hb1
        go_wp2_with (go_at_call 62; refine (indexByte_any t2 96 _).mono ?_; rintro e w' ⟨rfl, rfl⟩)
        have hB1 := ((((hB0.set_ne (p := ⟨w.heap.size + 1, 3, none⟩) (by simp) (.string (S t2))).set 0 (.int .u8 0)).set 1 (.int .i64 0)).set 2 (.int .i64 0)).set 3 (.string ⟨#[]⟩)
        have hE1 := (((((HBEL.out.setCell (p := ⟨w.heap.size + 1, 3, none⟩) (by simp) (.string (S t2))).setCell (p := ⟨w.heap.size, 0, none⟩) (Nat.le_refl _) (.int .u8 0)).setCell (p := ⟨w.heap.size, 1, none⟩) (Nat.le_refl _) (.int .i64 0)).setCell (p := ⟨w.heap.size, 2, none⟩) (Nat.le_refl _) (.int .i64 0)).setCell (p := ⟨w.heap.size, 3, none⟩) (Nat.le_refl _) (.string ⟨#[]⟩))
        exact ret_cell_tmp Tryd.results50 hB1 rfl Tryd.underlying37 rfl (by kernel_rfl) rfl ⟨by rw [RES.out]; rfl, hE1⟩
    · have hres : beginRes 126 N col t2 = some ⟨126, N, col, t2⟩ := if_neg (by rintro (h | ⟨h, _⟩); exact hN3 h; cases h)
      have RES := Lib.hid hres
      clear hres
      go_enter Tryd.func50, Tryd.ntmps50
      go_wp2_with (go_at_call 39; refine (IND.out _).mono ?_; rintro e w' ⟨rfl, rfl⟩)
      go_region_held3 (fun w' => w'.cell? ⟨w.heap.size + 1, 0, none⟩ = some (.int .u8 126)) (go_keep) (first | (go_at_call 40; refine (RUN.out _).mono ?_; rintro e w' ⟨rfl, rfl⟩))
      go_wp2_with fail
      refine (TRIM.out _).mono ?_
      rintro e w1 ⟨rfl, hb1⟩
      obtain ⟨hc1, hf1⟩ := bcell hb1
      have hz1 : w.heap.size + 1 < w1.heap.size := by have := hb1.size; simp at this; omega
      have hbel : Below w.heap.size w w1 := ((((Below.refl _ _).alloc (Nat.le_refl _) _).alloc (by simp) _).drew).trans (hb1.mono (by simp; omega))
      have HBEL := Lib.hid hbel
      have hB0 : Blk w1 w.heap.size #[.int .u8 0, .int .i64 0, .int .i64 0, .string ⟨#[]⟩] 37 := ((((Blk.new w _ _).alloc _).drew).below hb1)
      clear hbel hb1
      go_wp2_with fail
      have hB1 := ((((hB0.set_ne (p := ⟨w.heap.size + 1, 3, none⟩) (by simp) (.string (S t2))).set 0 (.int .u8 126)).set 1 (.int .i64 N)).set 2 (.int .i64 col)).set 3 (.string (S t2))
      have hE1 := (((((HBEL.out.setCell (p := ⟨w.heap.size + 1, 3, none⟩) (by simp) (.string (S t2))).setCell (p := ⟨w.heap.size, 0, none⟩) (Nat.le_refl _) (.int .u8 126)).setCell (p := ⟨w.heap.size, 1, none⟩) (Nat.le_refl _) (.int .i64 N)).setCell (p := ⟨w.heap.size, 2, none⟩) (Nat.le_refl _) (.int .i64 col)).setCell (p := ⟨w.heap.size, 3, none⟩) (Nat.le_refl _) (.string (S t2)))
      exact ret_cell_tmp Tryd.results50 hB1 rfl Tryd.underlying37 rfl (by kernel_rfl) rfl ⟨by rw [RES.out]; rfl, hE1⟩
end Go.Proofs.YtjgaobkgmheocaaDoor
