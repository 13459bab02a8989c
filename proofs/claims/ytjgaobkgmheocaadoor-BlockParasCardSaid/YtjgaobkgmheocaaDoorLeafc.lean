/- Contracts of packages fence and leaf: headings. -/
import Derived.Test.YtjgaobkgmheocaaDoorLeafb
namespace Go.Proofs.YtjgaobkgmheocaaDoor
open Go Go.RowKit

theorem item_any (l : List UInt8) (w : World) (hl : l.length ≤ 140737488355328) :
    Calls Tryd.prog 45 #[.string (S l)] w fun e w' => e = .returned (itemVal (item l)) ∧ Below w.heap.size w w' :=
  item_core l _ _ _ w (inside_of l w hl) (fun w' => break_any l w' hl) (by have := (indentF_le l 0).2; unfold indent; omega) (drop_len hl)
theorem dropWhile_len (p : UInt8 → Bool) (l : List UInt8) : (l.dropWhile p).length ≤ l.length := (List.dropWhile_suffix p).length_le
theorem trimHash_len (l : List UInt8) : (trimHash l).length ≤ l.length := by unfold trimHash; rw [List.length_reverse]; have := dropWhile_len (· == 35) l.reverse; rw [List.length_reverse] at this; exact this
theorem trimR_len (l : List UInt8) : (trimR l).length ≤ l.length := by unfold trimR; rw [List.length_reverse]; have := dropWhile_len white l.reverse; rw [List.length_reverse] at this; exact this
theorem trim_len (l : List UInt8) : (trim l).length ≤ l.length := Nat.le_trans (dropWhile_len _ _) (trimR_len l)
def headVal (x : Option (Nat × List UInt8)) : Value :=
  match x with
  | none => .tuple #[.int .i64 0, .string ⟨#[]⟩, .bool false]
  | some (n, t) => .tuple #[.int .i64 n, .string (S t), .bool true]
theorem runL_pre (c : UInt8) (t : List UInt8) : ∀ (k : Nat), k < runL c t → ∀ h : k < t.length, t[k] = c := by
  induction t with
  | nil => intro k hk; simp [runL] at hk
  | cons x r ih =>
    intro k hk h
    simp only [runL] at hk
    by_cases hx : x = c
    · rw [if_pos hx] at hk
      cases k with
      | zero => exact hx
      | succ k => exact ih k (by omega) (by simpa using h)
    · rw [if_neg hx] at hk; omega
theorem runL_end (c : UInt8) (t : List UInt8) : ∀ h : runL c t < t.length, t[runL c t] ≠ c := by
  induction t with
  | nil => intro h; simp [runL] at h
  | cons x r ih =>
    intro h
    by_cases hx : x = c
    · have e : runL c (x :: r) = runL c r + 1 := by simp [runL, hx]
      simp only [e] at h ⊢
      exact ih (by simpa using h)
    · have e : runL c (x :: r) = 0 := by simp [runL, hx]
      simp only [e]
      exact hx
theorem headBad_at (t : List UInt8) (k : Nat) : headBad (t.drop k) = true ↔ ∃ h : k < t.length, white t[k] = false := by
  by_cases hlt : k < t.length
  · rw [drop_cons hlt]; simp [headBad, hlt]
  · rw [List.drop_eq_nil_of_le (by omega)]; simp [headBad]; omega
set_option maxRecDepth 100000 in
set_option maxHeartbeats 1000000 in
theorem heading_none (l t : List UInt8) (col N : Nat) (d : UInt8) (w : World) (HI : Inside l col t w) (hl : t.length ≤ 140737488355328) (hN : N ≤ t.length) (hpre : ∀ k, k < N → ∀ h : k < t.length, t[k] = 35)
    (hd : ∀ h : N < t.length, t[N] = d) (hd5 : d ≠ 35) (hbad : 3 < col ∨ N < 1 ∨ 6 < N ∨ (N < t.length ∧ Lib.indexByte [32, 9] d < 0)) :
    Calls Tryd.prog 48 #[.string (S l)] w fun e w' => e = .returned (headVal none) ∧ Below w.heap.size w w' := by
  have hts := S_size t
  have HPRE := Lib.hid hpre
  have HD := Lib.hid hd
  have e5 : ((d.toNat : Int) == 35) = false := by rw [show ((d.toNat : Int) == 35) = (d == 35) from byte_eq _ 35 (by omega)]; simpa using hd5
  clear hpre hd hd5
  go_enter Tryd.func48, Tryd.ntmps48
  go_wp2_with (go_at_call 57; refine Calls.mono HI ?_; rintro e w' ⟨rfl, rfl⟩)
  go_loop [8] (fun b => ∃ k : Nat, k ≤ N ∧ b = .int .i64 (k : Int)) (fun b => N - (intOf b).toNat)
  case atStart => exact ⟨0, by omega, rfl⟩
  case round =>
    obtain ⟨k, hk, rfl⟩ := hrel
    by_cases hlt : k < N
    · have hkl : k < t.length := by omega
      have hg := S_get t k (by rw [S_size]; exact hkl)
      have e1 : (((t[k]).toNat : Int) == 35) = true := by rw [HPRE.out k hlt hkl]; rfl
      go_wp2
      go_round
      case rel => exact ⟨k + 1, by omega, by go_num⟩
      case measure => simp [intOf]; omega
    · obtain rfl : k = N := by omega
      by_cases hkl : k < t.length
      · have hg := S_get t k (by rw [S_size]; exact hkl)
        have hgd := HD.out hkl
        go_wp2_with (go_at_call 62; ((with_reducible refine (index_white_any d _).mono ?_); rintro e w' ⟨rfl, rfl⟩))
        all_goals (go_ret3; exact ⟨rfl, Below.refl _ _⟩)
      · go_wp2
        all_goals (go_ret3; exact ⟨rfl, Below.refl _ _⟩)
set_option maxRecDepth 100000 in
set_option maxHeartbeats 1000000 in
theorem heading_a (l t : List UInt8) (col N : Nat) (d : UInt8) (w : World) (HI : Inside l col t w) (hl : t.length ≤ 140737488355328) (hN : N ≤ t.length) (hpre : ∀ k, k < N → ∀ h : k < t.length, t[k] = 35)
    (hd : ∀ h : N < t.length, t[N] = d) (hd5 : d ≠ 35) (hcol : col ≤ 3) (hN1 : 1 ≤ N) (hN6 : N ≤ 6) (hix : N < t.length → ¬ Lib.indexByte [32, 9] d < 0)
    (t2 : List UInt8) (ht2 : trim (t.drop N) = t2) (hu : trimHash t2 = []) :
    Calls Tryd.prog 48 #[.string (S l)] w fun e w' => e = .returned (headVal (some (N, trimR []))) ∧ Below w.heap.size w w' := by
  have hts := S_size t
  have HPRE := Lib.hid hpre
  have HD := Lib.hid hd
  have e5 : ((d.toNat : Int) == 35) = false := by rw [show ((d.toNat : Int) == 35) = (d == 35) from byte_eq _ 35 (by omega)]; simpa using hd5
  have hlt2 : t2.length ≤ t.length := by rw [← ht2]; have := trim_len (t.drop N); rw [List.length_drop] at this; omega
  have trm : ∀ w, Calls Tryd.prog 51 #[.string (S (t.drop N)), .string ⟨#[32, 9]⟩] w fun e w' => e = .returned (.string (S t2)) ∧ Below w.heap.size w w' := by
    intro w
    rw [← ht2]
    exact trim_any _ w (drop_len hl)
  have TRIM := Lib.hid trm
  have hash : ∀ w, Calls Tryd.prog 63 #[.string (S t2), .string ⟨#[35]⟩] w fun e w' => e = .returned (.string (S [])) ∧ Below w.heap.size w w' := by
    intro w
    have h := trimHash_any t2 w (by omega)
    rw [hu] at h
    exact h
  have HASH := Lib.hid hash
  have hul : (([] : List UInt8)).length ≤ t2.length := by simp
  have trr : ∀ w, Calls Tryd.prog 63 #[.string (S []), .string ⟨#[32, 9]⟩] w fun e w' => e = .returned (.string (S (trimR []))) ∧ Below w.heap.size w w' := fun w => trimRight_any _ w (by omega)
  have TRR := Lib.hid trr
  clear trr
  have hn : (S ([] : List UInt8)).toList.isEmpty = true := S_nil []
  clear hpre hd hd5 trm hash ht2 hu
  go_enter Tryd.func48, Tryd.ntmps48
  go_wp2_with (go_at_call 57; refine Calls.mono HI ?_; rintro e w' ⟨rfl, rfl⟩)
  go_loop [8] (fun b => ∃ k : Nat, k ≤ N ∧ b = .int .i64 (k : Int)) (fun b => N - (intOf b).toNat)
  case atStart => exact ⟨0, by omega, rfl⟩
  case round =>
    obtain ⟨k, hk, rfl⟩ := hrel
    by_cases hlt : k < N
    · have hkl : k < t.length := by omega
      have hg := S_get t k (by rw [S_size]; exact hkl)
      have e1 : (((t[k]).toNat : Int) == 35) = true := by rw [HPRE.out k hlt hkl]; rfl
      go_wp2
      go_round
      case rel => exact ⟨k + 1, by omega, by go_num⟩
      case measure => simp [intOf]; omega
    · obtain rfl : k = N := by omega
      have hx : (S t).extract k t.length = S (t.drop k) := by rw [S_extract, List.take_length]
      by_cases hkl : k < t.length
      · have hg := S_get t k (by rw [S_size]; exact hkl)
        have hgd := HD.out hkl
        have hi := hix hkl
        go_wp2_with (first | (go_at_call 62; ((with_reducible refine (index_white_any d _).mono ?_); rintro e w' ⟨rfl, rfl⟩)) | (go_at_call 51; refine (TRIM.out _).mono ?_; rintro e w1 ⟨rfl, hb1⟩) | (go_at_call 63; ((with_reducible refine (HASH.out _).mono ?_); rintro e w2 ⟨rfl, hb2⟩)) | (go_at_call 63; ((with_reducible refine (TRR.out _).mono ?_); rintro e w3 ⟨rfl, hb3⟩)))
        go_ret3
        exact ⟨rfl, below_next (below_next hb1 hb2) hb3⟩
      · go_wp2_with (first | (go_at_call 51; refine (TRIM.out _).mono ?_; rintro e w1 ⟨rfl, hb1⟩) | (go_at_call 63; ((with_reducible refine (HASH.out _).mono ?_); rintro e w2 ⟨rfl, hb2⟩)) | (go_at_call 63; ((with_reducible refine (TRR.out _).mono ?_); rintro e w3 ⟨rfl, hb3⟩)))
        go_ret3
        exact ⟨rfl, below_next (below_next hb1 hb2) hb3⟩
set_option maxRecDepth 100000 in
set_option maxHeartbeats 1000000 in
theorem heading_b (l t : List UInt8) (col N : Nat) (d : UInt8) (w : World) (HI : Inside l col t w) (hl : t.length ≤ 140737488355328) (hN : N ≤ t.length) (hpre : ∀ k, k < N → ∀ h : k < t.length, t[k] = 35)
    (hd : ∀ h : N < t.length, t[N] = d) (hd5 : d ≠ 35) (hcol : col ≤ 3) (hN1 : 1 ≤ N) (hN6 : N ≤ 6) (hix : N < t.length → ¬ Lib.indexByte [32, 9] d < 0)
    (t2 v : List UInt8) (ht2 : trim (t.drop N) = t2) (x : UInt8) (hu : trimHash t2 = v ++ [x]) (hxw : ¬ Lib.indexByte [32, 9] x < 0) :
    Calls Tryd.prog 48 #[.string (S l)] w fun e w' => e = .returned (headVal (some (N, trimR (v ++ [x])))) ∧ Below w.heap.size w w' := by
  have hts := S_size t
  have HPRE := Lib.hid hpre
  have HD := Lib.hid hd
  have e5 : ((d.toNat : Int) == 35) = false := by rw [show ((d.toNat : Int) == 35) = (d == 35) from byte_eq _ 35 (by omega)]; simpa using hd5
  have hlt2 : t2.length ≤ t.length := by rw [← ht2]; have := trim_len (t.drop N); rw [List.length_drop] at this; omega
  have trm : ∀ w, Calls Tryd.prog 51 #[.string (S (t.drop N)), .string ⟨#[32, 9]⟩] w fun e w' => e = .returned (.string (S t2)) ∧ Below w.heap.size w w' := by
    intro w
    rw [← ht2]
    exact trim_any _ w (drop_len hl)
  have TRIM := Lib.hid trm
  have hash : ∀ w, Calls Tryd.prog 63 #[.string (S t2), .string ⟨#[35]⟩] w fun e w' => e = .returned (.string (S (v ++ [x]))) ∧ Below w.heap.size w w' := by
    intro w
    have h := trimHash_any t2 w (by omega)
    rw [hu] at h
    exact h
  have HASH := Lib.hid hash
  have hul : (v ++ [x]).length ≤ t2.length := by rw [← hu]; exact trimHash_len t2
  have trr : ∀ w, Calls Tryd.prog 63 #[.string (S (v ++ [x])), .string ⟨#[32, 9]⟩] w fun e w' => e = .returned (.string (S (trimR (v ++ [x])))) ∧ Below w.heap.size w w' := fun w => trimRight_any _ w (by omega)
  have TRR := Lib.hid trr
  clear trr
  rw [List.length_append, List.length_singleton] at hul
  have hn : (S (v ++ [x])).toList.isEmpty = false := by rw [S_nil]; cases v <;> rfl
  have hus : (S (v ++ [x])).size = v.length + 1 := by rw [S_size]; simp
  have hgx : ∀ h, (S (v ++ [x]))[v.length]'h = x := fun h => by rw [S_get]; simp
  clear hpre hd hd5 trm hash ht2 hu
  go_enter Tryd.func48, Tryd.ntmps48
  go_wp2_with (go_at_call 57; refine Calls.mono HI ?_; rintro e w' ⟨rfl, rfl⟩)
  go_loop [8] (fun b => ∃ k : Nat, k ≤ N ∧ b = .int .i64 (k : Int)) (fun b => N - (intOf b).toNat)
  case atStart => exact ⟨0, by omega, rfl⟩
  case round =>
    obtain ⟨k, hk, rfl⟩ := hrel
    by_cases hlt : k < N
    · have hkl : k < t.length := by omega
      have hg := S_get t k (by rw [S_size]; exact hkl)
      have e1 : (((t[k]).toNat : Int) == 35) = true := by rw [HPRE.out k hlt hkl]; rfl
      go_wp2
      go_round
      case rel => exact ⟨k + 1, by omega, by go_num⟩
      case measure => simp [intOf]; omega
    · obtain rfl : k = N := by omega
      have hx : (S t).extract k t.length = S (t.drop k) := by rw [S_extract, List.take_length]
      by_cases hkl : k < t.length
      · have hg := S_get t k (by rw [S_size]; exact hkl)
        have hgd := HD.out hkl
        have hi := hix hkl
        go_wp2_with (first | (go_at_call 62; ((with_reducible refine (index_white_any d _).mono ?_); rintro e w' ⟨rfl, rfl⟩)) | (go_at_call 62; ((with_reducible refine (index_white_any x _).mono ?_); rintro e w' ⟨rfl, rfl⟩)) | (go_at_call 51; refine (TRIM.out _).mono ?_; rintro e w1 ⟨rfl, hb1⟩) | (go_at_call 63; ((with_reducible refine (HASH.out _).mono ?_); rintro e w2 ⟨rfl, hb2⟩)) | (go_at_call 63; ((with_reducible refine (TRR.out _).mono ?_); rintro e w3 ⟨rfl, hb3⟩)))
        go_ret3
        exact ⟨rfl, below_next (below_next hb1 hb2) hb3⟩
      · go_wp2_with (first | (go_at_call 62; ((with_reducible refine (index_white_any x _).mono ?_); rintro e w' ⟨rfl, rfl⟩)) | (go_at_call 51; refine (TRIM.out _).mono ?_; rintro e w1 ⟨rfl, hb1⟩) | (go_at_call 63; ((with_reducible refine (HASH.out _).mono ?_); rintro e w2 ⟨rfl, hb2⟩)) | (go_at_call 63; ((with_reducible refine (TRR.out _).mono ?_); rintro e w3 ⟨rfl, hb3⟩)))
        go_ret3
        exact ⟨rfl, below_next (below_next hb1 hb2) hb3⟩
set_option maxRecDepth 100000 in
set_option maxHeartbeats 1000000 in
theorem heading_c (l t : List UInt8) (col N : Nat) (d : UInt8) (w : World) (HI : Inside l col t w) (hl : t.length ≤ 140737488355328) (hN : N ≤ t.length) (hpre : ∀ k, k < N → ∀ h : k < t.length, t[k] = 35)
    (hd : ∀ h : N < t.length, t[N] = d) (hd5 : d ≠ 35) (hcol : col ≤ 3) (hN1 : 1 ≤ N) (hN6 : N ≤ 6) (hix : N < t.length → ¬ Lib.indexByte [32, 9] d < 0)
    (t2 v : List UInt8) (ht2 : trim (t.drop N) = t2) (x : UInt8) (hu : trimHash t2 = v ++ [x]) (hxw : Lib.indexByte [32, 9] x < 0) :
    Calls Tryd.prog 48 #[.string (S l)] w fun e w' => e = .returned (headVal (some (N, t2))) ∧ Below w.heap.size w w' := by
  have hts := S_size t
  have HPRE := Lib.hid hpre
  have HD := Lib.hid hd
  have e5 : ((d.toNat : Int) == 35) = false := by rw [show ((d.toNat : Int) == 35) = (d == 35) from byte_eq _ 35 (by omega)]; simpa using hd5
  have hlt2 : t2.length ≤ t.length := by rw [← ht2]; have := trim_len (t.drop N); rw [List.length_drop] at this; omega
  have trm : ∀ w, Calls Tryd.prog 51 #[.string (S (t.drop N)), .string ⟨#[32, 9]⟩] w fun e w' => e = .returned (.string (S t2)) ∧ Below w.heap.size w w' := by
    intro w
    rw [← ht2]
    exact trim_any _ w (drop_len hl)
  have TRIM := Lib.hid trm
  have hash : ∀ w, Calls Tryd.prog 63 #[.string (S t2), .string ⟨#[35]⟩] w fun e w' => e = .returned (.string (S (v ++ [x]))) ∧ Below w.heap.size w w' := by
    intro w
    have h := trimHash_any t2 w (by omega)
    rw [hu] at h
    exact h
  have HASH := Lib.hid hash
  have hul : (v ++ [x]).length ≤ t2.length := by rw [← hu]; exact trimHash_len t2
  rw [List.length_append, List.length_singleton] at hul
  have hn : (S (v ++ [x])).toList.isEmpty = false := by rw [S_nil]; cases v <;> rfl
  have hus : (S (v ++ [x])).size = v.length + 1 := by rw [S_size]; simp
  have hgx : ∀ h, (S (v ++ [x]))[v.length]'h = x := fun h => by rw [S_get]; simp
  clear hpre hd hd5 trm hash ht2 hu
  go_enter Tryd.func48, Tryd.ntmps48
  go_wp2_with (go_at_call 57; refine Calls.mono HI ?_; rintro e w' ⟨rfl, rfl⟩)
  go_loop [8] (fun b => ∃ k : Nat, k ≤ N ∧ b = .int .i64 (k : Int)) (fun b => N - (intOf b).toNat)
  case atStart => exact ⟨0, by omega, rfl⟩
  case round =>
    obtain ⟨k, hk, rfl⟩ := hrel
    by_cases hlt : k < N
    · have hkl : k < t.length := by omega
      have hg := S_get t k (by rw [S_size]; exact hkl)
      have e1 : (((t[k]).toNat : Int) == 35) = true := by rw [HPRE.out k hlt hkl]; rfl
      go_wp2
      go_round
      case rel => exact ⟨k + 1, by omega, by go_num⟩
      case measure => simp [intOf]; omega
    · obtain rfl : k = N := by omega
      have hx : (S t).extract k t.length = S (t.drop k) := by rw [S_extract, List.take_length]
      by_cases hkl : k < t.length
      · have hg := S_get t k (by rw [S_size]; exact hkl)
        have hgd := HD.out hkl
        have hi := hix hkl
        go_wp2_with (first | (go_at_call 62; ((with_reducible refine (index_white_any d _).mono ?_); rintro e w' ⟨rfl, rfl⟩)) | (go_at_call 62; ((with_reducible refine (index_white_any x _).mono ?_); rintro e w' ⟨rfl, rfl⟩)) | (go_at_call 51; refine (TRIM.out _).mono ?_; rintro e w1 ⟨rfl, hb1⟩) | (go_at_call 63; ((with_reducible refine (HASH.out _).mono ?_); rintro e w2 ⟨rfl, hb2⟩)))
        go_ret3
        exact ⟨rfl, below_next hb1 hb2⟩
      · go_wp2_with (first | (go_at_call 62; ((with_reducible refine (index_white_any x _).mono ?_); rintro e w' ⟨rfl, rfl⟩)) | (go_at_call 51; refine (TRIM.out _).mono ?_; rintro e w1 ⟨rfl, hb1⟩) | (go_at_call 63; ((with_reducible refine (HASH.out _).mono ?_); rintro e w2 ⟨rfl, hb2⟩)))
        go_ret3
        exact ⟨rfl, below_next hb1 hb2⟩
end Go.Proofs.YtjgaobkgmheocaaDoor
