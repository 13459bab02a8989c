/- Contracts of packages fence and leaf, the second half. -/
import Derived.Test.YtjgaobkgmheocaaDoorLeaf
namespace Go.Proofs.YtjgaobkgmheocaaDoor
open Go Go.RowKit

def sign4 (c : UInt8) : Bool := c == 42 || c == 45 || c == 43
theorem index_sign4 (c : UInt8) : (Lib.indexByte [42, 45, 43] c < 0) ↔ sign4 c = false := by
  rw [(indexByte_neg _ _).2]
  simp [sign4, and_assoc]
theorem index_sign4_any (c : UInt8) (w : World) :
    Calls Tryd.prog 62 #[.string ⟨#[42, 45, 43]⟩, .int .u8 c.toNat] w fun e w' => e = .returned (.int .i64 (Lib.indexByte [42, 45, 43] c)) ∧ w = w' := indexByte_any [42, 45, 43] c w
/-- leaf.Break's answer, on letters. -/
def Breaks (l : List UInt8) (b : Bool) : Prop := ∀ w : World, Calls Tryd.prog 49 #[.string (S l)] w fun e w' => e = .returned (.bool b) ∧ Below w.heap.size w w'
def itemVal (x : Option (UInt8 × Nat × List UInt8)) : Value :=
  match x with
  | none => .tuple #[.int .u8 0, .int .i64 0, .string ⟨#[]⟩, .bool false]
  | some (c, n, t) => .tuple #[.int .u8 c.toNat, .int .i64 n, .string (S t), .bool true]
theorem itemT_none (b : Bool) (col : Nat) (t : List UInt8) (h : 3 < col) : itemT b col t = none := by cases t <;> simp [itemT, h]
set_option maxRecDepth 100000 in
set_option maxHeartbeats 1000000 in
theorem item_far (l r' : List UInt8) (c d : UInt8) (col : Nat) (w : World) (HI : Inside l col (c :: d :: r') w) (HB : Breaks l false) (hcl : col ≤ 140737488355328 * 4) (hl : (d :: r').length + 1 ≤ 140737488355328)
    (hcol : col ≤ 3) (hix : ¬ Lib.indexByte [42, 45, 43] c < 0) (hwd : white d = true) (he' : empty (d :: r') = false) :
    Calls Tryd.prog 45 #[.string (S l)] w fun e w' => e = .returned (itemVal (some (c, col + 1 + wide (indent (d :: r')).1, strip (d :: r') (wide (indent (d :: r')).1)))) ∧ Below w.heap.size w w' := by
  have hts := S_size (c :: d :: r')
  have hn := S_nil (c :: d :: r')
  simp only [List.isEmpty_cons, List.length_cons] at hn
  have hg := S_get (c :: d :: r') 0 (by rw [S_size]; simp)
  have hg0 : (c :: d :: r')[0] = c := rfl
  have hx : (S (c :: d :: r')).extract 1 ((d :: r').length + 1) = S (d :: r') := by rw [S_extract]; simp
  have hq1 : (1 : Int) ≤ (r'.length : Int) + 1 + 1 := by omega
  have hq0 : (0 : Int) < (r'.length : Int) + 1 + 1 := by omega
  have hq2 : (1 : Int) < (r'.length : Int) + 1 + 1 := by omega
  have hg1 := S_get (c :: d :: r') 1 (by rw [S_size]; simp)
  have hg1' : (c :: d :: r')[1] = d := rfl
  simp only [List.length_cons] at hts hl hx
  have hll : (d :: r').length ≤ 140737488355328 := by simp only [List.length_cons]; omega
  have hiw : ¬ Lib.indexByte [32, 9] d < 0 := fun h => by rw [(indexByte_white d).1 h] at hwd; cases hwd
  clear hwd
  have hil' : (indent (d :: r')).1 ≤ 140737488355328 * 4 := by
    have hil := (indentF_le (d :: r') 0).2
    unfold indent
    omega
  obtain ⟨ni, hni⟩ : ∃ ni, ni = (indent (d :: r')).1 := ⟨_, rfl⟩
  rw [← hni] at hil' ⊢
  have ind : ∀ w : World, Calls Tryd.prog 39 #[.string (S (d :: r'))] w fun e w' => e = .returned (.tuple #[.int .i64 ni, .int .i64 (indent (d :: r')).2]) ∧ w = w' := by
    intro w
    rw [hni]
    exact indent_any _ w hll
  have IND := Lib.hid ind
  clear ind hni
  have hw0 : IntKind.i64.wrap ((col : Int) + 1) = (col : Int) + 1 := IntWalk.i64_in _ ⟨by omega, by omega⟩
  by_cases h4 : 4 < ni
  · have hwd : wide ni = 1 := if_pos h4
    rw [hwd]
    clear hwd
    have hw1 : IntKind.i64.wrap ((col : Int) + 1 + 1) = (col : Int) + 1 + 1 := IntWalk.i64_in _ ⟨by omega, by omega⟩
    have str : ∀ wa : World, Below w.heap.size w wa → Calls Tryd.prog 26 #[.string (S (d :: r')), .int .i64 1] wa fun e w' => e = .returned (.string (S (strip (d :: r') 1))) ∧ Below w.heap.size w w' := fun wa hb =>
      (strip_any _ _ wa hll (by omega) (by omega)).mono fun e w' ⟨he, hb'⟩ => ⟨he, below_next hb hb'⟩
    have STR := Lib.hid str
    clear str
    go_enter Tryd.func45, Tryd.ntmps45
    go_wp2_with (first | (go_at_call 57; refine Calls.mono HI ?_; rintro e w' ⟨rfl, rfl⟩) | (go_at_call 62; ((with_reducible refine (index_sign4_any c _).mono ?_); rintro e w' ⟨rfl, rfl⟩)) | (go_at_call 62; ((with_reducible refine (index_white_any d _).mono ?_); rintro e w' ⟨rfl, rfl⟩)) | (go_at_call 49; refine Calls.mono (HB _) ?_; rintro e w1 ⟨rfl, hb1⟩) | (go_at_call 28; refine (empty_any _ _ (by omega)).mono ?_; rintro e w' ⟨rfl, rfl⟩) | (go_at_call 39; refine (IND.out _).mono ?_; rintro e w' ⟨rfl, rfl⟩))
    go_region_held3 (fun w' => Below w.heap.size w w') (first | assumption | exact hb1.drew) (first | (go_at_call 26; refine (STR.out _ (by assumption)).mono ?_; rintro e w' ⟨rfl, hb⟩))
    all_goals go_wp2
    all_goals exact bodyPost_ret (v := itemVal (some (c, col + 1 + 1, strip (d :: r') 1))) (by simp [results, Tryd.results45, go_sem, itemVal]) rfl ⟨rfl, by assumption⟩
  · have hwd : wide ni = ni := if_neg h4
    rw [hwd]
    clear hwd
    have hw1 : IntKind.i64.wrap ((col : Int) + 1 + (ni : Int)) = (col : Int) + 1 + (ni : Int) := IntWalk.i64_in _ ⟨by omega, by omega⟩
    have str : ∀ wa : World, Below w.heap.size w wa → Calls Tryd.prog 26 #[.string (S (d :: r')), .int .i64 ni] wa fun e w' => e = .returned (.string (S (strip (d :: r') ni))) ∧ Below w.heap.size w w' := fun wa hb =>
      (strip_any _ _ wa hll (by omega) (by omega)).mono fun e w' ⟨he, hb'⟩ => ⟨he, below_next hb hb'⟩
    have STR := Lib.hid str
    clear str
    go_enter Tryd.func45, Tryd.ntmps45
    go_wp2_with (first | (go_at_call 57; refine Calls.mono HI ?_; rintro e w' ⟨rfl, rfl⟩) | (go_at_call 62; ((with_reducible refine (index_sign4_any c _).mono ?_); rintro e w' ⟨rfl, rfl⟩)) | (go_at_call 62; ((with_reducible refine (index_white_any d _).mono ?_); rintro e w' ⟨rfl, rfl⟩)) | (go_at_call 49; refine Calls.mono (HB _) ?_; rintro e w1 ⟨rfl, hb1⟩) | (go_at_call 28; refine (empty_any _ _ (by omega)).mono ?_; rintro e w' ⟨rfl, rfl⟩) | (go_at_call 39; refine (IND.out _).mono ?_; rintro e w' ⟨rfl, rfl⟩))
    go_region_held3 (fun w' => Below w.heap.size w w') (first | assumption | exact hb1.drew) (first | (go_at_call 26; refine (STR.out _ (by assumption)).mono ?_; rintro e w' ⟨rfl, hb⟩))
    all_goals go_wp2
    all_goals exact bodyPost_ret (v := itemVal (some (c, col + 1 + ni, strip (d :: r') ni))) (by simp [results, Tryd.results45, go_sem, itemVal]) rfl ⟨rfl, by assumption⟩
set_option maxRecDepth 100000 in
set_option maxHeartbeats 1000000 in
theorem item_core (l t : List UInt8) (col : Nat) (brk : Bool) (w : World) (HI : Inside l col t w) (HB : Breaks l brk) (hcl : col ≤ 140737488355328 * 4) (hl : t.length ≤ 140737488355328) :
    Calls Tryd.prog 45 #[.string (S l)] w fun e w' => e = .returned (itemVal (itemT brk col t)) ∧ Below w.heap.size w w' := by
  have hts := S_size t
  have hn := S_nil t
  by_cases hcol : col ≤ 3
  · cases t with
    | nil =>
      simp only [List.isEmpty_nil] at hn
      go_enter Tryd.func45, Tryd.ntmps45
      go_wp2_with (go_at_call 57; refine Calls.mono HI ?_; rintro e w' ⟨rfl, rfl⟩)
      exact bodyPost_ret (v := itemVal none) (by simp [results, Tryd.results45, go_sem, itemVal]) rfl ⟨rfl, Below.refl _ _⟩
    | cons c r =>
      simp only [List.isEmpty_cons, List.length_cons] at hn hts hl
      have hg := S_get (c :: r) 0 (by rw [S_size]; simp)
      have hg0 : (c :: r)[0] = c := rfl
      have hx : (S (c :: r)).extract 1 (r.length + 1) = S r := by rw [S_extract]; simp
      by_cases hsg : sign4 c = true
      · have hix : ¬ Lib.indexByte [42, 45, 43] c < 0 := fun h => by rw [(index_sign4 c).1 h] at hsg; cases hsg
        have hns : ¬ (c ≠ 42 ∧ c ≠ 45 ∧ c ≠ 43) := by
          intro h
          simp [sign4, h.1, h.2.1, h.2.2] at hsg
        have HNS := Lib.hid hns
        clear hns hsg
        by_cases hb : headBad r = true
        · cases r with
          | nil => simp [headBad] at hb
          | cons d r' =>
            have hg1 := S_get (c :: d :: r') 1 (by rw [S_size]; simp)
            have hg1' : (c :: d :: r')[1] = d := rfl
            simp only [List.length_cons] at hts hl hx
            have hiw : Lib.indexByte [32, 9] d < 0 := (indexByte_white _).2 (by simpa [headBad] using hb)
            have hr : itemT brk col (c :: d :: r') = none := by simp only [itemT]; rw [if_pos (.inr (.inr (.inl hb)))]
            rw [hr]
            clear hr hb
            go_enter Tryd.func45, Tryd.ntmps45
            go_wp2_with (first | (go_at_call 57; refine Calls.mono HI ?_; rintro e w' ⟨rfl, rfl⟩) | (go_at_call 62; ((with_reducible refine (index_sign4_any c _).mono ?_); rintro e w' ⟨rfl, rfl⟩)) | (go_at_call 62; ((with_reducible refine (index_white_any d _).mono ?_); rintro e w' ⟨rfl, rfl⟩)))
            exact bodyPost_ret (v := itemVal none) (by simp [results, Tryd.results45, go_sem, itemVal]) rfl ⟨rfl, Below.refl _ _⟩
        · have hb' : headBad r = false := by simpa using hb
          cases brk with
          | true =>
            have hr : itemT true col (c :: r) = none := by simp [itemT]
            rw [hr]
            clear hr hb
            cases r with
            | nil =>
              go_enter Tryd.func45, Tryd.ntmps45
              go_wp2_with (first | (go_at_call 57; refine Calls.mono HI ?_; rintro e w' ⟨rfl, rfl⟩) | (go_at_call 62; ((with_reducible refine (index_sign4_any c _).mono ?_); rintro e w' ⟨rfl, rfl⟩)) | (go_at_call 49; refine Calls.mono (HB _) ?_; rintro e w1 ⟨rfl, hb1⟩))
              exact bodyPost_ret (v := itemVal none) (by simp [results, Tryd.results45, go_sem, itemVal]) rfl ⟨rfl, by assumption⟩
            | cons d r' =>
              have hg1 := S_get (c :: d :: r') 1 (by rw [S_size]; simp)
              have hg1' : (c :: d :: r')[1] = d := rfl
              simp only [List.length_cons] at hts hl hx
              have hiw : ¬ Lib.indexByte [32, 9] d < 0 := fun h => by have := (indexByte_white d).1 h; simp [headBad, this] at hb'
              clear hb'
              go_enter Tryd.func45, Tryd.ntmps45
              go_wp2_with (first | (go_at_call 57; refine Calls.mono HI ?_; rintro e w' ⟨rfl, rfl⟩) | (go_at_call 62; ((with_reducible refine (index_sign4_any c _).mono ?_); rintro e w' ⟨rfl, rfl⟩)) | (go_at_call 62; ((with_reducible refine (index_white_any d _).mono ?_); rintro e w' ⟨rfl, rfl⟩)) | (go_at_call 49; refine Calls.mono (HB _) ?_; rintro e w1 ⟨rfl, hb1⟩))
              exact bodyPost_ret (v := itemVal none) (by simp [results, Tryd.results45, go_sem, itemVal]) rfl ⟨rfl, by assumption⟩
          | false =>
            by_cases he : empty r = true
            · have hr : itemT false col (c :: r) = some (c, col + 2, []) := by
                simp only [itemT]
                rw [if_neg (by rintro (h | h | h | h) <;> first | omega | exact HNS.out h | simp_all), if_pos he]
              rw [hr]
              clear hr hb
              cases r with
              | nil =>
                go_enter Tryd.func45, Tryd.ntmps45
                go_wp2_with (first | (go_at_call 57; refine Calls.mono HI ?_; rintro e w' ⟨rfl, rfl⟩) | (go_at_call 62; ((with_reducible refine (index_sign4_any c _).mono ?_); rintro e w' ⟨rfl, rfl⟩)) | (go_at_call 49; refine Calls.mono (HB _) ?_; rintro e w1 ⟨rfl, hb1⟩) | (go_at_call 28; refine (empty_any _ _ (by omega)).mono ?_; rintro e w' ⟨rfl, rfl⟩))
                exact bodyPost_ret (v := itemVal (some (c, col + 2, []))) (by simp [results, Tryd.results45, go_sem, itemVal]; rfl) rfl ⟨rfl, by assumption⟩
              | cons d r' =>
                have hg1 := S_get (c :: d :: r') 1 (by rw [S_size]; simp)
                have hg1' : (c :: d :: r')[1] = d := rfl
                simp only [List.length_cons] at hts hl hx
                have hll : (d :: r').length ≤ 140737488355328 := by simp only [List.length_cons]; omega
                have hiw : ¬ Lib.indexByte [32, 9] d < 0 := fun h => by have := (indexByte_white d).1 h; simp [headBad, this] at hb'
                clear hb'
                go_enter Tryd.func45, Tryd.ntmps45
                go_wp2_with (first | (go_at_call 57; refine Calls.mono HI ?_; rintro e w' ⟨rfl, rfl⟩) | (go_at_call 62; ((with_reducible refine (index_sign4_any c _).mono ?_); rintro e w' ⟨rfl, rfl⟩)) | (go_at_call 62; ((with_reducible refine (index_white_any d _).mono ?_); rintro e w' ⟨rfl, rfl⟩)) | (go_at_call 49; refine Calls.mono (HB _) ?_; rintro e w1 ⟨rfl, hb1⟩) | (go_at_call 28; refine (empty_any _ _ (by omega)).mono ?_; rintro e w' ⟨rfl, rfl⟩))
                exact bodyPost_ret (v := itemVal (some (c, col + 2, []))) (by simp [results, Tryd.results45, go_sem, itemVal]; rfl) rfl ⟨rfl, by assumption⟩
            · have he' : empty r = false := by simpa using he
              have hr : itemT false col (c :: r) = some (c, col + 1 + wide (indent r).1, strip r (wide (indent r).1)) := by
                simp only [itemT]
                rw [if_neg (by rintro (h | h | h | h) <;> first | omega | exact HNS.out h | simp_all), if_neg he]
              rw [hr]
              clear hr hb he
              cases r with
              | nil => cases he'
              | cons d r' =>
                exact item_far l r' c d col w HI HB hcl hl hcol hix (by simpa [headBad] using hb') he'
      · have hsg' : sign4 c = false := by simpa using hsg
        have hix : Lib.indexByte [42, 45, 43] c < 0 := (index_sign4 c).2 hsg'
        have hr : itemT brk col (c :: r) = none := by
          simp only [sign4, Bool.or_eq_false_iff, beq_eq_false_iff_ne] at hsg'
          exact if_pos (.inr (.inl ⟨hsg'.1.1, hsg'.1.2, hsg'.2⟩))
        rw [hr]
        clear hr hsg hsg'
        go_enter Tryd.func45, Tryd.ntmps45
        go_wp2_with (first | (go_at_call 57; refine Calls.mono HI ?_; rintro e w' ⟨rfl, rfl⟩) | (go_at_call 62; ((with_reducible refine (index_sign4_any c _).mono ?_); rintro e w' ⟨rfl, rfl⟩)))
        exact bodyPost_ret (v := itemVal none) (by simp [results, Tryd.results45, go_sem, itemVal]) rfl ⟨rfl, Below.refl _ _⟩
  · rw [itemT_none _ _ _ (by omega)]
    go_enter Tryd.func45, Tryd.ntmps45
    go_wp2_with (go_at_call 57; refine Calls.mono HI ?_; rintro e w' ⟨rfl, rfl⟩)
    exact bodyPost_ret (v := itemVal none) (by simp [results, Tryd.results45, go_sem, itemVal]) rfl ⟨rfl, Below.refl _ _⟩
end Go.Proofs.YtjgaobkgmheocaaDoor
