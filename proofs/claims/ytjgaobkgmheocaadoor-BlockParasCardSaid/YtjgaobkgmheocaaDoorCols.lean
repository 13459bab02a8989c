/- Contracts of package cols. -/
import Derived.Test.YtjgaobkgmheocaaDoorRows
import Derived.Test.YtjgaobkgmheocaaDoorStr
import Derived.Test.YtjgaobkgmheocaaDoorLays
import Derived.Deep.RegionHeld3
namespace Go.Proofs.YtjgaobkgmheocaaDoor
open Go Go.RowKit

theorem byte_eq (c : UInt8) (n : Nat) (h : n < 256) : ((c.toNat : Int) == (n : Int)) = (c == UInt8.ofNat n) := by
  rw [Bool.eq_iff_iff]
  simp only [beq_iff_eq]
  constructor
  · intro e
    have : c.toNat = n := by omega
    rw [← this]; simp
  · intro e
    subst e
    simp [Nat.mod_eq_of_lt h]
theorem white_any (c : UInt8) (w : World) : Calls Tryd.prog 41 #[.int .u8 c.toNat] w fun e w' => e = .returned (.bool (white c)) ∧ w = w' := by
  have e1 : white c = (((c.toNat : Int) == 32) || ((c.toNat : Int) == 9)) := by
    have h1 := byte_eq c 32 (by omega)
    have h2 := byte_eq c 9 (by omega)
    unfold white
    rw [show ((c.toNat : Int) == 32) = (c == 32) from h1, show ((c.toNat : Int) == 9) = (c == 9) from h2]
  rw [e1]
  clear e1
  go_enter Tryd.func41, Tryd.ntmps41
  go_wp2
  all_goals
    go_ret
    simp_all
theorem step_any (col : Nat) (c : UInt8) (w : World) (h1 : col ≤ 140737488355328 * 8) :
    Calls Tryd.prog 42 #[.int .i64 (col : Int), .int .u8 c.toNat] w fun e w' => e = .returned (.int .i64 (step col c : Nat)) ∧ w = w' := by
  have h9 := byte_eq c 9 (by omega)
  have h9' : ((c.toNat : Int) == 9) = (c == 9) := h9
  unfold step
  by_cases hc : c = 9
  · have e1 : ((c.toNat : Int) == 9) = true := by rw [h9', hc]; rfl
    rw [if_pos hc]
    clear h9 h9' hc
    go_enter Tryd.func42, Tryd.ntmps42
    go_wp2
    go_ret
    simp
    omega
  · have e1 : ((c.toNat : Int) == 9) = false := by rw [h9']; simpa using hc
    rw [if_neg hc]
    clear h9 h9' hc
    go_enter Tryd.func42, Tryd.ntmps42
    go_wp2
    go_ret
    simp
theorem drop_cons {l : List UInt8} {k : Nat} (h : k < l.length) : l.drop k = l[k] :: l.drop (k + 1) := List.drop_eq_getElem_cons h
theorem indent_any (l : List UInt8) (w : World) (hl : l.length ≤ 140737488355328) :
    Calls Tryd.prog 39 #[.string (S l)] w fun e w' => e = .returned (.tuple #[.int .i64 (indent l).1, .int .i64 (indent l).2]) ∧ w = w' := by
  have hs := S_size l
  go_enter Tryd.func39, Tryd.ntmps39
  go_wp2
  go_loop [4, 5] (fun a b => ∃ k col : Nat, k ≤ l.length ∧ col ≤ 4 * k ∧ a = .int .i64 (col : Int) ∧ b = .int .i64 (k : Int) ∧ indent l = ((indentF col (l.drop k)).1, (indentF col (l.drop k)).2 + k)) (fun _ b => l.length - (intOf b).toNat)
  case atStart => exact ⟨0, 0, by omega, by omega, rfl, rfl, by simp [indent]⟩
  case round =>
    obtain ⟨k, col, hk, hc, rfl, rfl, hr⟩ := hrel
    have HR := Lib.hid hr
    clear hr
    by_cases hlt : k < l.length
    · have hg := S_get l k (by rw [S_size]; exact hlt)
      by_cases hw : white (l[k]) = true
      · have hst := step_le col (l[k])
        go_wp2_with (first | (go_at_call 41; refine (white_any _ _).mono ?_; rintro e w' ⟨rfl, rfl⟩) | (go_at_call 42; refine (step_any _ _ _ (by omega)).mono ?_; rintro e w' ⟨rfl, rfl⟩))
        go_round
        case rel => exact ⟨k + 1, step col l[k], by omega, by omega, rfl, by go_num, by rw [HR.out, drop_cons hlt]; simp [indentF, hw]; omega⟩
        case measure => simp [intOf]; omega
      · have hw' : white (l[k]) = false := by simpa using hw
        clear hw
        go_wp2_with (first | (go_at_call 41; refine (white_any _ _).mono ?_; rintro e w' ⟨rfl, rfl⟩))
        go_ret2
        refine ⟨?_, rfl⟩
        rw [HR.out, drop_cons hlt]
        simp [indentF, hw']
    · have hk' : k = l.length := by omega
      subst hk'
      go_wp2_with fail
      go_ret2
      refine ⟨?_, rfl⟩
      rw [HR.out, List.drop_length]
      simp [indentF]
theorem empty_any (l : List UInt8) (w : World) (hl : l.length ≤ 140737488355328) :
    Calls Tryd.prog 28 #[.string (S l)] w fun e w' => e = .returned (.bool (empty l)) ∧ w = w' := by
  have hs := S_size l
  have he : empty l = (((indent l).2 : Int) == (l.length : Int)) := by
    unfold empty
    rw [Bool.eq_iff_iff]
    simp only [beq_iff_eq]
    omega
  rw [he]
  clear he
  go_enter Tryd.func28, Tryd.ntmps28
  go_wp2_with (go_at_call 39; refine (indent_any _ _ hl).mono ?_; rintro e w' ⟨rfl, rfl⟩)
  go_ret
  simp
theorem repeatL_one (c : UInt8) (n : Nat) : Lib.repeatL [c] n = List.replicate n c := by
  induction n with
  | zero => rfl
  | succ n ih => rw [Lib.repeatL, ih]; rfl
theorem repeat_blank (n : Nat) (w : World) (hn : n ≤ 1000) :
    Calls Tryd.prog 43 #[.string ⟨#[32]⟩, .int .i64 (n : Int)] w fun e w' => e = .returned (.string (S (List.replicate n 32))) ∧ Below w.heap.size w w' := by
  refine (Tryd.strings_Repeat ⟨#[32]⟩ n w (by omega) (by simp [ByteArray.size]; omega)).mono ?_
  rintro e w' ⟨rfl, hb⟩
  refine ⟨?_, hb⟩
  rw [show (⟨#[32]⟩ : ByteArray).data.toList = [32] from rfl, repeatL_one]
  rfl
set_option maxRecDepth 100000 in
theorem strip_any (l : List UInt8) (n : Int) (w : World) (hl : l.length ≤ 140737488355328) (h0 : -9223372036854775808 ≤ n) (h1 : n ≤ 9223372036854775807) :
    Calls Tryd.prog 26 #[.string (S l), .int .i64 n] w fun e w' => e = .returned (.string (S (strip l n))) ∧ Below w.heap.size w w' := by
  have hs := S_size l
  have hov := stripF_over n l 0 (by omega)
  have HOV := Lib.hid hov
  clear hov
  go_enter Tryd.func26, Tryd.ntmps26
  go_wp2
  go_loop [5, 6] (fun a b => ∃ k col : Nat, k ≤ l.length ∧ col ≤ 4 * k ∧ a = .int .i64 (col : Int) ∧ b = .int .i64 (k : Int) ∧ stripF n 0 l = stripF n col (l.drop k)) (fun _ b => l.length - (intOf b).toNat)
  case atStart => exact ⟨0, 0, by omega, by omega, rfl, rfl, by simp⟩
  case round =>
    obtain ⟨k, col, hk, hc, rfl, rfl, hr⟩ := hrel
    have HR := Lib.hid hr
    clear hr
    by_cases hgo : (col : Int) < n ∧ k < l.length ∧ ∃ h : k < l.length, white (l[k]'h) = true
    · obtain ⟨hn, hlt, _, hw⟩ := hgo
      have hg := S_get l k (by rw [S_size]; exact hlt)
      have hst := step_le col (l[k])
      go_wp2_with (first | (go_at_call 41; refine (white_any _ _).mono ?_; rintro e w' ⟨rfl, rfl⟩) | (go_at_call 42; refine (step_any _ _ _ (by omega)).mono ?_; rintro e w' ⟨rfl, rfl⟩))
      go_round
      case rel => exact ⟨k + 1, step col l[k], by omega, by omega, rfl, by go_num, by rw [HR.out, drop_cons hlt]; simp [stripF, hw, hn]⟩
      case measure => simp [intOf]; omega
    · have hend : stripF n 0 l = (col, l.drop k) := by
        rw [HR.out]
        by_cases hlt : k < l.length
        · rw [drop_cons hlt]
          simp only [stripF]
          rw [if_neg]
          intro hx
          simp only [Bool.and_eq_true, decide_eq_true_eq] at hx
          exact hgo ⟨hx.1, hlt, hlt, hx.2⟩
        · rw [List.drop_eq_nil_of_le (by omega)]; rfl
      have HE := Lib.hid hend
      have hov : (col : Int) ≤ max 0 n + 3 := by have := HOV.out; rw [hend] at this; exact this
      have hd : (max (0 : Int) ((col : Int) - max 0 n)) = (((col : Int) - max 0 n).toNat : Nat) := by omega
      have hdl : ((col : Int) - max 0 n).toNat ≤ 3 := by omega
      have HD := Lib.hid hd
      clear hend hd hov HOV HR
      have hm0 : (0 : Int) ≤ max 0 n := by omega
      have hm1 : max 0 n ≤ 9223372036854775807 := by omega
      have fin : ∀ wa : World, Below w.heap.size w wa → Calls Tryd.prog 43 #[.string ⟨#[32]⟩, .int .i64 (max 0 (IntKind.i64.wrap ((col : Int) - max 0 n)))] wa fun e w' => e = .returned (.string (S (List.replicate ((col : Int) - max 0 n).toNat 32))) ∧ Below w.heap.size w w' := by
        intro wa hb
        rw [IntWalk.i64_in _ ⟨by omega, by omega⟩, HD.out]
        exact (repeat_blank _ wa (by omega)).mono fun e w' ⟨he, hb'⟩ => ⟨he, below_next hb hb'⟩
      have FIN := Lib.hid fin
      clear fin
      have hadd : ¬ (9223372036854775807 < (S (List.replicate ((col : Int) - max 0 n).toNat 32)).size + (l.length - k)) := by
        rw [S_size, List.length_replicate]; omega
      have res : S (List.replicate ((col : Int) - max 0 n).toNat 32) ++ (S l).extract k l.length = S (strip l n) := by
        rw [S_extract, S_append, List.take_length]
        unfold strip
        rw [HE.out]
      have RES := Lib.hid res
      clear res
      by_cases hn : (col : Int) < n
      · by_cases hlt : k < l.length
        · have hg := S_get l k (by rw [S_size]; exact hlt)
          have hw' : white (l[k]) = false := by
            by_cases hw : white (l[k]) = true
            · exact absurd ⟨hn, hlt, hlt, hw⟩ hgo
            · simpa using hw
          clear hgo
          go_wp2_with (first | (go_at_call 41; refine (white_any _ _).mono ?_; rintro e w' ⟨rfl, rfl⟩))
          go_region_held3 (fun w' => Below w.heap.size w w') (first | assumption | exact (Below.refl _ _).drew) (first | (go_at_call 43; refine (FIN.out _ (by assumption)).mono ?_; rintro e w' ⟨rfl, hb⟩))
          go_wp2
          go_ret
          exact ⟨by rw [← RES.out]; rfl, hb⟩
        · clear hgo
          go_wp2_with fail
          go_region_held3 (fun w' => Below w.heap.size w w') (first | assumption | exact (Below.refl _ _).drew) (first | (go_at_call 43; refine (FIN.out _ (by assumption)).mono ?_; rintro e w' ⟨rfl, hb⟩))
          go_wp2
          go_ret
          exact ⟨by rw [← RES.out]; rfl, hb⟩
      · clear hgo
        go_wp2_with fail
        go_region_held3 (fun w' => Below w.heap.size w w') (first | assumption | exact (Below.refl _ _).drew) (first | (go_at_call 43; refine (FIN.out _ (by assumption)).mono ?_; rintro e w' ⟨rfl, hb⟩))
        go_wp2
        go_ret
        exact ⟨by rw [← RES.out]; rfl, hb⟩
end Go.Proofs.YtjgaobkgmheocaaDoor
