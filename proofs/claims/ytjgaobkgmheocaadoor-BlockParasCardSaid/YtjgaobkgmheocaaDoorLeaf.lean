/- Contracts of packages fence and leaf. -/
import Derived.Test.YtjgaobkgmheocaaDoorCols
import Derived.Lib.ConvBytes
namespace Go.Proofs.YtjgaobkgmheocaaDoor
open Go Go.RowKit

/-! what they answer -/
structure FO where
  char : UInt8
  count : Nat
  indent : Nat
  info : List UInt8
def FO.val (f : FO) : Value := .agg #[.int .u8 f.char.toNat, .int .i64 f.count, .int .i64 f.indent, .string (S f.info)]
def beginsT (col : Nat) : List UInt8 → Option FO
  | [] => none
  | c :: r => if 3 < col ∨ (c ≠ 96 ∧ c ≠ 126) then none
    else if runL c (c :: r) < 3 ∨ (c = 96 ∧ (96 : UInt8) ∈ trim ((c :: r).drop (runL c (c :: r)))) then none
    else some ⟨c, runL c (c :: r), col, trim ((c :: r).drop (runL c (c :: r)))⟩
def begins (l : List UInt8) : Option FO := beginsT (indent l).1 (l.drop (indent l).2)
def endsT (f : FO) (col : Nat) (t : List UInt8) : Bool :=
  decide (col ≤ 3) && decide (0 < f.count) && decide (f.count ≤ runL f.char t) && empty (t.drop (runL f.char t))
def ends (f : FO) (l : List UInt8) : Bool := endsT f (indent l).1 (l.drop (indent l).2)
def quoteT (col : Nat) : List UInt8 → Option (List UInt8)
  | [] => none
  | c :: r => if col ≤ 3 ∧ c = 62 then some (strip r 1) else none
def quote (l : List UInt8) : Option (List UInt8) := quoteT (indent l).1 (l.drop (indent l).2)
def breakT (col : Nat) : List UInt8 → Bool
  | [] => false
  | c :: r => decide (col ≤ 3) && (c == 42 || c == 45 || c == 95) && (c :: r).all (fun x => x == c || white x) && decide (3 ≤ ((c :: r).filter (· == c)).length)
def isBreak (l : List UInt8) : Bool := breakT (indent l).1 (l.drop (indent l).2)
def wide (n : Nat) : Nat := if 4 < n then 1 else n
def headBad : List UInt8 → Bool
  | [] => false
  | d :: _ => !white d
def itemT (brk : Bool) (col : Nat) : List UInt8 → Option (UInt8 × Nat × List UInt8)
  | [] => none
  | c :: r => if 3 < col ∨ (c ≠ 42 ∧ c ≠ 45 ∧ c ≠ 43) ∨ headBad r = true ∨ brk = true then none
    else if empty r then some (c, col + 2, [])
    else some (c, col + 1 + wide (indent r).1, strip r (wide (indent r).1))
def item (l : List UInt8) : Option (UInt8 × Nat × List UInt8) := itemT (isBreak l) (indent l).1 (l.drop (indent l).2)
def headCut (t : List UInt8) : List UInt8 :=
  if (trimHash t).getLast?.all white then trimR (trimHash t) else t
def headingT (col : Nat) (t : List UInt8) : Option (Nat × List UInt8) :=
  if 3 < col ∨ runL 35 t < 1 ∨ 6 < runL 35 t ∨ headBad (t.drop (runL 35 t)) = true then none
  else some (runL 35 t, headCut (trim (t.drop (runL 35 t))))
def heading (l : List UInt8) : Option (Nat × List UInt8) := headingT (indent l).1 (l.drop (indent l).2)

theorem run_any (l : List UInt8) (c : UInt8) (w : World) (hl : l.length ≤ 140737488355328) :
    Calls Tryd.prog 40 #[.string (S l), .int .u8 c.toNat] w fun e w' => e = .returned (.int .i64 (runL c l)) ∧ w = w' := by
  have hs := S_size l
  go_enter Tryd.func40, Tryd.ntmps40
  go_wp2
  go_loop [5] (fun b => ∃ k : Nat, k ≤ l.length ∧ b = .int .i64 (k : Int) ∧ runL c l = runL c (l.drop k) + k) (fun b => l.length - (intOf b).toNat)
  case atStart => exact ⟨0, by omega, rfl, by simp⟩
  case round =>
    obtain ⟨k, hk, rfl, hr⟩ := hrel
    have HR := Lib.hid hr
    clear hr
    by_cases hlt : k < l.length
    · have hg := S_get l k (by rw [S_size]; exact hlt)
      by_cases hc : l[k] = c
      · have e1 : (((l[k]).toNat : Int) == (c.toNat : Int)) = true := by rw [hc]; simp
        have HC := Lib.hid hc
        clear hc
        go_wp2
        go_round
        case rel => exact ⟨k + 1, by omega, by go_num, by rw [HR.out, drop_cons hlt]; simp only [runL]; rw [if_pos HC.out]; omega⟩
        case measure => simp [intOf]; omega
      · have e1 : (((l[k]).toNat : Int) == (c.toNat : Int)) = false := by
          rw [beq_eq_false_iff_ne]
          intro e
          exact hc (UInt8.toNat_inj.1 (by omega))
        go_wp2
        go_ret
        refine ⟨?_, rfl⟩
        rw [HR.out, drop_cons hlt]
        simp only [runL]
        rw [if_neg hc]
        simp
    · have hk' : k = l.length := by omega
      subst hk'
      go_wp2
      go_ret
      refine ⟨?_, rfl⟩
      rw [HR.out, List.drop_length]
      simp [runL]
theorem inside_any (l : List UInt8) (w : World) (hl : l.length ≤ 140737488355328) :
    Calls Tryd.prog 57 #[.string (S l)] w fun e w' => e = .returned (.tuple #[.string (S (l.drop (indent l).2)), .int .i64 (indent l).1, .bool (decide ((indent l).1 ≤ 3))]) ∧ w = w' := by
  have hs := S_size l
  have hle := indentF_le l 0
  have h2 : (indent l).2 ≤ l.length := hle.1
  have h1 : (indent l).1 ≤ 4 * l.length := by have := hle.2; unfold indent; omega
  have hx := S_extract l (indent l).2 l.length
  have HX := Lib.hid hx
  clear hx hle
  have hd : decide (((indent l).1 : Int) ≤ 3) = decide ((indent l).1 ≤ 3) := by rw [decide_eq_decide]; omega
  have HD := Lib.hid hd
  clear hd
  go_enter Tryd.func57, Tryd.ntmps57
  go_wp2_with (go_at_call 39; refine (indent_any _ _ hl).mono ?_; rintro e w' ⟨rfl, rfl⟩)
  go_ret3
  refine ⟨?_, rfl⟩
  rw [← HD.out]
  rw [show S (l.drop (indent l).2) = (S l).extract (indent l).2 l.length by rw [HX.out, List.take_length]]
  simp
theorem S_toList (l : List UInt8) : (S l).toList = l := ByteArray.toList_mk l
theorem S_nil (l : List UInt8) : (S l).toList.isEmpty = l.isEmpty := by rw [S_toList]
/-- What leaf.inside answers, as a contract on letters. -/
def Inside (l : List UInt8) (col : Nat) (t : List UInt8) (w : World) : Prop :=
  Calls Tryd.prog 57 #[.string (S l)] w fun e w' => e = .returned (.tuple #[.string (S t), .int .i64 col, .bool (decide (col ≤ 3))]) ∧ w = w'
theorem inside_of (l : List UInt8) (w : World) (hl : l.length ≤ 140737488355328) : Inside l (indent l).1 (l.drop (indent l).2) w := inside_any l w hl
theorem quote_core (l t : List UInt8) (col : Nat) (w : World) (HI : Inside l col t w) (hl : t.length ≤ 140737488355328) :
    Calls Tryd.prog 38 #[.string (S l)] w fun e w' => e = .returned (.tuple #[.string (S ((quoteT col t).getD [])), .bool (quoteT col t).isSome]) ∧ Below w.heap.size w w' := by
  have hts := S_size t
  have hn := S_nil t
  by_cases hcol : col ≤ 3
  · cases t with
    | nil =>
      simp only [List.isEmpty_nil] at hn
      go_enter Tryd.func38, Tryd.ntmps38
      go_wp2_with (go_at_call 57; refine Calls.mono HI ?_; rintro e w' ⟨rfl, rfl⟩)
      go_ret2
      exact ⟨rfl, Below.refl _ _⟩
    | cons c r =>
      simp only [List.isEmpty_cons, List.length_cons] at hn hts hl
      have hg := S_get (c :: r) 0 (by rw [S_size]; simp)
      have hx : (S (c :: r)).extract 1 (r.length + 1) = S r := by rw [S_extract]; simp
      by_cases h62 : c = 62
      · subst h62
        go_enter Tryd.func38, Tryd.ntmps38
        go_wp2_with (first | (go_at_call 57; refine Calls.mono HI ?_; rintro e w' ⟨rfl, rfl⟩) | (go_at_call 26; refine (strip_any _ _ _ (by omega) (by omega) (by omega)).mono ?_; rintro e w' ⟨rfl, hb⟩))
        go_ret2
        exact ⟨by simp [quoteT, hcol], by assumption⟩
      · have e1 : ((c.toNat : Int) == 62) = false := by rw [show ((c.toNat : Int) == 62) = (c == 62) from byte_eq c 62 (by omega)]; simpa using h62
        go_enter Tryd.func38, Tryd.ntmps38
        go_wp2_with (go_at_call 57; refine Calls.mono HI ?_; rintro e w' ⟨rfl, rfl⟩)
        go_ret2
        exact ⟨by simp [quoteT, h62, S], Below.refl _ _⟩
  · have hq : quoteT col t = none := by cases t <;> simp [quoteT, hcol]
    rw [hq]
    clear hq
    go_enter Tryd.func38, Tryd.ntmps38
    go_wp2_with (go_at_call 57; refine Calls.mono HI ?_; rintro e w' ⟨rfl, rfl⟩)
    go_ret2
    exact ⟨rfl, Below.refl _ _⟩
theorem drop_len {l : List UInt8} {n : Nat} (hl : l.length ≤ 140737488355328) : (l.drop n).length ≤ 140737488355328 := by rw [List.length_drop]; omega
theorem quote_any (l : List UInt8) (w : World) (hl : l.length ≤ 140737488355328) :
    Calls Tryd.prog 38 #[.string (S l)] w fun e w' => e = .returned (.tuple #[.string (S ((quote l).getD [])), .bool (quote l).isSome]) ∧ Below w.heap.size w w' :=
  quote_core l _ _ w (inside_of l w hl) (drop_len hl)
def sign3 (c : UInt8) : Bool := c == 42 || c == 45 || c == 95
theorem index_sign3 (c : UInt8) : (Lib.indexByte [42, 45, 95] c < 0) ↔ sign3 c = false := by
  rw [(indexByte_neg _ _).2]
  simp [sign3, and_assoc]
theorem index_sign3_any (c : UInt8) (w : World) :
    Calls Tryd.prog 62 #[.string ⟨#[42, 45, 95]⟩, .int .u8 c.toNat] w fun e w' => e = .returned (.int .i64 (Lib.indexByte [42, 45, 95] c)) ∧ w = w' := indexByte_any [42, 45, 95] c w
theorem index_white_any (c : UInt8) (w : World) :
    Calls Tryd.prog 62 #[.string ⟨#[32, 9]⟩, .int .u8 c.toNat] w fun e w' => e = .returned (.int .i64 (Lib.indexByte [32, 9] c)) ∧ w = w' := indexByte_any [32, 9] c w
def okSign (c x : UInt8) : Bool := x == c || white x
def cnt (c : UInt8) (l : List UInt8) : Nat := (l.filter (· == c)).length
theorem cnt_snoc (c x : UInt8) (l : List UInt8) : cnt c (l ++ [x]) = cnt c l + if x = c then 1 else 0 := by
  unfold cnt
  rw [List.filter_append, List.length_append]
  by_cases h : x = c <;> simp [h]
theorem cnt_le (c : UInt8) (l : List UInt8) : cnt c l ≤ l.length := List.length_filter_le _ _
theorem take_snoc {l : List UInt8} {k : Nat} (h : k < l.length) : l.take (k + 1) = l.take k ++ [l[k]] := by
  rw [List.take_succ_eq_append_getElem h]
set_option maxRecDepth 100000 in
theorem break_core (l t : List UInt8) (col : Nat) (w : World) (HI : Inside l col t w) (hl : t.length ≤ 140737488355328) :
    Calls Tryd.prog 49 #[.string (S l)] w fun e w' => e = .returned (.bool (breakT col t)) ∧ Below w.heap.size w w' := by
  have hts := S_size t
  have hn := S_nil t
  by_cases hcol : col ≤ 3
  · cases t with
    | nil =>
      simp only [List.isEmpty_nil] at hn
      go_enter Tryd.func49, Tryd.ntmps49
      go_wp2_with (go_at_call 57; refine Calls.mono HI ?_; rintro e w' ⟨rfl, rfl⟩)
      go_ret
      exact ⟨rfl, Below.refl _ _⟩
    | cons c r =>
      simp only [List.isEmpty_cons] at hn
      have hg := S_get (c :: r) 0 (by rw [S_size]; simp)
      have hg0 : (c :: r)[0] = c := rfl
      by_cases hsg : sign3 c = true
      · have hix : ¬ Lib.indexByte [42, 45, 95] c < 0 := fun h => by rw [(index_sign3 c).1 h] at hsg; cases hsg
        have kb := fun W => Lib.run_convert_string_bytes (P := Tryd.prog) W 9 23 5 (S (c :: r)) Tryd.underlying9 Tryd.underlying23 Tryd.underlying5
        simp only [List.length_cons] at hts hl
        go_enter Tryd.func49, Tryd.ntmps49
        go_wp2_with (first | (go_at_call 57; refine Calls.mono HI ?_; rintro e w' ⟨rfl, rfl⟩) | (go_at_call 62; refine (index_sign3_any c _).mono ?_; rintro e w' ⟨rfl, rfl⟩))
        have hbel : Below w.heap.size w (Lib.bytesWorld w 5 (S (c :: r))) := ⟨rfl, rfl, rfl, by rw [Lib.bytesWorld_size]; omega, fun i hi => Lib.bytesWorld_at_old w 5 (S (c :: r)) i (by omega)⟩
        have hcell : ∀ k (hk : k < (c :: r).length), (Lib.bytesWorld w 5 (S (c :: r))).cell? ⟨w.heap.size, k, none⟩ = some (.int .u8 ((c :: r)[k].toNat)) := by
          intro k hk
          rw [Lib.bytesWorld_cell w 5 (S (c :: r)) k (by rw [S_size]; exact hk), S_list, List.getD_eq_getElem?_getD, List.getElem?_eq_getElem hk]
          rfl
        have HCELL := Lib.hid hcell
        have HBEL := Lib.hid hbel
        clear hcell hbel kb
        generalize Lib.bytesWorld w 5 (S (c :: r)) = w1 at HCELL HBEL ⊢
        go_loop [6, 30] (fun a b => ∃ k : Nat, k ≤ r.length + 1 ∧ a = .int .i64 (cnt c ((c :: r).take k)) ∧ b = .int .i64 (k : Int) ∧ ((c :: r).take k).all (okSign c) = true) (fun _ b => r.length + 1 - (intOf b).toNat)
        case atStart => exact ⟨0, by omega, by simp [cnt], rfl, by simp⟩
        case round =>
          obtain ⟨k, hk, rfl, rfl, hok⟩ := hrel
          have HOK := Lib.hid hok
          have hcl := cnt_le c ((c :: r).take k)
          have hcl2 : ((c :: r).take k).length ≤ k := List.length_take_le _ _
          clear hok
          by_cases hlt : k < r.length + 1
          · have hck := HCELL.out k hlt
            have hts' := take_snoc (l := c :: r) (k := k) hlt
            have HTS := Lib.hid hts'
            clear hts'
            by_cases hxc : (c :: r)[k] = c
            · have e1 : ((((c :: r)[k]).toNat : Int) == (c.toNat : Int)) = true := by rw [hxc]; simp
              have hcs : cnt c ((c :: r).take (k + 1)) = cnt c ((c :: r).take k) + 1 := by rw [HTS.out, cnt_snoc, if_pos hxc]
              have HCS := Lib.hid hcs
              have HXC := Lib.hid hxc
              clear hxc hcs
              go_wp2
              go_round
              case rel => exact ⟨k + 1, by omega, by rw [HCS.out]; go_num, by go_num, by rw [HTS.out, List.all_append, HOK.out, HXC.out]; simp [okSign]⟩
              case measure => simp [intOf]; omega
            · have e1 : ((((c :: r)[k]).toNat : Int) == (c.toNat : Int)) = false := by
                rw [beq_eq_false_iff_ne]
                intro e
                exact hxc (UInt8.toNat_inj.1 (by omega))
              have hcs : cnt c ((c :: r).take (k + 1)) = cnt c ((c :: r).take k) := by rw [HTS.out, cnt_snoc, if_neg hxc]; rfl
              have HCS := Lib.hid hcs
              have HXC := Lib.hid hxc
              clear hxc hcs
              by_cases hwh : white ((c :: r)[k]) = true
              · have hiw : ¬ Lib.indexByte [32, 9] ((c :: r)[k]) < 0 := fun h => by rw [(indexByte_white _).1 h] at hwh; cases hwh
                have HWH := Lib.hid hwh
                clear hwh
                go_wp2_with (go_at_call 62; refine (index_white_any _ _).mono ?_; rintro e w' ⟨rfl, rfl⟩)
                go_round
                case rel => exact ⟨k + 1, by omega, by rw [HCS.out], by go_num, by rw [HTS.out, List.all_append, HOK.out]; simp [okSign, HWH.out]⟩
                case measure => simp [intOf]; omega
              · have hiw : Lib.indexByte [32, 9] ((c :: r)[k]) < 0 := (indexByte_white _).2 (by simpa using hwh)
                have HWH := Lib.hid hwh
                clear hwh
                go_wp2_with (go_at_call 62; refine (index_white_any _ _).mono ?_; rintro e w' ⟨rfl, rfl⟩)
                go_ret
                refine ⟨?_, HBEL.out⟩
                have hall : (c :: r).all (fun x => x == c || white x) = false := by
                  rw [List.all_eq_false]
                  exact ⟨(c :: r)[k], List.getElem_mem _, by simp [HXC.out, HWH.out]⟩
                simp only [breakT]
                rw [hall]
                simp
          · have hk' : k = r.length + 1 := by omega
            subst hk'
            have htk : (c :: r).take (r.length + 1) = c :: r := by rw [List.take_of_length_le]; simp
            rw [htk] at HOK ⊢
            clear htk hcl2
            have hd : decide ((3 : Int) ≤ (cnt c (c :: r) : Int)) = decide (3 ≤ cnt c (c :: r)) := by rw [decide_eq_decide]; omega
            have HD := Lib.hid hd
            have hall : (c :: r).all (fun x => x == c || white x) = true := HOK.out
            have HALL := Lib.hid hall
            clear hd hall
            go_wp2
            go_ret
            refine ⟨?_, HBEL.out⟩
            show Ending.returned (.bool (decide ((3 : Int) ≤ (cnt c (c :: r) : Int)))) = _
            simp only [breakT]
            rw [HALL.out, show (c == 42 || c == 45 || c == 95) = true from hsg, HD.out]
            simp [hcol, cnt]
      · have hsg' : sign3 c = false := by simpa using hsg
        have hix : Lib.indexByte [42, 45, 95] c < 0 := (index_sign3 c).2 hsg'
        go_enter Tryd.func49, Tryd.ntmps49
        go_wp2_with (first | (go_at_call 57; refine Calls.mono HI ?_; rintro e w' ⟨rfl, rfl⟩) | (go_at_call 62; refine (index_sign3_any c _).mono ?_; rintro e w' ⟨rfl, rfl⟩))
        go_ret
        refine ⟨?_, Below.refl _ _⟩
        simp only [breakT]
        rw [show (c == 42 || c == 45 || c == 95) = false from hsg']
        simp
  · have hq : breakT col t = false := by cases t <;> simp [breakT, hcol]
    rw [hq]
    clear hq
    go_enter Tryd.func49, Tryd.ntmps49
    go_wp2_with (go_at_call 57; refine Calls.mono HI ?_; rintro e w' ⟨rfl, rfl⟩)
    go_ret
    exact ⟨rfl, Below.refl _ _⟩
theorem break_any (l : List UInt8) (w : World) (hl : l.length ≤ 140737488355328) :
    Calls Tryd.prog 49 #[.string (S l)] w fun e w' => e = .returned (.bool (isBreak l)) ∧ Below w.heap.size w w' :=
  break_core l _ _ w (inside_of l w hl) (drop_len hl)
end Go.Proofs.YtjgaobkgmheocaaDoor
