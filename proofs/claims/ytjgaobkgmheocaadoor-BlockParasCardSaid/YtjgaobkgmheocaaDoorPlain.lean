/- Lines of a document; plain lines: pure words. -/
import Derived.Test.YtjgaobkgmheocaaDoorParse
namespace Go.Proofs.YtjgaobkgmheocaaDoor
open Go Go.RowKit

theorem textR_ascii (l : List UInt8) (h : ∀ c, c ∈ l → c ≠ 0 ∧ c.toNat < 128) : textR l = l := by
  have key : ∀ f pos, pos + f = l.length → textFrom (S l) f pos = l.drop pos := by
    intro f
    induction f with
    | zero => intro pos hp; rw [List.drop_of_length_le (by omega)]; rfl
    | succ f ih =>
      intro pos hp
      have hlt : pos < l.length := by omega
      have hs : pos < (S l).size := by rw [S_size]; exact hlt
      obtain ⟨h0, h1⟩ := h l[pos] (List.getElem_mem _)
      have hd : Utf8.decode (S l) pos = (l[pos].toNat, 1) := by
        have := decode_ascii (S l) pos hs (by rw [S_get]; exact h1)
        rw [S_get] at this
        exact this
      have hn : l[pos].toNat ≠ 0 := fun e => h0 (UInt8.toNat_inj.1 e)
      unfold textFrom
      rw [if_pos hs, hd, List.drop_eq_getElem_cons hlt]
      show Lib.encodeRune ((fixR l[pos].toNat : Nat) : Int) ++ textFrom (S l) f (pos + 1) = _
      rw [ih (pos + 1) (by omega)]
      have hf : fixR l[pos].toNat = l[pos].toNat := if_neg hn
      have he : Lib.encodeRune ((l[pos].toNat : Nat) : Int) = [l[pos]] := by
        unfold Lib.encodeRune
        rw [Lib.encodeRuneZ_one (by omega) (by omega)]
        simp
      rw [hf, he]
      rfl
  exact key l.length 0 (by omega)

/-! lines -/
theorem drop_shift (p l : List UInt8) (k : Nat) : (p ++ l).drop (p.length + k) = l.drop k := by
  rw [← List.drop_drop, List.drop_left]
theorem get_shift (p l : List UInt8) (k : Nat) : (p ++ l)[p.length + k]? = l[k]? := by
  rw [List.getElem?_append_right (by omega), Nat.add_sub_cancel_left]
theorem lineEnd_shift (p l : List UInt8) (k : Nat) : lineEnd (p ++ l) (p.length + k) = p.length + lineEnd l k := by
  unfold lineEnd
  rw [drop_shift]
  omega
theorem lineNext_shift (p l : List UInt8) (e : Nat) : lineNext (p ++ l) (p.length + e) = p.length + lineNext l e := by
  unfold lineNext
  rw [get_shift, show p.length + e + 1 = p.length + (e + 1) by omega, get_shift, List.length_append]
  by_cases h : e < l.length
  · rw [if_pos h, if_pos (by omega)]
    split <;> omega
  · rw [if_neg h, if_neg (by omega)]
def shift3 (n : Nat) (x : Nat × Nat × Nat) : Nat × Nat × Nat := (n + x.1, n + x.2.1, n + x.2.2)
theorem splitN_shift (p l : List UInt8) : ∀ (f k : Nat), splitN (p ++ l) f (p.length + k) = (splitN l f k).map (shift3 p.length)
  | 0, k => rfl
  | f + 1, k => by
    unfold splitN
    rw [lineEnd_shift, lineNext_shift, List.length_append, splitN_shift p l f]
    by_cases h : k < l.length
    · rw [if_pos h, if_pos (by omega)]; rfl
    · rw [if_neg h, if_neg (by omega)]; rfl
theorem splitN_fuel (l : List UInt8) : ∀ (f k : Nat), l.length ≤ k + f → splitN l f k = splitN l (l.length - k) k
  | 0, k, h => by rw [show l.length - k = 0 by omega]
  | f + 1, k, h => by
    by_cases hk : k < l.length
    · obtain ⟨m, hm⟩ : ∃ m, l.length - k = m + 1 := ⟨l.length - k - 1, by omega⟩
      have hg := next_gt l k hk
      rw [hm]
      unfold splitN
      rw [if_pos hk, if_pos hk, splitN_fuel l f _ (by omega), splitN_fuel l m _ (by omega)]
    · rw [show l.length - k = 0 by omega]
      unfold splitN
      rw [if_neg hk]
termination_by f k => f + (l.length - k)
decreasing_by all_goals omega
theorem splitN_succ (l : List UInt8) (f k : Nat) : splitN l (f + 1) k = if k < l.length then (k, lineEnd l k, lineNext l (lineEnd l k)) :: splitN l f (lineNext l (lineEnd l k)) else [] := rfl
def noEnd (l : List UInt8) : Prop := ∀ c, c ∈ l → c ≠ 10 ∧ c ≠ 13
theorem lineEnd_first (a r : List UInt8) (h : noEnd a) : lineEnd (a ++ 10 :: r) 0 = a.length := by
  unfold lineEnd
  rw [List.drop_zero, Nat.zero_add]
  induction a with
  | nil => rfl
  | cons c b ih =>
    have hc := h c List.mem_cons_self
    have he : isEnd c = false := by unfold isEnd; simp [hc.1, hc.2]
    rw [List.cons_append, List.takeWhile_cons, he]
    simp only [Bool.not_false, if_true, List.length_cons]
    rw [ih (fun x hx => h x (List.mem_cons_of_mem _ hx))]
theorem textsL_cons (a r : List UInt8) (h : noEnd a) : textsL (a ++ 10 :: r) = a :: textsL r := by
  have hl : (a ++ 10 :: r).length = a.length + 1 + r.length := by rw [List.length_append, List.length_cons]; omega
  have he := lineEnd_first a r h
  have hn : lineNext (a ++ 10 :: r) a.length = a.length + 1 := by
    unfold lineNext
    rw [if_pos (by omega), List.getElem?_append_right (Nat.le_refl _), Nat.sub_self]
    rw [if_neg (by simp)]
  have hs : splitL (a ++ 10 :: r) = (0, a.length, a.length + 1) :: (splitL r).map (shift3 (a.length + 1)) := by
    unfold splitL
    obtain ⟨m, hm⟩ : ∃ m, (a ++ 10 :: r).length = m + 1 := ⟨(a ++ 10 :: r).length - 1, by omega⟩
    rw [hm, splitN_succ, if_pos (by omega), he, hn]
    congr 1
    have h1 := splitN_shift (a ++ [10]) r m 0
    have h2 : (a ++ [10]).length = a.length + 1 := by simp
    have h3 : a ++ [10] ++ r = a ++ 10 :: r := by simp
    rw [h2, h3, Nat.add_zero] at h1
    rw [h1, splitN_fuel r m 0 (by omega), Nat.sub_zero]
  unfold textsL
  rw [hs, List.map_cons, List.map_map]
  congr 1
  · show ((a ++ 10 :: r).take a.length).drop 0 = a
    rw [List.take_left, List.drop_zero]
  · refine List.map_congr_left fun x _ => ?_
    show ((a ++ 10 :: r).take (a.length + 1 + x.2.1)).drop (a.length + 1 + x.1) = (r.take x.2.1).drop x.1
    have h2 : (a ++ [10]).length = a.length + 1 := by simp
    have h3 : a ++ 10 :: r = a ++ [10] ++ r := by simp
    rw [h3, ← h2, List.take_length_add_append, drop_shift]
theorem textsL_join : ∀ (ls : List (List UInt8)), (∀ l, l ∈ ls → noEnd l) → textsL (joinL ls [10]) = ls
  | [], _ => rfl
  | a :: r, h => by
    have h1 : joinL (a :: r) [10] = a ++ 10 :: joinL r [10] := by unfold joinL; simp
    rw [h1, textsL_cons a _ (h a List.mem_cons_self), textsL_join r fun l hl => h l (List.mem_cons_of_mem _ hl)]
theorem parseS_join (ls : List (List UInt8)) (h : ∀ l, l ∈ ls → noEnd l) (hn : (joinL ls [10]).length ≤ 65536) : parseS (joinL ls [10]) = runS initS 0 ls := by
  unfold parseS
  rw [List.take_of_length_le hn, textsL_join ls h]

/-! plain lines: words of letters -/
structure Plain (l : List UInt8) : Prop where
  ne : l ≠ []
  letters : ∀ c, c ∈ l → 97 ≤ c ∧ c ≤ 122
theorem letter_facts {c : UInt8} (h : 97 ≤ c ∧ c ≤ 122) : c ≠ 0 ∧ c.toNat < 128 ∧ white c = false ∧ c ≠ 62 ∧ c ≠ 42 ∧ c ≠ 45 ∧ c ≠ 43 ∧ c ≠ 95 ∧ c ≠ 35 ∧ c ≠ 96 ∧ c ≠ 126 ∧ c ≠ 10 ∧ c ≠ 13 := by
  obtain ⟨h1, h2⟩ := h
  rw [UInt8.le_iff_toNat_le] at h1 h2
  have e1 : (97 : UInt8).toNat = 97 := rfl
  have e2 : (122 : UInt8).toNat = 122 := rfl
  have ne : ∀ d : UInt8, (d.toNat < 97 ∨ 122 < d.toNat) → c ≠ d := fun d hd e => by subst e; omega
  have hw : white c = false := by
    unfold white
    rw [Bool.or_eq_false_iff]
    exact ⟨beq_eq_false_iff_ne.2 (ne 32 (.inl (by decide))), beq_eq_false_iff_ne.2 (ne 9 (.inl (by decide)))⟩
  exact ⟨ne 0 (.inl (by decide)), by omega, hw, ne 62 (.inl (by decide)), ne 42 (.inl (by decide)), ne 45 (.inl (by decide)), ne 43 (.inl (by decide)), ne 95 (.inl (by decide)), ne 35 (.inl (by decide)), ne 96 (.inl (by decide)), ne 126 (.inr (by decide)), ne 10 (.inl (by decide)), ne 13 (.inl (by decide))⟩
section
variable {l : List UInt8}
theorem Plain.cons (h : Plain l) : ∃ c r, l = c :: r ∧ 97 ≤ c ∧ c ≤ 122 := by
  cases l with
  | nil => exact absurd rfl h.ne
  | cons c r => exact ⟨c, r, rfl, h.letters c List.mem_cons_self⟩
theorem Plain.noEnd (h : Plain l) : noEnd l := fun c hc => by
  obtain ⟨_, _, _, _, _, _, _, _, _, _, _, h1, h2⟩ := letter_facts (h.letters c hc)
  exact ⟨h1, h2⟩
theorem Plain.text (h : Plain l) : textR l = l := textR_ascii l fun c hc => ⟨(letter_facts (h.letters c hc)).1, (letter_facts (h.letters c hc)).2.1⟩
theorem Plain.indent (h : Plain l) : indent l = (0, 0) := by
  obtain ⟨c, r, rfl, hc⟩ := h.cons
  unfold Go.Proofs.YtjgaobkgmheocaaDoor.indent indentF
  rw [if_neg (by rw [(letter_facts hc).2.2.1]; nofun)]
theorem Plain.empty (h : Plain l) : empty l = false := by
  obtain ⟨c, r, rfl, hc⟩ := h.cons
  unfold Go.Proofs.YtjgaobkgmheocaaDoor.empty
  rw [h.indent]
  rfl
theorem Plain.quote (h : Plain l) : quote l = none := by
  have hi := h.indent
  obtain ⟨c, r, rfl, hc⟩ := h.cons
  unfold Go.Proofs.YtjgaobkgmheocaaDoor.quote
  rw [hi]
  show quoteT 0 (c :: r) = none
  unfold quoteT
  dsimp only
  rw [if_neg (fun e => (letter_facts hc).2.2.2.1 e.2)]
theorem Plain.isBreak (h : Plain l) : isBreak l = false := by
  have hi := h.indent
  obtain ⟨c, r, rfl, hc⟩ := h.cons
  obtain ⟨_, _, _, _, h1, h2, _, h3, _⟩ := letter_facts hc
  unfold Go.Proofs.YtjgaobkgmheocaaDoor.isBreak
  rw [hi]
  show breakT 0 (c :: r) = false
  unfold breakT
  dsimp only
  rw [beq_eq_false_iff_ne.2 h1, beq_eq_false_iff_ne.2 h2, beq_eq_false_iff_ne.2 h3]
  rfl
theorem Plain.item (h : Plain l) : item l = none := by
  have hi := h.indent
  obtain ⟨c, r, rfl, hc⟩ := h.cons
  obtain ⟨_, _, _, _, h1, h2, h3, _⟩ := letter_facts hc
  unfold Go.Proofs.YtjgaobkgmheocaaDoor.item
  rw [hi]
  show itemT _ 0 (c :: r) = none
  unfold itemT
  dsimp only
  rw [if_pos (.inr (.inl ⟨h1, h2, h3⟩))]
theorem Plain.heading (h : Plain l) : heading l = none := by
  have hi := h.indent
  obtain ⟨c, r, rfl, hc⟩ := h.cons
  obtain ⟨_, _, _, _, _, _, _, _, h1, _⟩ := letter_facts hc
  unfold Go.Proofs.YtjgaobkgmheocaaDoor.heading
  rw [hi]
  show headingT 0 (c :: r) = none
  unfold headingT
  rw [if_pos (.inr (.inl (by unfold runL; rw [if_neg h1]; exact Nat.zero_lt_one)))]
theorem Plain.begins (h : Plain l) : begins l = none := by
  have hi := h.indent
  obtain ⟨c, r, rfl, hc⟩ := h.cons
  obtain ⟨_, _, _, _, _, _, _, _, _, h1, h2, _⟩ := letter_facts hc
  unfold Go.Proofs.YtjgaobkgmheocaaDoor.begins
  rw [hi]
  show beginsT 0 (c :: r) = none
  unfold beginsT
  dsimp only
  rw [if_pos (.inr ⟨h1, h2⟩)]
theorem Plain.trim (h : Plain l) : trim l = l := by
  have hw : ∀ c, c ∈ l → white c = false := fun c hc => (letter_facts (h.letters c hc)).2.2.1
  have hd : ∀ m : List UInt8, (∀ c, c ∈ m → white c = false) → m.dropWhile white = m := by
    intro m hm
    cases m with
    | nil => rfl
    | cons a b => rw [List.dropWhile_cons, if_neg (by rw [hm a List.mem_cons_self]; nofun)]
  unfold Go.Proofs.YtjgaobkgmheocaaDoor.trim trimL trimR
  rw [hd l.reverse (fun c hc => hw c (List.mem_reverse.1 hc)), List.reverse_reverse, hd l hw]
theorem Plain.begF (h : Plain l) (i k : Nat) (st : PS) (fr : Bool) : beginsF i k st l fr = (st, l, fr) := by
  cases k with
  | zero => rfl
  | succ k => exact beginsF_none i k st l fr h.quote h.item
theorem Plain.block (h : Plain l) (st : PS) (i : Nat) (fr : Bool) : blockS st i l fr = none := by
  unfold blockS
  rw [h.heading, h.isBreak, h.begins]
  rfl
/-- A plain line that no open container takes, and that is in no fence. -/
theorem Plain.next (h : Plain l) (st : PS) (hr : runRow st st.row l 0 = (0, l)) (hf : (0 == st.row.length && openFence st) = false) : nextS st l = textS st 0 l false := by
  unfold nextS
  rw [hr]
  dsimp only
  rw [hf, h.begF, if_neg (by nofun)]
  dsimp only
  rw [h.empty, if_neg (by nofun), h.block]
end
end Go.Proofs.YtjgaobkgmheocaaDoor
