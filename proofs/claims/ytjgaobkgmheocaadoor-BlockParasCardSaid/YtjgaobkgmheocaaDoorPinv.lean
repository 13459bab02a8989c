/- What stays true of a parser's state: pure words. -/
import Derived.Test.YtjgaobkgmheocaaDoorPnext
namespace Go.Proofs.YtjgaobkgmheocaaDoor
open Go Go.RowKit

theorem item_inn {l r : List UInt8} {c : UInt8} {n : Nat} (h : item l = some (c, n, r)) : n ≤ 8 ∧ 2 ≤ n := by
  unfold item at h
  cases hc : l.drop (indent l).2 with
  | nil => rw [hc] at h; cases h
  | cons d t =>
    rw [hc] at h
    unfold itemT at h
    dsimp only at h
    split at h
    · cases h
    · rename_i hcond
      have h3 : ¬ 3 < (indent l).1 := fun h3 => hcond (.inl h3)
      split at h
      · injection h with h
        injection h with _ h
        injection h with h _
        omega
      · rename_i hne
        injection h with h
        injection h with _ h
        injection h with h _
        have hw : wide (indent t).1 ≤ 4 := by unfold wide; split <;> omega
        have hw0 : 1 ≤ wide (indent t).1 := by
          have : headBad t ≠ true := fun hb => hcond (.inr (.inr (.inl hb)))
          cases t with
          | nil => exact absurd rfl hne
          | cons x y =>
            have hx : white x = true := by unfold headBad at this; simpa using this
            have h1 : 1 ≤ (indent (x :: y)).1 := by
              unfold indent indentF
              rw [if_pos hx]
              have hs := step_gt 0 x
              have hle : ∀ (l : List UInt8) (c : Nat), c ≤ (indentF c l).1 := by
                intro l
                induction l with
                | nil => intro c; exact Nat.le_refl _
                | cons a b ih =>
                  intro c
                  unfold indentF
                  split
                  · have := ih (step c a); have := step_gt c a; dsimp only; omega
                  · exact Nat.le_refl _
              have := hle y (step 0 x)
              dsimp only
              omega
            unfold wide
            split <;> omega
        omega
theorem begins_indent {l : List UInt8} {f : FO} (h : begins l = some f) : f.indent ≤ 3 := by
  unfold begins at h
  cases hc : l.drop (indent l).2 with
  | nil => rw [hc] at h; cases h
  | cons d t =>
    rw [hc] at h
    unfold beginsT at h
    dsimp only at h
    split at h
    · cases h
    · rename_i hcond
      split at h
      · cases h
      · injection h with h
        subst h
        have h3 : ¬ 3 < (indent l).1 := fun h3 => hcond (.inl h3)
        show (indent l).1 ≤ 3
        omega
theorem begins_len {l : List UInt8} {f : FO} (h : begins l = some f) : f.count ≤ l.length ∧ f.info.length ≤ l.length ∧ 3 ≤ f.count ∧ (f.char = 96 ∨ f.char = 126) := by
  unfold begins at h
  cases hc : l.drop (indent l).2 with
  | nil => rw [hc] at h; cases h
  | cons d t =>
    have hl : (d :: t).length ≤ l.length := by rw [← hc, List.length_drop]; omega
    rw [hc] at h
    unfold beginsT at h
    dsimp only at h
    split at h
    · cases h
    · rename_i hcond
      split at h
      · cases h
      · rename_i hc2
        injection h with h
        subst h
        have h1 := runL_le d (d :: t)
        refine ⟨Nat.le_trans h1 hl, ?_, ?_, ?_⟩
        · refine Nat.le_trans (trim_len _) ?_
          rw [List.length_drop]
          omega
        · show 3 ≤ runL d (d :: t)
          omega
        · show d = 96 ∨ d = 126
          by_cases h1 : d = 96
          · exact .inl h1
          · by_cases h2 : d = 126
            · exact .inr h2
            · exact absurd (.inr ⟨h1, h2⟩) hcond
theorem nd_set' (st : PS) (i j : Nat) (n : Nd) : (setNd st i n).nd j = if j = i ∧ i < st.nodes.length then n else st.nd j := by
  by_cases hi : i < st.nodes.length
  · rw [nd_set _ _ _ _ hi]
    by_cases h : j = i
    · rw [if_pos h, if_pos ⟨h, hi⟩]
    · rw [if_neg h, if_neg (fun e => h e.1)]
  · rw [if_neg (fun e => hi e.2)]
    unfold setNd PS.nd
    rw [List.set_eq_of_length_le (by omega)]
theorem runRow_len (st : PS) : ∀ (r : List Nat) (s : List UInt8) (k : Nat), (runRow st r s k).2.length ≤ s.length + 3 * r.length
  | [], s, k => by unfold runRow; simp
  | i :: r, s, k => by
    unfold runRow
    split
    · rename_i t he
      have h1 := takesV_len he
      have h2 := runRow_len st r t (k + 1)
      simp only [List.length_cons]
      omega
    · dsimp only; omega
theorem begins_line (i : Nat) : ∀ (k : Nat) (st : PS) (l : List UInt8) (fr : Bool), (beginsF i k st l fr).2.1.length ≤ l.length + 3 * k
  | 0, _, _, _ => by unfold beginsF; dsimp only; omega
  | k + 1, st, l, fr => by
    unfold beginsF
    dsimp only
    split
    · rename_i r he
      have h1 := quote_len he
      have h2 := begins_line i k (pushS (if fr then st else shutS st i) quoteNd) r true
      omega
    · split
      · dsimp only; omega
      · rename_i c n r he
        have h1 := item_len he
        have h2 := begins_line i k (itemS (if fr then st else shutS st i) c n) r true
        omega
/-- What holds of each node. -/
def NI (P : Nd → Prop) (st : PS) : Prop := ∀ j, P (st.nd j)
/-- It does not hang on a node's line, or its kids. -/
structure Loose (P : Nd → Prop) : Prop where
  line : ∀ n k, P n → P { n with line := k }
  kids : ∀ n k, P n → P { n with kids := k }
section
variable {P : Nd → Prop} {st : PS}
theorem NI.set (h : NI P st) {n : Nd} (hn : P n) (i : Nat) : NI P (setNd st i n) := fun j => by
  rw [nd_set']
  split
  · exact hn
  · exact h j
theorem NI.new (h : NI P st) {n : Nd} (hn : P n) : NI P (newS st n) := fun j => by
  rw [nd_new]
  split
  · exact hn
  · exact h j
theorem NI.same {st' : PS} (h : NI P st) (e : st'.nodes = st.nodes) : NI P st' := fun j => by unfold PS.nd; rw [e]; exact h j
theorem NI.add (L : Loose P) (h : NI P st) (i : Nat) : NI P (addS st i) := by
  have h1 : NI P (lineS st i) := h.set (L.line _ _ (h i)) i
  exact (h1.set (L.kids _ _ (h1 _)) _).same rfl
theorem NI.addNew (L : Loose P) (h : NI P st) {n : Nd} (hn : P n) (i : Nat) : NI P (addS (newS st n) i) := (h.new hn).add L i
theorem NI.shut (h : NI P st) (k : Nat) : NI P (shutS st k) := h.same rfl
theorem NI.leafS (h : NI P st) (o : Option Nat) : NI P (leafS st o) := h.same rfl
theorem NI.push (L : Loose P) (h : NI P st) {n : Nd} (hn : P n) : NI P (pushS st n) := (h.addNew L hn st.nodes.length).same rfl
theorem NI.putItem (L : Loose P) (h : NI P st) (j inn : Nat) (hn : P (itemNd st.line inn)) : NI P (putItem st j inn) := by
  have h1 := h.new hn
  have h2 : NI P (kidS (newS st (itemNd st.line inn)) j st.nodes.length) := h1.set (L.kids _ _ (h1 j)) j
  exact h2.same rfl
theorem NI.item (L : Loose P) (h : NI P st) (c : UInt8) (inn : Nat) (hl : P (listNd c)) (hn : P (itemNd st.line inn)) : NI P (itemS st c inn) := by
  unfold itemS
  dsimp only
  split
  · exact h.putItem L _ _ hn
  · exact (h.addNew L hl _).putItem L _ _ hn
theorem NI.beg (L : Loose P) (hq : P quoteNd) (hl : ∀ c, P (listNd c)) (hi : ∀ k n, n ≤ 8 → P (itemNd k n)) (i : Nat) : ∀ (k : Nat) (st : PS) (l : List UInt8) (fr : Bool), NI P st → NI P (beginsF i k st l fr).1
  | 0, _, _, _, h => h
  | k + 1, st, l, fr, h => by
    have h1 : NI P (if fr then st else shutS st i) := by split; exact h; exact h.shut i
    unfold beginsF
    dsimp only
    split
    · exact NI.beg L hq hl hi i k _ _ _ (h1.push L hq)
    · split
      · exact h
      · rename_i c n r he
        exact NI.beg L hq hl hi i k _ _ _ (h1.item L c n (hl c) (hi _ n (item_inn he).1))
theorem NI.fresh (h : NI P st) (i : Nat) (fr : Bool) : NI P (if fr then st else shutS st i) := by split; exact h; exact h.shut i
theorem NI.leafNew (L : Loose P) (h : NI P st) {n : Nd} (hn : P n) : NI P (leafNew st n) := (h.addNew L hn st.nodes.length).leafS _
theorem NI.block (L : Loose P) (h : NI P st) (i : Nat) (s : List UInt8) (fr : Bool) (hh : ∀ lv t, heading s = some (lv, t) → P (headNd lv t)) (hr : P ruleNd) (hf : ∀ f, begins s = some f → P (fenceNd f)) {st' : PS} (e : blockS st i s fr = some st') : NI P st' := by
  unfold blockS at e
  dsimp only at e
  split at e
  · rename_i lv t he
    injection e with e
    subst e
    exact (h.fresh i fr).addNew L (hh lv t he) _
  · split at e
    · injection e with e
      subst e
      exact (h.fresh i fr).addNew L hr _
    · split at e
      · rename_i f he
        injection e with e
        subst e
        exact (h.fresh i fr).leafNew L (hf f he)
      · cases e
variable {P' : Nd → Prop}
theorem NI.mono (h : NI P st) (hm : ∀ n, P n → P' n) : NI P' st := fun j => hm _ (h j)
theorem NI.ln (h : NI P st) (hm : ∀ n, P n → P' n) (x : Nat) (t : List UInt8) (hl : ∀ n, P n → P' { n with lines := n.lines ++ [t] }) : NI P' (lnS st x t) := (h.mono hm).set (hl _ (h x)) x
theorem NI.text (L : Loose P') (h : NI P st) (hm : ∀ n, P n → P' n) (i : Nat) (s : List UInt8) (fr : Bool) (hl : ∀ n, P n → P' { n with lines := n.lines ++ [trim s] }) (ht : P' (textNd (trim s))) : NI P' (textS st i s fr) := by
  unfold textS
  split
  · exact h.ln hm _ _ hl
  · exact ((h.mono hm).fresh i fr).leafNew L ht
/-- A line is taken: what holds of each node. -/
theorem NI.next (L : Loose P) (L' : Loose P') (h : NI P st) (hm : ∀ n, P n → P' n) (l : List UInt8) (M : Nat) (hM : l.length + 3 * st.row.length + 123 ≤ M) (hl : ∀ n t, t.length ≤ M → P n → P' { n with lines := n.lines ++ [t] })
    (hq : P quoteNd) (hls : ∀ c, P (listNd c)) (hi : ∀ k n, n ≤ 8 → P (itemNd k n)) (hh : ∀ s lv t, heading s = some (lv, t) → P (headNd lv t)) (hr : P ruleNd) (hf : ∀ s f, begins s = some f → P (fenceNd f)) (ht : ∀ t, t.length ≤ M → P' (textNd t)) : NI P' (nextS st l) := by
  have hrl := runRow_len st st.row l 0
  unfold nextS
  dsimp only
  split
  · split
    · exact (h.mono hm).leafS _
    · refine h.ln hm _ _ (fun n => hl n _ ?_)
      have := strip_len (runRow st st.row l 0).2 (st.nd (st.leaf.getD 0)).fence.indent
      omega
  · have hb := NI.beg L hq hls hi (runRow st st.row l 0).1 (40 - (runRow st st.row l 0).1) st (runRow st st.row l 0).2 false h
    split
    · refine (NI.mono ?_ hm).leafS _
      split
      · exact hb
      · exact hb.shut _
    · split
      · rename_i st3 he
        exact (hb.block L _ _ _ (hh _) hr (hf _) he).mono hm
      · have hbl := begins_line (runRow st st.row l 0).1 (40 - (runRow st st.row l 0).1) st (runRow st st.row l 0).2 false
        have htr := trim_len (beginsF (runRow st st.row l 0).1 (40 - (runRow st st.row l 0).1) st (runRow st st.row l 0).2 false).2.1
        exact hb.text L' hm _ _ _ (fun n => hl n _ (by omega)) (ht _ (by omega))
end
theorem begins_nodes (i : Nat) : ∀ (k : Nat) (st : PS) (l : List UInt8) (fr : Bool), st.nodes.length ≤ (beginsF i k st l fr).1.nodes.length
  | 0, _, _, _ => Nat.le_refl _
  | k + 1, st, l, fr => by
    have h1 : st.nodes.length ≤ (if fr then st else shutS st i).nodes.length := by split; exact Nat.le_refl _; exact Nat.le_refl _
    unfold beginsF
    dsimp only
    split
    · refine Nat.le_trans ?_ (begins_nodes i k _ _ _)
      rw [len_pushS]
      omega
    · split
      · exact Nat.le_refl _
      · exact Nat.le_trans (Nat.le_trans h1 (len_itemS _ _ _)) (begins_nodes i k _ _ _)
/-- A state is sound. -/
structure Ok (st : PS) : Prop where
  wf : Wf st
  sz : Sz st
  pos : 0 < st.nodes.length
theorem Ok.shut {st : PS} (h : Ok st) (k : Nat) : Ok (shutS st k) := ⟨h.wf.shutS k, h.sz.shut k, h.pos⟩
theorem Ok.fresh {st : PS} (h : Ok st) (i : Nat) (fr : Bool) : Ok (if fr then st else shutS st i) := by split; exact h; exact h.shut i
theorem Ok.inx {st : PS} (h : Ok st) : inId st st.row.length < st.nodes.length := inId_lt h.wf h.pos _ (Nat.le_refl _)
theorem Ok.leaf {st : PS} (h : Ok st) (o : Option Nat) (ho : ∀ i, o = some i → i < st.nodes.length) : Ok (leafS st o) := ⟨h.wf.leafS o ho, ⟨h.sz.row, h.sz.kids⟩, h.pos⟩
theorem Ok.addNew {st : PS} (h : Ok st) (n : Nd) (hk : n.kids = []) : Ok (addS (newS st n) st.nodes.length) := by
  refine ⟨Wf.addS (h.wf.new n hk) _ (by rw [len_newS]; omega) ?_, h.sz.addNew n hk h.inx, by rw [len_addNew]; omega⟩
  show inId st st.row.length < st.nodes.length
  exact h.inx
theorem Ok.leafNew {st : PS} (h : Ok st) (n : Nd) (hk : n.kids = []) : Ok (leafNew st n) := (h.addNew n hk).leaf _ (fun i e => by injection e with e; subst e; rw [len_addNew]; omega)
theorem Ok.push {st : PS} (h : Ok st) (n : Nd) (hk : n.kids = []) : Ok (pushS st n) := ⟨h.wf.push n hk h.inx, h.sz.push n hk h.inx, by rw [len_pushS]; omega⟩
theorem Ok.item {st : PS} (h : Ok st) (c : UInt8) (n : Nat) : Ok (itemS st c n) := by
  obtain ⟨h1, h2, _⟩ := itemS_ok h.wf h.sz h.pos c n
  exact ⟨h1, h2, Nat.lt_of_lt_of_le h.pos (len_itemS st c n)⟩
theorem Ok.ln {st : PS} (h : Ok st) (x : Nat) (t : List UInt8) (hx : x < st.nodes.length) : Ok (lnS st x t) := by
  refine ⟨h.wf.set x _ hx (fun k hk => h.wf.kids x hx k hk), ⟨by unfold lnS; rw [len_set]; exact h.sz.row, fun i => ?_⟩, by unfold lnS; rw [len_set]; exact h.pos⟩
  unfold lnS
  rw [nd_set _ _ _ _ hx, len_set]
  split
  · exact h.sz.kids x
  · exact h.sz.kids i
theorem Ok.beg (i : Nat) : ∀ (k : Nat) (st : PS) (l : List UInt8) (fr : Bool), Ok st → Ok (beginsF i k st l fr).1 ∧ (beginsF i k st l fr).1.nodes.length ≤ st.nodes.length + 2 * k
  | 0, _, _, _, h => ⟨h, Nat.le_refl _⟩
  | k + 1, st, l, fr, h => by
    have h1 := h.fresh i fr
    have hl : (if fr then st else shutS st i).nodes.length = st.nodes.length := by split; rfl; rfl
    unfold beginsF
    dsimp only
    split
    · obtain ⟨h2, h3⟩ := Ok.beg i k _ (by assumption) true (h1.push quoteNd rfl)
      refine ⟨h2, Nat.le_trans h3 ?_⟩
      rw [len_pushS]
      omega
    · split
      · exact ⟨h, by dsimp only; omega⟩
      · rename_i c n r he
        obtain ⟨h2, h3⟩ := Ok.beg i k _ r true (h1.item c n)
        have h4 := (itemS_ok h1.wf h1.sz h1.pos c n).2.2
        exact ⟨h2, by omega⟩
theorem Ok.block {st : PS} (h : Ok st) (i : Nat) (s : List UInt8) (fr : Bool) {st' : PS} (e : blockS st i s fr = some st') : Ok st' ∧ st'.nodes.length = st.nodes.length + 1 := by
  have h1 := h.fresh i fr
  have hl : (if fr then st else shutS st i).nodes.length = st.nodes.length := by split; rfl; rfl
  unfold blockS at e
  dsimp only at e
  split at e
  · injection e with e
    subst e
    exact ⟨h1.addNew _ rfl, by rw [len_addNew, hl]⟩
  · split at e
    · injection e with e
      subst e
      exact ⟨h1.addNew _ rfl, by rw [len_addNew, hl]⟩
    · split at e
      · injection e with e
        subst e
        refine ⟨h1.leafNew _ rfl, ?_⟩
        show (addS (newS _ _) _).nodes.length = _
        rw [len_addNew, hl]
      · cases e
theorem Ok.text {st : PS} (h : Ok st) (i : Nat) (s : List UInt8) (fr : Bool) : Ok (textS st i s fr) ∧ (textS st i s fr).nodes.length ≤ st.nodes.length + 1 := by
  have h1 := h.fresh i fr
  have hl : (if fr then st else shutS st i).nodes.length = st.nodes.length := by split; rfl; rfl
  unfold textS
  split
  · rename_i hc
    have hx : st.leaf.getD 0 < st.nodes.length := by
      cases hlf : st.leaf with
      | none => exact h.pos
      | some j => exact h.wf.leaf j hlf
    exact ⟨h.ln _ _ hx, by unfold lnS; rw [len_set]; omega⟩
  · refine ⟨h1.leafNew _ rfl, ?_⟩
    show (addS (newS _ _) _).nodes.length ≤ _
    rw [len_addNew, hl]
    exact Nat.le_refl _
theorem Ok.next {st : PS} (h : Ok st) (l : List UInt8) : Ok (nextS st l) ∧ (nextS st l).nodes.length ≤ st.nodes.length + 81 := by
  unfold nextS
  dsimp only
  split
  · have hx : st.leaf.getD 0 < st.nodes.length := by
      cases hlf : st.leaf with
      | none => exact h.pos
      | some j => exact h.wf.leaf j hlf
    split
    · exact ⟨h.leaf _ (fun _ e => by cases e), by show st.nodes.length ≤ _; omega⟩
    · exact ⟨h.ln _ _ hx, by unfold lnS; rw [len_set]; omega⟩
  · obtain ⟨h1, h2⟩ := Ok.beg (runRow st st.row l 0).1 (40 - (runRow st st.row l 0).1) st (runRow st st.row l 0).2 false h
    split
    · refine ⟨Ok.leaf ?_ _ (fun _ e => by cases e), ?_⟩
      · split
        · exact h1
        · exact h1.shut _
      · show (if _ then _ else _ : PS).nodes.length ≤ _
        split
        · omega
        · show (beginsF _ _ _ _ _).1.nodes.length ≤ _
          omega
    · split
      · rename_i st3 he
        obtain ⟨h3, h4⟩ := h1.block _ _ _ he
        exact ⟨h3, by omega⟩
      · obtain ⟨h3, h4⟩ := h1.text (runRow st st.row l 0).1 (beginsF (runRow st st.row l 0).1 (40 - (runRow st st.row l 0).1) st (runRow st st.row l 0).2 false).2.1 (beginsF (runRow st st.row l 0).1 (40 - (runRow st st.row l 0).1) st (runRow st st.row l 0).2 false).2.2
        exact ⟨h3, by omega⟩
/-- A node is small: no more than N lines of M bytes. -/
def Small (N M : Nat) (n : Nd) : Prop := n.inn ≤ 8 ∧ n.fence.indent ≤ 3 ∧ n.lines.length ≤ N ∧ ∀ t, t ∈ n.lines → t.length ≤ M
theorem Small.loose (N M : Nat) : Loose (Small N M) := ⟨fun _ _ h => h, fun _ _ h => h⟩
theorem Small.new {N M : Nat} {n : Nd} (h1 : n.inn ≤ 8) (h2 : n.fence.indent ≤ 3) (h3 : n.lines = []) : Small N M n := ⟨h1, h2, by rw [h3]; exact Nat.zero_le _, fun t ht => by rw [h3] at ht; cases ht⟩
theorem Small.next {N M : Nat} {st : PS} (h : NI (Small N M) st) (l : List UInt8) (hM : l.length + 3 * st.row.length + 123 ≤ M) : NI (Small (N + 1) M) (nextS st l) :=
  h.next (Small.loose N M) (Small.loose _ M) (fun n h => ⟨h.1, h.2.1, Nat.le_succ_of_le h.2.2.1, h.2.2.2⟩) l M hM
    (fun n t ht h => ⟨h.1, h.2.1, by show (n.lines ++ [t]).length ≤ _; rw [List.length_append]; have := h.2.2.1; simp only [List.length_cons, List.length_nil]; omega, fun u hu => by rcases List.mem_append.1 hu with hu | hu; exact h.2.2.2 u hu; rw [List.mem_singleton.1 hu]; exact ht⟩)
    (.new (Nat.zero_le _) (Nat.zero_le _) rfl) (fun _ => .new (Nat.zero_le _) (Nat.zero_le _) rfl) (fun _ _ hn => .new hn (Nat.zero_le _) rfl) (fun _ _ _ _ => .new (Nat.zero_le _) (Nat.zero_le _) rfl) (.new (Nat.zero_le _) (Nat.zero_le _) rfl)
    (fun _ _ hf => .new (Nat.zero_le _) (begins_indent hf) rfl) (fun t ht => ⟨Nat.zero_le _, Nat.zero_le _, by show 1 ≤ N + 1; omega, fun u hu => by rw [List.mem_singleton.1 hu]; exact ht⟩)
theorem Small.beg {N M : Nat} {st : PS} (h : NI (Small N M) st) (i k : Nat) (l : List UInt8) (fr : Bool) : NI (Small N M) (beginsF i k st l fr).1 :=
  NI.beg (Small.loose N M) (.new (Nat.zero_le _) (Nat.zero_le _) rfl) (fun _ => .new (Nat.zero_le _) (Nat.zero_le _) rfl) (fun _ _ hn => .new hn (Nat.zero_le _) rfl) i k st l fr h
end Go.Proofs.YtjgaobkgmheocaaDoor
