/- What becomes of items line by line: pure words. -/
import Derived.Test.YtjgaobkgmheocaaDoorPlain
namespace Go.Proofs.YtjgaobkgmheocaaDoor
open Go Go.RowKit

theorem nd_addNew (st : PS) (n : Nd) (hx : inId st st.row.length < st.nodes.length) (i : Nat) :
    (addS (newS st n) st.nodes.length).nd i = if i = inId st st.row.length then { st.nd i with kids := (st.nd i).kids ++ [st.nodes.length] } else if i = st.nodes.length then { n with line := st.line } else st.nd i := by
  have h1 : (lineS (newS st n) st.nodes.length).nodes.length = st.nodes.length + 1 := by unfold lineS; rw [len_set, len_newS]
  have h2 : ∀ j, (lineS (newS st n) st.nodes.length).nd j = if j = st.nodes.length then { n with line := st.line } else st.nd j := by
    intro j
    unfold lineS
    rw [nd_set _ _ _ _ (by rw [len_newS]; omega), nd_new, nd_new, if_pos rfl]
    by_cases hj : j = st.nodes.length
    · rw [if_pos hj, if_pos hj]; rfl
    · rw [if_neg hj, if_neg hj, if_neg hj]
  show (kidS (lineS (newS st n) st.nodes.length) (inId st st.row.length) st.nodes.length).nd i = _
  unfold kidS
  rw [nd_set _ _ _ _ (by rw [h1]; omega), h2, h2]
  by_cases hi : i = inId st st.row.length
  · rw [if_pos hi, if_pos hi, if_neg (by omega), hi]
  · rw [if_neg hi, if_neg hi]
theorem nd_leafNew (st : PS) (n : Nd) (hx : inId st st.row.length < st.nodes.length) (i : Nat) :
    (leafNew st n).nd i = if i = inId st st.row.length then { st.nd i with kids := (st.nd i).kids ++ [st.nodes.length] } else if i = st.nodes.length then { n with line := st.line } else st.nd i := nd_addNew st n hx i
theorem nd_putItem (st : PS) (j inn : Nat) (hj : j < st.nodes.length) (i : Nat) :
    (putItem st j inn).nd i = if i = j then { st.nd i with kids := (st.nd i).kids ++ [st.nodes.length] } else if i = st.nodes.length then itemNd st.line inn else st.nd i := by
  show (kidS (newS st (itemNd st.line inn)) j st.nodes.length).nd i = _
  unfold kidS
  rw [nd_set _ _ _ _ (by rw [len_newS]; omega), nd_new, nd_new]
  by_cases hi : i = j
  · rw [if_pos hi, if_pos hi, if_neg (by omega), hi]
  · rw [if_neg hi, if_neg hi]
theorem sum_bump (l : List Nat) (hn : l.Nodup) (j : Nat) (hj : j ∈ l) (f g : Nat → Nat) (h1 : g j = f j + 1) (h2 : ∀ i, i ∈ l → i ≠ j → g i = f i) : (l.map g).sum = (l.map f).sum + 1 := by
  induction l with
  | nil => cases hj
  | cons a r ih =>
    rw [List.nodup_cons] at hn
    rw [List.map_cons, List.map_cons, List.sum_cons, List.sum_cons]
    rcases List.mem_cons.1 hj with rfl | hj
    · rw [h1, List.map_congr_left (f := g) (g := f) (fun i hi => h2 i (List.mem_cons_of_mem _ hi) (fun e => hn.1 (e ▸ hi)))]
      omega
    · rw [ih hn.2 hj (fun i hi => h2 i (List.mem_cons_of_mem _ hi)), h2 a List.mem_cons_self (fun e => hn.1 (e ▸ hj))]
      omega
/-- The document's lists so far. -/
structure Items (st : PS) (n m : Nat) (last : UInt8) : Prop where
  ok : Ok st
  kinds : ∀ j, j ∈ (st.nd 0).kids → (st.nd j).kind = 2
  len : (st.nd 0).kids.length = n
  sum : ((st.nd 0).kids.map fun j => (st.nd j).kids.length).sum = m
  lastS : ((st.nd 0).kids.getLast?.map fun j => (st.nd j).sign) = if n = 0 then none else some last
  zero : n = 0 → last = 0
  nodup : (st.nd 0).kids.Nodup
  row : st.row = [] ∨ ∃ i, st.row = [i] ∧ (st.nd i).kind = 3 ∧ (st.nd i).inn = 2
  leaf : openFence st = false
theorem Items.init : Items initS 0 0 0 :=
  ⟨Fine.init.ok, fun _ h => (nomatch h), rfl, rfl, rfl, fun _ => rfl, List.nodup_nil, .inl rfl, rfl⟩
def sign (c : UInt8) : Prop := c = 45 ∨ c = 42 ∨ c = 43
theorem plain_w : Plain [119] := ⟨by nofun, fun c hc => by rw [List.mem_singleton.1 hc]; decide⟩
theorem item_w (c : UInt8) (h : sign c) : quote [c, 32, 119] = none ∧ item [c, 32, 119] = some (c, 2, [119]) ∧ empty [c, 32, 119] = false ∧ (indent [c, 32, 119]).1 = 0 ∧ textR [c, 32, 119] = [c, 32, 119] := by
  rcases h with rfl | rfl | rfl <;> exact ⟨by decide, by decide, by decide, by decide, textR_ascii _ (by decide)⟩
theorem Items.row_run {st : PS} {n m : Nat} {last : UInt8} (h : Items st n m last) (c : UInt8) (hc : sign c) : runRow st st.row [c, 32, 119] 0 = (0, [c, 32, 119]) := by
  obtain ⟨_, _, he, hi, _⟩ := item_w c hc
  rcases h.row with hr | ⟨i, hr, h3, h2⟩
  · rw [hr]; rfl
  · rw [hr]
    unfold runRow
    have : takesV (st.nd i) [c, 32, 119] = none := by
      unfold takesV
      rw [if_neg (by rw [h3]; decide), he, if_neg (by nofun), hi, h2, if_pos (by decide)]
    rw [this]
theorem Items.atLine {st : PS} {n m : Nat} {last : UInt8} (h : Items st n m last) (k : Nat) : Items (atLine st k) n m last :=
  ⟨⟨⟨h.ok.wf.row, h.ok.wf.leaf, h.ok.wf.kids⟩, ⟨h.ok.sz.row, h.ok.sz.kids⟩, h.ok.pos⟩, h.kinds, h.len, h.sum, h.lastS, h.zero, h.nodup, h.row, h.leaf⟩
/-- What an item's line does. -/
theorem Items.step {st : PS} {n m : Nat} {last : UInt8} (h : Items st n m last) (c : UInt8) (hc : sign c) : nextS st [c, 32, 119] = leafNew (itemS (shutS st 0) c 2) (textNd [119]) := by
  obtain ⟨hq, hi, _, _, _⟩ := item_w c hc
  have hb : beginsF 0 (40 - 0) st [c, 32, 119] false = (itemS (shutS st 0) c 2, [119], true) := by
    rw [show 40 - 0 = 39 + 1 from rfl, beginsF_item 0 39 st _ [119] false c 2 hq hi]
    exact plain_w.begF _ _ _ _
  have hf : (0 == st.row.length && openFence st) = false := by rw [h.leaf, Bool.and_false]
  unfold nextS
  rw [h.row_run c hc]
  dsimp only
  rw [hf, hb, if_neg (by nofun)]
  dsimp only
  rw [plain_w.empty, if_neg (by nofun), plain_w.block]
  show textS (itemS (shutS st 0) c 2) 0 [119] true = _
  unfold textS
  rw [if_neg (by simp), if_pos rfl, plain_w.trim]
theorem Items.shut {st : PS} {n m : Nat} {last : UInt8} (h : Items st n m last) : Items (shutS st 0) n m last :=
  ⟨h.ok.shut 0, h.kinds, h.len, h.sum, h.lastS, h.zero, h.nodup, .inl rfl, by
    have hl := h.leaf
    by_cases h0 : 0 < st.row.length
    · have e : (shutS st 0).leaf = none := if_pos h0
      unfold openFence
      rw [e]
    · have e : (shutS st 0).leaf = st.leaf := if_neg h0
      unfold openFence at *
      rw [e]
      exact hl⟩
theorem inId_one {st : PS} {i : Nat} (h : st.row = [i]) : inId st st.row.length = i := by
  unfold inId
  rw [h]
  rfl
/-- An item's line keeps the words. -/
theorem Items.next {st : PS} {n m : Nat} {last : UInt8} (h : Items st n m last) (c : UInt8) (hc : sign c) : Items (nextS st [c, 32, 119]) (if c = last then n else n + 1) (m + 1) c := by
  have hok := (h.ok.next [c, 32, 119]).1
  rw [h.step c hc] at hok ⊢
  have h1 := h.shut
  have hr1 : (shutS st 0).row = [] := rfl
  generalize shutS st 0 = s at *
  clear h st
  have hx0 : inId s s.row.length = 0 := by rw [hr1]; rfl
  have hp := h1.ok.pos
  have hc0 : c ≠ 0 := by rcases hc with rfl | rfl | rfl <;> decide
  have hkl : ∀ j, j ∈ (s.nd 0).kids → 0 < j ∧ j < s.nodes.length := fun j hj => h1.ok.wf.kids 0 hp j hj
  unfold itemS at hok ⊢
  rw [hx0] at hok ⊢
  dsimp only at hok ⊢
  by_cases hs : sameList s 0 c = true
  · rw [if_pos hs] at hok ⊢
    unfold sameList at hs
    cases hl : (s.nd 0).kids.getLast? with
    | none => rw [hl] at hs; cases hs
    | some j =>
      rw [hl] at hs
      dsimp only at hs
      rw [Bool.and_eq_true, beq_iff_eq, beq_iff_eq] at hs
      have hj := List.mem_of_getLast? hl
      obtain ⟨hj0, hjl⟩ := hkl j hj
      have hlast := h1.lastS
      rw [hl] at hlast
      have hn : n ≠ 0 := by
        intro e
        rw [if_pos e] at hlast
        cases hlast
      rw [if_neg hn] at hlast
      have hcl : c = last := by injection hlast with hlast; rw [← hs.2]; exact hlast
      rw [if_pos hcl]
      show Items (leafNew (putItem s j 2) (textNd [119])) n (m + 1) c
      have hok' : Ok (leafNew (putItem s j 2) (textNd [119])) := by rw [hl] at hok; exact hok
      have hlen : (putItem s j 2).nodes.length = s.nodes.length + 1 := len_putItem s j 2
      have hrow : (putItem s j 2).row = [s.nodes.length] := by show s.row ++ [s.nodes.length] = _; rw [hr1]; rfl
      have hx : inId (putItem s j 2) (putItem s j 2).row.length = s.nodes.length := inId_one hrow
      have hnd : ∀ i, i < s.nodes.length → (leafNew (putItem s j 2) (textNd [119])).nd i = if i = j then { s.nd i with kids := (s.nd i).kids ++ [s.nodes.length] } else s.nd i := by
        intro i hi
        rw [nd_leafNew _ _ (by rw [hx, hlen]; omega), hx, if_neg (by omega), hlen, if_neg (by omega), nd_putItem s j 2 hjl]
        by_cases hij : i = j
        · rw [if_pos hij, if_pos hij]
        · rw [if_neg hij, if_neg hij, if_neg (by omega)]
      have h0 : (leafNew (putItem s j 2) (textNd [119])).nd 0 = s.nd 0 := by rw [hnd 0 hp, if_neg (by omega)]
      refine ⟨hok', ?_, ?_, ?_, ?_, fun e => absurd e hn, ?_, ?_, ?_⟩
      · intro q hq
        rw [h0] at hq
        rw [hnd q (hkl q hq).2]
        split
        · exact h1.kinds q hq
        · exact h1.kinds q hq
      · rw [h0]; exact h1.len
      · rw [h0]
        have hsum := sum_bump (s.nd 0).kids h1.nodup j hj (fun i => (s.nd i).kids.length) (fun i => ((leafNew (putItem s j 2) (textNd [119])).nd i).kids.length) (by
          rw [hnd j hjl, if_pos rfl]; simp) (fun i hi hne => by rw [hnd i (hkl i hi).2, if_neg hne])
        rw [hsum, h1.sum]
      · rw [h0, hl, if_neg hn]
        show some ((leafNew (putItem s j 2) (textNd [119])).nd j).sign = _
        rw [hnd j hjl, if_pos rfl]
        exact congrArg some hs.2
      · rw [h0]; exact h1.nodup
      · refine .inr ⟨s.nodes.length, hrow, ?_⟩
        rw [nd_leafNew _ _ (by rw [hx, hlen]; omega), hx, if_pos rfl]
        have : (putItem s j 2).nd s.nodes.length = itemNd s.line 2 := by rw [nd_putItem s j 2 hjl, if_neg (by omega), if_pos rfl]
        rw [this]
        exact ⟨rfl, rfl⟩
      · show (match (some (putItem s j 2).nodes.length : Option Nat) with | none => false | some q => ((leafNew (putItem s j 2) (textNd [119])).nd q).kind == 7) = false
        dsimp only
        rw [nd_leafNew _ _ (by rw [hx, hlen]; omega), hx, if_neg (by rw [hlen]; omega), if_pos rfl]
        rfl
  · rw [if_neg hs] at hok ⊢
    have hne : c ≠ last ∨ n = 0 := by
      by_cases hn : n = 0
      · exact .inr hn
      · refine .inl fun e => hs ?_
        unfold sameList
        have hlast := h1.lastS
        rw [if_neg hn] at hlast
        cases hl : (s.nd 0).kids.getLast? with
        | none => rw [hl] at hlast; cases hlast
        | some j =>
          rw [hl] at hlast
          injection hlast with hlast
          have hlast : (s.nd j).sign = last := hlast
          have hk := h1.kinds j (List.mem_of_getLast? hl)
          dsimp only
          rw [hk, hlast, e]
          simp
    have hcl : c ≠ last := by
      rcases hne with h2 | h2
      · exact h2
      · rw [h1.zero h2]; exact hc0
    rw [if_neg hcl]
    have hal : (addS (newS s (listNd c)) s.nodes.length).nodes.length = s.nodes.length + 1 := len_addNew s _
    have harow : (addS (newS s (listNd c)) s.nodes.length).row = [] := hr1
    have hand := nd_addNew s (listNd c) (by rw [hx0]; exact hp)
    rw [hx0] at hand
    generalize hA : addS (newS s (listNd c)) s.nodes.length = A at *
    have hlen : (putItem A s.nodes.length 2).nodes.length = s.nodes.length + 2 := by rw [len_putItem, hal]
    have hrow : (putItem A s.nodes.length 2).row = [s.nodes.length + 1] := by show A.row ++ [A.nodes.length] = _; rw [harow, hal]; rfl
    have hx : inId (putItem A s.nodes.length 2) (putItem A s.nodes.length 2).row.length = s.nodes.length + 1 := inId_one hrow
    have hnd : ∀ i, i ≤ s.nodes.length → (leafNew (putItem A s.nodes.length 2) (textNd [119])).nd i = if i = s.nodes.length then { A.nd i with kids := (A.nd i).kids ++ [s.nodes.length + 1] } else A.nd i := by
      intro i hi
      rw [nd_leafNew _ _ (by rw [hx, hlen]; omega), hx, if_neg (by omega), hlen, if_neg (by omega), nd_putItem A s.nodes.length 2 (by rw [hal]; omega), hal]
      by_cases hij : i = s.nodes.length
      · rw [if_pos hij, if_pos hij]
      · rw [if_neg hij, if_neg hij, if_neg (by omega)]
    have h0 : ((leafNew (putItem A s.nodes.length 2) (textNd [119])).nd 0).kids = (s.nd 0).kids ++ [s.nodes.length] := by rw [hnd 0 (by omega), if_neg (by omega), hand, if_pos rfl]
    have hold : ∀ i, i ∈ (s.nd 0).kids → (leafNew (putItem A s.nodes.length 2) (textNd [119])).nd i = s.nd i := by
      intro i hi
      obtain ⟨a, b⟩ := hkl i hi
      rw [hnd i (by omega), if_neg (by omega), hand, if_neg (by omega), if_neg (by omega)]
    have hnew : (leafNew (putItem A s.nodes.length 2) (textNd [119])).nd s.nodes.length = { listNd c with line := s.line, kids := [s.nodes.length + 1] } := by
      rw [hnd _ (Nat.le_refl _), if_pos rfl, hand, if_neg (by omega), if_pos rfl]
      rfl
    refine ⟨hok, ?_, ?_, ?_, ?_, fun e => by omega, ?_, ?_, ?_⟩
    · intro q hq
      rw [h0, List.mem_append, List.mem_singleton] at hq
      rcases hq with hq | rfl
      · rw [hold q hq]; exact h1.kinds q hq
      · rw [hnew]; rfl
    · rw [h0, List.length_append, h1.len]; rfl
    · rw [h0, List.map_append, List.sum_append, List.map_congr_left (g := fun j => (s.nd j).kids.length) (fun i hi => by rw [hold i hi]), h1.sum]
      simp [hnew]
    · rw [h0, List.getLast?_concat, if_neg (by omega)]
      show some ((leafNew (putItem A s.nodes.length 2) (textNd [119])).nd s.nodes.length).sign = _
      rw [hnew]
      rfl
    · rw [h0]
      refine List.nodup_append.2 ⟨h1.nodup, by simp, fun a ha b hb => ?_⟩
      rw [List.mem_singleton.1 hb]
      have := (hkl a ha).2
      omega
    · refine .inr ⟨s.nodes.length + 1, hrow, ?_⟩
      rw [nd_leafNew _ _ (by rw [hx, hlen]; omega), hx, if_pos rfl]
      have : (putItem A s.nodes.length 2).nd (s.nodes.length + 1) = itemNd A.line 2 := by rw [nd_putItem A s.nodes.length 2 (by rw [hal]; omega), if_neg (by omega), hal, if_pos rfl]
      rw [this]
      exact ⟨rfl, rfl⟩
    · show (match (some (putItem A s.nodes.length 2).nodes.length : Option Nat) with | none => false | some q => ((leafNew (putItem A s.nodes.length 2) (textNd [119])).nd q).kind == 7) = false
      dsimp only
      rw [nd_leafNew _ _ (by rw [hx, hlen]; omega), hx, if_neg (by rw [hlen]; omega), if_pos rfl]
      rfl
theorem Items.blank {st : PS} {n m : Nat} {last : UInt8} (h : Items st n m last) : Items (nextS st []) n m last := by
  have hok := (h.ok.next []).1
  have hr : runRow st st.row [] 0 = (st.row.length, []) := by
    rcases h.row with hr | ⟨i, hr, h3, h2⟩
    · rw [hr]; rfl
    · rw [hr]
      unfold runRow
      have : takesV (st.nd i) [] = some [] := by
        unfold takesV
        rw [if_neg (by rw [h3]; decide)]
        rfl
      rw [this]
      rfl
  have hq : quote [] = none := by decide
  have hi : item [] = none := by decide
  have hb : ∀ k, beginsF st.row.length k st [] false = (st, [], false) := by
    intro k
    cases k with
    | zero => rfl
    | succ k => exact beginsF_none _ k st [] false hq hi
  have hn : nextS st [] = leafS (shutS st st.row.length) none := by
    unfold nextS
    rw [hr]
    dsimp only
    rw [h.leaf, Bool.and_false, hb, if_neg (by nofun)]
    rfl
  rw [hn] at hok ⊢
  have hrow : (shutS st st.row.length).row = st.row := List.take_length
  refine ⟨hok, h.kinds, h.len, h.sum, h.lastS, h.zero, h.nodup, ?_, rfl⟩
  show (shutS st st.row.length).row = [] ∨ _
  rw [hrow]
  rcases h.row with hr | ⟨i, hr, h3, h2⟩
  · exact .inl hr
  · exact .inr ⟨i, hrow.trans hr, h3, h2⟩
def sgn (k : UInt8) : UInt8 := if k.toNat % 3 = 0 then 45 else if k.toNat % 3 = 1 then 42 else 43
theorem sgn_sign (k : UInt8) : sign (sgn k) := by unfold sgn sign; split; exact .inl rfl; split; exact .inr (.inl rfl); exact .inr (.inr rfl)
/-- The lines of an item. -/
def itemLines (k : UInt8) : List (List UInt8) := [sgn k, 32, 119] :: (if k.toNat / 8 % 2 = 1 then [[]] else [])
def countI : List UInt8 → Nat × UInt8 → Nat × UInt8
  | [], x => x
  | k :: r, x => countI r (if sgn k = x.2 then x.1 else x.1 + 1, sgn k)
theorem countI_snoc (a : List UInt8) (k : UInt8) : ∀ x, countI (a ++ [k]) x = (if sgn k = (countI a x).2 then (countI a x).1 else (countI a x).1 + 1, sgn k) := by
  induction a with
  | nil => intro x; rfl
  | cons b r ih => intro x; exact ih _
theorem Items.run (ks : List UInt8) : ∀ (st : PS) (l n m : Nat) (last : UInt8), Items st n m last → Items (runS st l (ks.flatMap itemLines)) (countI ks (n, last)).1 (m + ks.length) (countI ks (n, last)).2 := by
  induction ks with
  | nil => intro st l n m last h; exact h
  | cons k r ih =>
    intro st l n m last h
    have h1 := (h.atLine l).next (sgn k) (sgn_sign k)
    have ht := (item_w (sgn k) (sgn_sign k)).2.2.2.2
    rw [List.flatMap_cons]
    unfold itemLines
    rw [List.cons_append]
    show Items (runS (nextS (Go.Proofs.YtjgaobkgmheocaaDoor.atLine st l) (textR [sgn k, 32, 119])) (l + 1) _) _ _ _
    rw [ht, List.length_cons, show m + (r.length + 1) = m + 1 + r.length by omega]
    show Items _ (countI r (if sgn k = last then n else n + 1, sgn k)).1 _ (countI r (if sgn k = last then n else n + 1, sgn k)).2
    split
    · show Items (runS (nextS (Go.Proofs.YtjgaobkgmheocaaDoor.atLine _ _) (textR [])) (l + 1 + 1) (r.flatMap itemLines)) _ _ _
      exact ih _ _ _ _ _ (h1.atLine (l + 1)).blank
    · exact ih _ _ _ _ _ h1
theorem items_tree {st : PS} {n m : Nat} {last : UInt8} (h : Items st n m last) : (treeN st st.nodes.length 0).kids.length = n ∧ (∀ t, t ∈ (treeN st st.nodes.length 0).kids → t.kind = 2) ∧ ((treeN st st.nodes.length 0).kids.map fun t => t.kids.length).sum = m := by
  obtain ⟨f, hf⟩ : ∃ f, st.nodes.length = f + 1 := ⟨st.nodes.length - 1, by have := h.ok.pos; omega⟩
  rw [hf]
  have hk : (treeN st (f + 1) 0).kids = (st.nd 0).kids.map (treeN st f) := rfl
  rw [hk]
  have hf1 : ∀ j, j ∈ (st.nd 0).kids → ∃ g, f = g + 1 := fun j hj => by
    have := h.ok.wf.kids 0 h.ok.pos j hj
    exact ⟨f - 1, by omega⟩
  refine ⟨by rw [List.length_map]; exact h.len, fun t ht => ?_, ?_⟩
  · obtain ⟨j, hj, rfl⟩ := List.mem_map.1 ht
    obtain ⟨g, rfl⟩ := hf1 j hj
    exact h.kinds j hj
  · rw [List.map_map, ← h.sum]
    congr 1
    refine List.map_congr_left fun j hj => ?_
    obtain ⟨g, rfl⟩ := hf1 j hj
    show ((st.nd j).kids.map _).length = _
    rw [List.length_map]
theorem items_noEnd (ks : List UInt8) : ∀ l, l ∈ ks.flatMap itemLines → noEnd l := by
  intro l hl
  obtain ⟨k, _, hk⟩ := List.mem_flatMap.1 hl
  unfold itemLines at hk
  rcases List.mem_cons.1 hk with rfl | hk
  · intro c hc
    rcases sgn_sign k with h | h | h <;> rw [h] at hc <;> revert c <;> decide
  · split at hk
    · rw [List.mem_singleton.1 hk]; intro c hc; cases hc
    · cases hk
def itemsDoc (ks : List UInt8) : List UInt8 := joinL (ks.flatMap itemLines) [10]
theorem itemsDoc_snoc (a : List UInt8) (k : UInt8) : itemsDoc (a ++ [k]) = itemsDoc a ++ [sgn k, 32, 119, 10] ++ (if k.toNat / 8 % 2 = 1 then [10] else []) := by
  unfold itemsDoc joinL
  rw [List.flatMap_append, List.flatMap_append, List.append_assoc]
  congr 1
  rw [List.flatMap_cons, List.flatMap_nil, List.append_nil]
  unfold itemLines
  by_cases h : k.toNat / 8 % 2 = 1
  · rw [if_pos h, if_pos h]; rfl
  · rw [if_neg h, if_neg h]; rfl
theorem itemsDoc_len (ks : List UInt8) : (itemsDoc ks).length ≤ 5 * ks.length := by
  unfold itemsDoc joinL
  induction ks with
  | nil => exact Nat.le_refl _
  | cons k r ih =>
    rw [List.flatMap_cons, List.flatMap_append, List.length_append, List.length_cons]
    have : ((itemLines k).flatMap fun s => s ++ [10]).length ≤ 5 := by
      unfold itemLines
      split <;> simp
    omega
/-- The law's words: of items of one sign one list. -/
theorem items_law (ks : List UInt8) (h : ks.length ≤ 20) : (parseT (itemsDoc ks)).kids.length = (countI ks (0, 0)).1 ∧ (∀ t, t ∈ (parseT (itemsDoc ks)).kids → t.kind = 2) ∧ ((parseT (itemsDoc ks)).kids.map fun t => t.kids.length).sum = ks.length := by
  have hl := itemsDoc_len ks
  have hp : parseS (itemsDoc ks) = runS initS 0 (ks.flatMap itemLines) := parseS_join _ (items_noEnd ks) (by unfold itemsDoc at hl; omega)
  have h1 := Items.run ks initS 0 0 0 0 Items.init
  rw [← hp, Nat.zero_add] at h1
  exact items_tree h1
end Go.Proofs.YtjgaobkgmheocaaDoor
