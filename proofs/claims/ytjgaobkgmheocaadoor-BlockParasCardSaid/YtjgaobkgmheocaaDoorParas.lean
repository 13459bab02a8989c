/- What becomes of words line by line: pure words. -/
import Derived.Test.YtjgaobkgmheocaaDoorItems
namespace Go.Proofs.YtjgaobkgmheocaaDoor
open Go Go.RowKit

def paraNd (ln : Nat) (ls : List (List UInt8)) : Nd := { Nd.zero with kind := 4, line := ln, lines := ls }
/-- A text is open behind some other nodes. -/
def paraS (pre : List Nd) (row : List Nat) (ln : Nat) (ls : List (List UInt8)) (k : Nat) : PS := ⟨pre ++ [paraNd ln ls], row, some pre.length, k⟩
theorem paraS_last (pre : List Nd) (row : List Nat) (ln : Nat) (ls : List (List UInt8)) (k : Nat) : (paraS pre row ln ls k).nd pre.length = paraNd ln ls := by
  unfold PS.nd paraS
  simp [List.getD_eq_getElem?_getD]
theorem paraS_pre (pre : List Nd) (row : List Nat) (ln : Nat) (ls : List (List UInt8)) (k i : Nat) (h : i < pre.length) : (paraS pre row ln ls k).nd i = pre.getD i Nd.zero := by
  unfold PS.nd paraS
  simp only [List.getD_eq_getElem?_getD]
  rw [List.getElem?_append_left h]
theorem paraS_next (pre : List Nd) (row : List Nat) (ln : Nat) (ls : List (List UInt8)) (k j : Nat) (l : List UInt8) (h : Plain l) (hr : ∀ j, runRow (paraS pre row ln ls j) row l 0 = (0, l)) :
    nextS (atLine (paraS pre row ln ls k) j) (textR l) = paraS pre row ln (ls ++ [l]) j := by
  have ho : openFence (paraS pre row ln ls j) = false := by
    show (((paraS pre row ln ls j).nd pre.length).kind == 7) = false
    rw [paraS_last]
    rfl
  have ht : openText (paraS pre row ln ls j) = true := by
    show (((paraS pre row ln ls j).nd pre.length).kind == 4) = true
    rw [paraS_last]
    rfl
  rw [h.text]
  show nextS (paraS pre row ln ls j) l = _
  rw [h.next _ (hr j) (by rw [ho, Bool.and_false])]
  unfold textS
  rw [ht, if_pos (by rfl), h.trim]
  show lnS (paraS pre row ln ls j) pre.length l = _
  unfold lnS setNd
  rw [paraS_last]
  show PS.mk ((pre ++ [paraNd ln ls]).set pre.length _) row (some pre.length) j = _
  rw [List.set_append_right _ _ (Nat.le_refl _), Nat.sub_self]
  rfl
theorem paraS_run (pre : List Nd) (row : List Nat) (ln : Nat) (hr : ∀ (ls : List (List UInt8)) (j : Nat) (l : List UInt8), Plain l → runRow (paraS pre row ln ls j) row l 0 = (0, l)) :
    ∀ (r : List (List UInt8)) (ls : List (List UInt8)) (k j : Nat), (∀ l, l ∈ r → Plain l) → ∃ k', runS (paraS pre row ln ls k) j r = paraS pre row ln (ls ++ r) k'
  | [], ls, k, j, _ => ⟨k, by rw [List.append_nil]; rfl⟩
  | l :: r, ls, k, j, h => by
    obtain ⟨k', hk⟩ := paraS_run pre row ln hr r (ls ++ [l]) j (j + 1) (fun x hx => h x (List.mem_cons_of_mem _ hx))
    refine ⟨k', ?_⟩
    show runS (nextS (atLine (paraS pre row ln ls k) j) (textR l)) (j + 1) r = _
    rw [paraS_next pre row ln ls k j l (h l List.mem_cons_self) (fun j => hr ls j l (h l List.mem_cons_self)), hk, List.append_assoc]
    rfl
/-- A text begins where nothing is open. -/
theorem para_begin (nodes : List Nd) (k j : Nat) (d : Nd) (rest : List Nd) (hn : nodes = d :: rest) (leaf : Option Nat) (hl : leaf = none) (l : List UInt8) (h : Plain l) :
    nextS (atLine ⟨nodes, [], leaf, k⟩ j) (textR l) = paraS ({ d with kids := d.kids ++ [nodes.length] } :: rest) [] j [l] j := by
  subst hn hl
  rw [h.text]
  show nextS ⟨d :: rest, [], none, j⟩ l = _
  rw [h.next _ rfl rfl]
  unfold textS
  rw [if_neg (by show ¬ ((!false && openText ⟨d :: rest, [], none, j⟩) = true); simp [openText]), if_neg (by nofun), h.trim]
  have e1 : shutS ⟨d :: rest, [], none, j⟩ 0 = ⟨d :: rest, [], none, j⟩ := rfl
  rw [e1]
  have h1 : lineS (newS ⟨d :: rest, [], none, j⟩ (textNd l)) (d :: rest).length = ⟨(d :: rest) ++ [{ textNd l with line := j }], [], none, j⟩ := by
    unfold lineS setNd newS PS.nd
    simp only [List.getD_eq_getElem?_getD]
    rw [List.getElem?_append_right (Nat.le_refl _), Nat.sub_self, List.set_append_right _ _ (Nat.le_refl _), Nat.sub_self]
    rfl
  show leafS (leafS (kidS (lineS (newS ⟨d :: rest, [], none, j⟩ (textNd l)) (d :: rest).length) 0 (d :: rest).length) none) (some (d :: rest).length) = _
  rw [h1]
  rfl
theorem runS_cons (st : PS) (k : Nat) (s : List UInt8) (r : List (List UInt8)) : runS st k (s :: r) = runS (nextS (atLine st k) (textR s)) (k + 1) r := rfl
theorem runS_two (A B : List (List UInt8)) (x : List UInt8) (st : PS) : runS st 0 (A ++ x :: B) = runS (nextS (atLine (runS st 0 A) A.length) (textR x)) (A.length + 1) B := by
  rw [runS_append, Nat.zero_add]
  rfl
def docNd (kids : List Nat) : Nd := { Nd.zero with kids := kids }
theorem join_snoc (A : List (List UInt8)) (x e : List UInt8) : Lib.join (A ++ [x]) e = joinL A e ++ x := by
  induction A with
  | nil => simp [joinL, Lib.join_one]
  | cons a r ih =>
    rw [List.cons_append, Lib.join_cons]
    cases r with
    | nil => simp [joinL, Lib.joinTail]
    | cons b s =>
      rw [List.cons_append, Lib.join_cons] at ih
      have h1 : joinL (a :: b :: s) e = a ++ e ++ joinL (b :: s) e := by simp [joinL]
      rw [h1]
      have h2 : Lib.joinTail e (b :: s ++ [x]) = e ++ (b ++ Lib.joinTail e (s ++ [x])) := by simp [Lib.joinTail]
      rw [h2, ih]
      simp [List.append_assoc]
section
variable (l0 : List UInt8) (r : List (List UInt8)) (h0 : Plain l0) (hr : ∀ l, l ∈ r → Plain l)
include h0 hr
theorem paras_a : ∃ k, runS initS 0 (l0 :: r) = paraS [docNd [1]] [] 0 (l0 :: r) k := by
  obtain ⟨k, hk⟩ := paraS_run [docNd [1]] [] 0 (fun _ _ _ _ => rfl) r [l0] 0 1 hr
  refine ⟨k, ?_⟩
  show runS (nextS (atLine initS 0) (textR l0)) 1 r = _
  have e : nextS (atLine initS 0) (textR l0) = paraS [docNd [1]] [] 0 [l0] 0 := para_begin [Nd.zero] 0 0 Nd.zero [] rfl none rfl l0 h0
  rw [e]
  exact hk
theorem paras_b (x : List UInt8) (hx : textR x = x) (hq : quote x = none) (hi : item x = none) (he : empty x = true) :
    ∃ k, runS initS 0 ((l0 :: r) ++ x :: (l0 :: r)) = paraS [docNd [1, 2], paraNd 0 (l0 :: r)] [] (r.length + 2) (l0 :: r) k := by
  obtain ⟨k, hk⟩ := paras_a l0 r h0 hr
  rw [runS_two, hk, hx]
  have hb : nextS (atLine (paraS [docNd [1]] [] 0 (l0 :: r) k) (l0 :: r).length) x = ⟨[docNd [1], paraNd 0 (l0 :: r)], [], none, (l0 :: r).length⟩ := by
    have hf : (0 == (atLine (paraS [docNd [1]] [] 0 (l0 :: r) k) (l0 :: r).length).row.length && openFence (atLine (paraS [docNd [1]] [] 0 (l0 :: r) k) (l0 :: r).length)) = false := rfl
    unfold nextS
    rw [show runRow (atLine (paraS [docNd [1]] [] 0 (l0 :: r) k) (l0 :: r).length) (atLine (paraS [docNd [1]] [] 0 (l0 :: r) k) (l0 :: r).length).row x 0 = (0, x) from rfl]
    dsimp only
    rw [hf, if_neg (by nofun), show 40 - 0 = 39 + 1 from rfl, beginsF_none 0 39 _ x false hq hi]
    dsimp only
    rw [he]
    rfl
  rw [hb]
  obtain ⟨k2, hk2⟩ := paraS_run [docNd [1, 2], paraNd 0 (l0 :: r)] [] (r.length + 2) (fun _ _ _ _ => rfl) r [l0] (r.length + 2) (r.length + 3) hr
  refine ⟨k2, ?_⟩
  show runS (nextS (atLine _ ((l0 :: r).length + 1)) (textR l0)) ((l0 :: r).length + 1 + 1) r = _
  rw [para_begin [docNd [1], paraNd 0 (l0 :: r)] _ ((l0 :: r).length + 1) (docNd [1]) [paraNd 0 (l0 :: r)] rfl none rfl l0 h0]
  exact hk2
theorem paras_c : ∃ k, runS initS 0 ((62 :: 32 :: l0) :: r) = paraS [docNd [1], { quoteNd with kids := [2] }] [1] 0 (l0 :: r) k := by
  have hx : textR (62 :: 32 :: l0) = 62 :: 32 :: l0 := textR_ascii _ (fun c hc => by
    rcases List.mem_cons.1 hc with rfl | hc
    · decide
    · rcases List.mem_cons.1 hc with rfl | hc
      · decide
      · exact ⟨(letter_facts (h0.letters c hc)).1, (letter_facts (h0.letters c hc)).2.1⟩)
  have hq : quote (62 :: 32 :: l0) = some l0 := by
    obtain ⟨c, t, rfl, hc⟩ := h0.cons
    have hs : strip (32 :: c :: t) 1 = c :: t := by
      have h1 : stripF 1 0 (32 :: c :: t) = (1, c :: t) := by
        unfold stripF
        rw [if_pos (by decide)]
        show stripF 1 1 (c :: t) = _
        unfold stripF
        rw [if_neg (by simp)]
      unfold strip
      rw [h1]
      rfl
    unfold quote indent indentF
    rw [if_neg (by decide)]
    show quoteT 0 (62 :: 32 :: c :: t) = _
    unfold quoteT
    dsimp only
    rw [if_pos (by decide), hs]
  have hb : beginsF 0 (40 - 0) initS (62 :: 32 :: l0) false = (pushS (shutS initS 0) quoteNd, l0, true) := by
    rw [show 40 - 0 = 39 + 1 from rfl]
    unfold beginsF
    dsimp only
    rw [hq]
    exact h0.begF 0 39 _ true
  have hn : nextS initS (62 :: 32 :: l0) = paraS [docNd [1], { quoteNd with kids := [2] }] [1] 0 [l0] 0 := by
    unfold nextS
    rw [show runRow initS initS.row (62 :: 32 :: l0) 0 = (0, 62 :: 32 :: l0) from rfl]
    dsimp only
    rw [show (0 == initS.row.length && openFence initS) = false from rfl, if_neg (by nofun), hb]
    dsimp only
    rw [h0.empty, if_neg (by nofun), h0.block]
    show textS (pushS (shutS initS 0) quoteNd) 0 l0 true = _
    unfold textS
    rw [if_neg (by simp), if_pos rfl, h0.trim]
    rfl
  obtain ⟨k, hk⟩ := paraS_run [docNd [1], { quoteNd with kids := [2] }] [1] 0 (fun ls j l hl => by
    have h1 : (paraS [docNd [1], { quoteNd with kids := [2] }] [1] 0 ls j).nd 1 = { quoteNd with kids := [2] } := rfl
    unfold runRow
    have : takesV ((paraS [docNd [1], { quoteNd with kids := [2] }] [1] 0 ls j).nd 1) l = none := by
      rw [h1]
      unfold takesV
      rw [if_pos (by rfl), hl.quote]
    rw [this]) r [l0] 0 1 hr
  refine ⟨k, ?_⟩
  rw [runS_cons, hx, show atLine initS 0 = initS from rfl, hn, Nat.zero_add, hk]
  rfl
theorem paras_d : ∃ k, runS initS 0 ((l0 :: r) ++ [35, 32, 104] :: (l0 :: r)) = paraS [docNd [1, 2, 3], paraNd 0 (l0 :: r), { headNd 1 [104] with line := r.length + 1 }] [] (r.length + 2) (l0 :: r) k := by
  obtain ⟨k, hk⟩ := paras_a l0 r h0 hr
  have hx : textR [35, 32, 104] = [35, 32, 104] := textR_ascii _ (by decide)
  have hq : quote [35, 32, 104] = none := by decide
  have hi : item [35, 32, 104] = none := by decide
  have he : empty [35, 32, 104] = false := by decide
  have hh : heading [35, 32, 104] = some (1, [104]) := by decide
  rw [runS_two, hk, hx]
  have hb : nextS (atLine (paraS [docNd [1]] [] 0 (l0 :: r) k) (l0 :: r).length) [35, 32, 104] = ⟨[docNd [1, 2], paraNd 0 (l0 :: r), { headNd 1 [104] with line := r.length + 1 }], [], none, (l0 :: r).length⟩ := by
    have hf : (0 == (atLine (paraS [docNd [1]] [] 0 (l0 :: r) k) (l0 :: r).length).row.length && openFence (atLine (paraS [docNd [1]] [] 0 (l0 :: r) k) (l0 :: r).length)) = false := rfl
    unfold nextS
    rw [show runRow (atLine (paraS [docNd [1]] [] 0 (l0 :: r) k) (l0 :: r).length) (atLine (paraS [docNd [1]] [] 0 (l0 :: r) k) (l0 :: r).length).row [35, 32, 104] 0 = (0, [35, 32, 104]) from rfl]
    dsimp only
    rw [hf, if_neg (by nofun), show 40 - 0 = 39 + 1 from rfl, beginsF_none 0 39 _ _ false hq hi]
    dsimp only
    rw [he, if_neg (by nofun)]
    unfold blockS
    rw [hh]
    rfl
  rw [hb]
  obtain ⟨k2, hk2⟩ := paraS_run [docNd [1, 2, 3], paraNd 0 (l0 :: r), { headNd 1 [104] with line := r.length + 1 }] [] (r.length + 2) (fun _ _ _ _ => rfl) r [l0] (r.length + 2) (r.length + 3) hr
  refine ⟨k2, ?_⟩
  show runS (nextS (atLine _ ((l0 :: r).length + 1)) (textR l0)) ((l0 :: r).length + 1 + 1) r = _
  rw [para_begin [docNd [1, 2], paraNd 0 (l0 :: r), { headNd 1 [104] with line := r.length + 1 }] _ ((l0 :: r).length + 1) (docNd [1, 2]) [paraNd 0 (l0 :: r), { headNd 1 [104] with line := r.length + 1 }] rfl none rfl l0 h0]
  exact hk2
end
end Go.Proofs.YtjgaobkgmheocaaDoor
