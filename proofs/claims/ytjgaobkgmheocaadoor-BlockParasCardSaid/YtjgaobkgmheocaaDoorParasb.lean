/- The law BlockParas: what its documents are. -/
import Derived.Test.YtjgaobkgmheocaaDoorParas
import Derived.Test.YtjgaobkgmheocaaDoorKnownb
namespace Go.Proofs.YtjgaobkgmheocaaDoor
open Go Go.RowKit

/-- What the law asks of the four trees. -/
structure ParaTrees (L : List (List UInt8)) (a b c d : Tree) : Prop where
  a1 : a.kids.length = 1
  a2 : ∀ h : 0 < a.kids.length, a.kids[0].text = Lib.join L [10]
  b1 : b.kids.length = 2
  b2 : ∀ h : 1 < b.kids.length, b.kids[1].text = Lib.join L [10]
  b3 : ∀ h : 1 < b.kids.length, b.kids[1].line = L.length + 1
  c1 : c.kids.length = 1
  c2 : ∀ h : 0 < c.kids.length, c.kids[0].kids.length = 1
  c3 : ∀ (h : 0 < c.kids.length) (h' : 0 < c.kids[0].kids.length), c.kids[0].kids[0].text = Lib.join L [10]
  d1 : d.kids.length = 3
  d2 : ∀ h : 1 < d.kids.length, d.kids[1].kind = 5
  d3 : ∀ h : 2 < d.kids.length, d.kids[2].text = Lib.join L [10]
theorem joinL_append (A B : List (List UInt8)) (e : List UInt8) : joinL (A ++ B) e = joinL A e ++ joinL B e := by unfold joinL; rw [List.flatMap_append]
theorem joinL_one (x e : List UInt8) : joinL [x] e = x ++ e := by simp [joinL]
theorem paras_law (l0 : List UInt8) (r : List (List UInt8)) (h0 : Plain l0) (hr : ∀ l, l ∈ r → Plain l) (hn : (joinL (l0 :: r) [10]).length ≤ 10000) :
    ParaTrees (l0 :: r) (parseT (joinL (l0 :: r) [10])) (parseT (joinL (l0 :: r) [10] ++ [32, 32, 32, 10] ++ joinL (l0 :: r) [10])) (parseT ([62, 32] ++ joinL (l0 :: r) [10])) (parseT (joinL (l0 :: r) [10] ++ [35, 32, 104, 10] ++ joinL (l0 :: r) [10])) := by
  have hne : ∀ l, l ∈ l0 :: r → noEnd l := fun l hl => by
    rcases List.mem_cons.1 hl with rfl | hl
    · exact h0.noEnd
    · exact (hr l hl).noEnd
  obtain ⟨ka, ha⟩ := paras_a l0 r h0 hr
  obtain ⟨kb, hb⟩ := paras_b l0 r h0 hr [32, 32, 32] (textR_ascii _ (by decide)) (by decide) (by decide) (by decide)
  obtain ⟨kc, hc⟩ := paras_c l0 r h0 hr
  obtain ⟨kd, hd⟩ := paras_d l0 r h0 hr
  have e4 : ∀ x : List UInt8, joinL ((l0 :: r) ++ x :: (l0 :: r)) [10] = joinL (l0 :: r) [10] ++ (x ++ [10]) ++ joinL (l0 :: r) [10] := fun x => by
    rw [joinL_append, show x :: (l0 :: r) = [x] ++ (l0 :: r) from rfl, joinL_append, joinL_one]; simp only [List.append_assoc]
  have ec : [62, 32] ++ joinL (l0 :: r) [10] = joinL ((62 :: 32 :: l0) :: r) [10] := by simp [joinL]
  have pa : parseS (joinL (l0 :: r) [10]) = paraS [docNd [1]] [] 0 (l0 :: r) ka := (parseS_join _ hne (by omega)).trans ha
  have pb : parseS (joinL (l0 :: r) [10] ++ [32, 32, 32, 10] ++ joinL (l0 :: r) [10]) = paraS [docNd [1, 2], paraNd 0 (l0 :: r)] [] (r.length + 2) (l0 :: r) kb := by
    have e := e4 [32, 32, 32]
    rw [show ([32, 32, 32, 10] : List UInt8) = [32, 32, 32] ++ [10] from rfl, ← e, parseS_join _ (fun l hl => ?_) (by rw [e]; simp only [List.length_append, List.length_cons, List.length_nil]; omega)]
    · exact hb
    · rcases List.mem_append.1 hl with hl | hl
      · exact hne l hl
      · rcases List.mem_cons.1 hl with rfl | hl
        · intro c hc; revert c; decide
        · exact hne l hl
  have pc : parseS ([62, 32] ++ joinL (l0 :: r) [10]) = paraS [docNd [1], { quoteNd with kids := [2] }] [1] 0 (l0 :: r) kc := by
    rw [ec, parseS_join _ (fun l hl => ?_) (by rw [← ec]; simp only [List.length_append, List.length_cons, List.length_nil]; omega)]
    · exact hc
    · rcases List.mem_cons.1 hl with rfl | hl
      · intro c hc
        rcases List.mem_cons.1 hc with rfl | hc
        · decide
        · rcases List.mem_cons.1 hc with rfl | hc
          · decide
          · exact h0.noEnd c hc
      · exact hne l (List.mem_cons_of_mem _ hl)
  have pd : parseS (joinL (l0 :: r) [10] ++ [35, 32, 104, 10] ++ joinL (l0 :: r) [10]) = paraS [docNd [1, 2, 3], paraNd 0 (l0 :: r), { headNd 1 [104] with line := r.length + 1 }] [] (r.length + 2) (l0 :: r) kd := by
    have e := e4 [35, 32, 104]
    rw [show ([35, 32, 104, 10] : List UInt8) = [35, 32, 104] ++ [10] from rfl, ← e, parseS_join _ (fun l hl => ?_) (by rw [e]; simp only [List.length_append, List.length_cons, List.length_nil]; omega)]
    · exact hd
    · rcases List.mem_append.1 hl with hl | hl
      · exact hne l hl
      · rcases List.mem_cons.1 hl with rfl | hl
        · intro c hc; revert c; decide
        · exact hne l hl
  have ta : parseT (joinL (l0 :: r) [10]) = .node 0 0 [] [] 0 [.node 4 0 (Lib.join (l0 :: r) [10]) [] 0 []] := by unfold parseT; rw [pa]; rfl
  have tb : parseT (joinL (l0 :: r) [10] ++ [32, 32, 32, 10] ++ joinL (l0 :: r) [10]) = .node 0 0 [] [] 0 [.node 4 0 (Lib.join (l0 :: r) [10]) [] 0 [], .node 4 0 (Lib.join (l0 :: r) [10]) [] (r.length + 2) []] := by unfold parseT; rw [pb]; rfl
  have tc : parseT ([62, 32] ++ joinL (l0 :: r) [10]) = .node 0 0 [] [] 0 [.node 1 0 [] [] 0 [.node 4 0 (Lib.join (l0 :: r) [10]) [] 0 []]] := by unfold parseT; rw [pc]; rfl
  have td : parseT (joinL (l0 :: r) [10] ++ [35, 32, 104, 10] ++ joinL (l0 :: r) [10]) = .node 0 0 [] [] 0 [.node 4 0 (Lib.join (l0 :: r) [10]) [] 0 [], .node 5 1 [104] [] (r.length + 1) [], .node 4 0 (Lib.join (l0 :: r) [10]) [] (r.length + 2) []] := by unfold parseT; rw [pd]; rfl
  rw [ta, tb, tc, td]
  exact ⟨rfl, fun _ => rfl, rfl, fun _ => rfl, fun _ => rfl, rfl, fun _ => rfl, fun _ _ => rfl, rfl, fun _ => rfl, fun _ => rfl⟩
/-- The law's words. -/
def wordL (z : Nat) : List UInt8 := [119, UInt8.ofNat (97 + z % 26)]
theorem wordL_plain (z : Nat) : Plain (wordL z) := by
  refine ⟨by nofun, fun c hc => ?_⟩
  rcases List.mem_cons.1 hc with rfl | hc
  · decide
  · rw [List.mem_singleton.1 hc]
    have h : ∀ m, m < 26 → 97 ≤ UInt8.ofNat (97 + m) ∧ UInt8.ofNat (97 + m) ≤ 122 := by decide +kernel
    exact h (z % 26) (Nat.mod_lt _ (by omega))
def wordsL (zs : List Nat) : List (List UInt8) := (zs.take 10).map wordL ++ [[101, 110, 100]]
theorem wordsL_plain (zs : List Nat) : ∀ l, l ∈ wordsL zs → Plain l := by
  intro l hl
  rcases List.mem_append.1 hl with hl | hl
  · obtain ⟨z, _, rfl⟩ := List.mem_map.1 hl
    exact wordL_plain z
  · rw [List.mem_singleton.1 hl]
    exact ⟨by nofun, by decide⟩
theorem wordsL_law (zs : List Nat) : ParaTrees (wordsL zs) (parseT (joinL (wordsL zs) [10])) (parseT (joinL (wordsL zs) [10] ++ [32, 32, 32, 10] ++ joinL (wordsL zs) [10])) (parseT ([62, 32] ++ joinL (wordsL zs) [10])) (parseT (joinL (wordsL zs) [10] ++ [35, 32, 104, 10] ++ joinL (wordsL zs) [10])) ∧ (joinL (wordsL zs) [10]).length ≤ 44 := by
  have hlen : ∀ ys : List Nat, (joinL (ys.map wordL) [10]).length = 3 * ys.length := by
    intro ys
    induction ys with
    | nil => rfl
    | cons y t ih =>
      have : joinL ((y :: t).map wordL) [10] = wordL y ++ [10] ++ joinL (t.map wordL) [10] := by simp [joinL]
      have h2 : (wordL y).length = 2 := rfl
      have h3 : (y :: t).length = t.length + 1 := rfl
      have h1 : ([10] : List UInt8).length = 1 := rfl
      rw [this, List.length_append, List.length_append, ih, h2, h3, h1]
      omega
  have hl : (joinL (wordsL zs) [10]).length ≤ 44 := by
    unfold wordsL
    rw [joinL_append, joinL_one, List.length_append, hlen, List.length_take]
    simp only [List.length_append, List.length_cons, List.length_nil]
    omega
  refine ⟨?_, hl⟩
  have hp := wordsL_plain zs
  cases hw : wordsL zs with
  | nil => unfold wordsL at hw; simp at hw
  | cons l0 r =>
    rw [hw] at hp hl
    exact paras_law l0 r (hp l0 List.mem_cons_self) (fun l h => hp l (List.mem_cons_of_mem _ h)) (by omega)
end Go.Proofs.YtjgaobkgmheocaaDoor
