/- block.parser.add. -/
import Derived.Test.YtjgaobkgmheocaaDoorPrs
namespace Go.Proofs.YtjgaobkgmheocaaDoor
open Go Go.RowKit

theorem infoPtr : (Tryd.prog.info? 51).map (fun i => (i.zero, i.size, i.bytes)) = some (some (.pointer none), 1, 8) := by kernel_rfl
def setNd (st : PS) (i : Nat) (n : Nd) : PS := { st with nodes := st.nodes.set i n }
def lineS (st : PS) (i : Nat) : PS := setNd st i { st.nd i with line := st.line }
/-- node i goes into the last container. -/
def kidS (st : PS) (x i : Nat) : PS := setNd st x { st.nd x with kids := (st.nd x).kids ++ [i] }
def leafS (st : PS) (o : Option Nat) : PS := { st with leaf := o }
def addS (st : PS) (i : Nat) : PS := leafS (kidS (lineS st i) (inId st st.row.length) i) none
theorem nd_set (st : PS) (i j : Nat) (n : Nd) (hi : i < st.nodes.length) : (setNd st i n).nd j = if j = i then n else st.nd j := by
  unfold setNd PS.nd
  simp only [List.getD_eq_getElem?_getD, List.getElem?_set]
  by_cases h : j = i
  · subst h; simp [hi]
  · rw [if_neg (Ne.symm h), if_neg h]
theorem len_set (st : PS) (i : Nat) (n : Nd) : (setNd st i n).nodes.length = st.nodes.length := List.length_set
theorem NdAt.set {w : World} {base : Nat} {ad : Nat → Nat} {own : Nat → Role} {i : Nat} {n n' : Nd} (h : NdAt w base ad own i n) (hn : own (ad i) = .nd i) (j : Nat) (v : Value) (hl : n'.lines = n.lines) (hk : n'.kids = n.kids)
    (hc : ∀ vl vk, (ndCells n vl vk).setIfInBounds j v = ndCells n' vl vk) : NdAt (w.setCell ⟨ad i, j, none⟩ v) base ad own i n' := by
  obtain ⟨vl, vk, h1, h2, h3, h4, h5⟩ := h
  refine ⟨vl, vk, Blk.cast (h1.set j v) (hc vl vk), ?_, ?_, h4, h5⟩
  · rw [hl]; exact h2.set (fun k hk => role_ne (h4 k hk) hn (by nofun)) v
  · rw [hk]; exact h3.set (fun k hk => role_ne (h5 k hk) hn (by nofun)) v
/-- A field of node i is written. -/
theorem Holds.setNode {w : World} {base p : Nat} {ad : Nat → Nat} {own : Nat → Role} {KP : Nat → Option Obj} {st : PS} (h : Holds KP w base p ad own st) {i : Nat} (hi : i < st.nodes.length) (n' : Nd) (j : Nat) (v : Value) (hl : n'.lines = (st.nd i).lines) (hk : n'.kids = (st.nd i).kids)
    (hc : ∀ vl vk, (ndCells (st.nd i) vl vk).setIfInBounds j v = ndCells n' vl vk) : Holds KP (w.setCell ⟨ad i, j, none⟩ v) base p ad own (setNd st i n') :=
  h.node hi ((h.nds i hi).set (h.own_n i hi) j v hl hk hc) fun _ _ _ hn _ _ => Below.heap_setCell _ _ _ _ (role_ne rfl (h.own_n i hi) hn)
/-- The parser's open leaf is written. -/
theorem Holds.setLeaf {w : World} {base p : Nat} {ad : Nat → Nat} {own : Nat → Role} {KP : Nat → Option Obj} {st : PS} (h : Holds KP w base p ad own st) (o : Option Nat) : Holds KP (w.setCell ⟨p, 2, none⟩ (leafV ad o)) base p ad own (leafS st o) := by
  obtain ⟨vr, hb, hr, ho⟩ := h.prs
  exact h.parser (row' := st.row) (line' := st.line) ⟨vr, Blk.cast (hb.set 2 _) rfl, hr.set (fun k hk => role_ne (ho k hk) h.own_p (by nofun)) _, ho⟩ fun _ _ _ hp _ => Below.heap_setCell _ _ _ _ (role_ne rfl h.own_p hp)
/-- A block that is another's than the row that was written. -/
theorem Blk.grown {w w' : World} {b : Nat} {cs : Array Value} {t : TypeId} (h : Blk w b cs t) {row : Option Nat} (hg : w.grownBy w' row) (hne : some b ≠ row) : Blk w' b cs t := (hg.block b h.lt hne).trans h
/-- A node's list of kids has been appended to, and stored. -/
theorem kid_appended {w1 w2 : World} {base p : Nat} {ad : Nat → Nat} {own : Nat → Role} {KP : Nat → Option Obj} {st : PS} {x i : Nat} {vl vk v2 : Value} (H : Holds KP w1 base p ad own st) (hx : x < st.nodes.length)
    (hb : Blk w1 (ad x) (ndCells (st.nd x) vl vk) 54) (hl : Row w1 base 9 1 vl (st.nd x).lines.length (strVals (st.nd x).lines)) (hlo : ∀ k, vl.ownBlock = some k → own k = .ln x) (hko : ∀ k, vk.ownBlock = some k → own k = .kd x)
    (hrow : Row w2 base 51 1 v2 ((st.nd x).kids.length + 1) (ptrs ad (st.nd x).kids ++ [ptr (ad i)])) (hg : w1.grownBy w2 vk.ownBlock) (hat : v2.ownBlock = vk.ownBlock ∨ ∃ g, v2.ownBlock = some g ∧ w1.heap.size ≤ g) :
    ∃ own', Holds KP (w2.setCell ⟨ad x, 9, none⟩ v2) base p ad own' (kidS st x i) := by
  have hnew : ∀ k, v2.ownBlock = some k → k < w1.heap.size → own k = .kd x := by
    intro k hk hlt
    rcases hat with h | ⟨g, h, hge⟩
    · exact hko k (by rw [← h]; exact hk)
    · rw [h] at hk
      injection hk with hk
      omega
  let own' : Nat → Role := fun k => if some k = v2.ownBlock then .kd x else own k
  have hown : ∀ k, k < w1.heap.size → own' k = own k := by
    intro k hk
    show (if some k = v2.ownBlock then Role.kd x else own k) = own k
    by_cases h : some k = v2.ownBlock
    · rw [if_pos h, hnew k h.symm hk]
    · rw [if_neg h]
  have H1 := H.ext hown
  have hv2 : ∀ k, v2.ownBlock = some k → own' k = .kd x := fun k hk => if_pos hk.symm
  have hvk : ∀ k, vk.ownBlock = some k → k < w1.heap.size → own' k = .kd x := fun k hk hlt => by rw [hown k hlt]; exact hko k hk
  have hax := H1.own_n x hx
  refine ⟨own', H1.node hx ⟨vl, v2, Blk.cast ((hb.grown hg (fun e => ?_)).set 9 v2) rfl, (hl.grown hg (fun k hk e => ?_)).set (fun k hk => ?_) _, ?_, fun k hk => ?_, hv2⟩ (fun k hk _ h1 h2 h3 => ?_)⟩
  · exact role_ne hax (hvk _ e.symm hb.lt) (by nofun) rfl
  · have h1 := hlo k hk
    have h2 := hko k e.symm
    rw [h1] at h2
    cases h2
  · refine role_ne (r := .ln x) ?_ hax (by nofun)
    rw [hown k (hl.blk k hk).2.1]
    exact hlo k hk
  · have h := hrow.set (p := ⟨ad x, 9, none⟩) (fun k hk => role_ne (hv2 k hk) hax (by nofun)) v2
    have e1 : ((st.nd x).kids ++ [i]).length = (st.nd x).kids.length + 1 := by simp
    rw [e1, ptrs_snoc]
    exact h
  · rw [hown k (hl.blk k hk).2.1]
    exact hlo k hk
  · rw [Below.heap_setCell _ _ _ _ (role_ne rfl hax h1)]
    exact hg.block k hk (fun e => h3 (hvk k e.symm hk))
set_option maxRecDepth 100000 in
set_option maxHeartbeats 1000000 in
theorem add_full {w : World} {base p : Nat} {ad : Nat → Nat} {own : Nat → Role} {KP : Nat → Option Obj} {st : PS} (H : Holds KP w base p ad own st) (i : Nat) (hi : i < st.nodes.length) (hx : inId st st.row.length < st.nodes.length) (hxi : inId st st.row.length ≠ i)
    (hkl : (st.nd (inId st st.row.length)).kids.length ≤ 1000000000) (_hrl : st.row.length ≤ 1000000000) :
    Calls Tryd.prog 44 #[ptr p, ptr (ad i)] w fun e w' => e = .returned (ptr (ad i)) ∧ (∃ own', Holds KP w' base p ad own' (addS st i)) ∧ Below base w w' ∧ w'.cell? ⟨p, 1, none⟩ = w.cell? ⟨p, 1, none⟩ := by
  obtain ⟨vr, hb, hr, ho⟩ := H.prs
  obtain ⟨A, c, rfl, hc, hm⟩ := hr.slice
  have hc1 := hb.at_ 1 _ rfl
  have HC1 := Lib.hid (hb.at_ 1 (.slice A st.row.length c) rfl)
  have hc2 := hb.at_ 2 _ rfl
  have hc3 := hb.at_ 3 _ rfl
  have hf2 := hb.free 2
  obtain ⟨vl, vk, hn1, _⟩ := H.nds i hi
  have hn4 := hn1.at_ 4 _ rfl
  have hnf := hn1.free 4
  have hpn : ¬ p = ad i := role_ne H.own_p (H.own_n i hi) (by nofun)
  have H1 := H.setNode hi { st.nd i with line := st.line } 4 (.int .i64 st.line) rfl rfl (fun _ _ => rfl)
  have E1 : Below base w (w.setCell ⟨ad i, 4, none⟩ (.int .i64 st.line)) := (Below.refl _ _).setCell (H.bn i hi) _
  have in1 := in_any H1 st.row.length (Nat.le_refl _)
  have IN1 := Lib.hid in1
  have HBP := Lib.hid hb
  have HH1 := Lib.hid H1
  have HE1 := Lib.hid E1
  unfold ptr at *
  clear in1 H1 E1 hr ho hb hn1 H
  go_enter Tryd.func44, Tryd.ntmps44
  go_wp2_with fail
  refine IN1.out.mono ?_
  rintro e w' ⟨rfl, rfl⟩
  have hin : inId (setNd st i { st.nd i with line := st.line }) st.row.length = inId st st.row.length := rfl
  rw [hin]
  clear hin
  generalize hX : inId st st.row.length = x at *
  have H1 : Holds KP _ base p ad own (lineS st i) := HH1.out
  have hlx : x < (lineS st i).nodes.length := by unfold lineS; rw [len_set]; exact hx
  have hndx : (lineS st i).nd x = st.nd x := by unfold lineS; rw [nd_set _ _ _ _ hi, if_neg hxi]
  have E1 := HE1.out
  have hbp1 : Blk (w.setCell ⟨ad i, 4, none⟩ (.int .i64 st.line)) p #[ptr (ad 0), .slice A st.row.length c, leafV ad st.leaf, .int .i64 st.line] 56 := HBP.out.set_ne hpn _
  generalize w.setCell ⟨ad i, 4, none⟩ (.int .i64 st.line) = w1 at H1 E1 hbp1 ⊢
  clear HH1 HE1 IN1 hc1 hc2 hc3 hf2 hn4 hnf
  obtain ⟨vl', vk', hx1, hxl, hxk, hxo, hxo'⟩ := H1.nds x hlx
  rw [hndx] at hx1 hxl hxk
  obtain ⟨A', c', rfl, hc', hm'⟩ := hxk.slice
  have hx9 := hx1.at_ 9 (.slice A' (st.nd x).kids.length c') rfl
  have hs1 := H1.size
  have HXK := Lib.hid hxk
  have HX1 := Lib.hid hx1
  have HXO := Lib.hid hxo
  have HXO' := Lib.hid hxo'
  have HH1 := Lib.hid H1
  have HE1 := Lib.hid E1
  have HX := Lib.hid hX
  have HNDX := Lib.hid hndx
  have HXL := Lib.hid hxl
  have hpx : ¬ p = ad x := role_ne H1.own_p (H1.own_n x hlx) (by nofun)
  have hown_x := H1.own_n x hlx
  have hown_p := H1.own_p
  have far : ∀ w2, w1.grownBy w2 (Value.slice A' (st.nd x).kids.length c').ownBlock → Blk w2 (ad x) (ndCells (st.nd x) vl' (.slice A' (st.nd x).kids.length c')) 54 ∧ Blk w2 p #[ptr (ad 0), .slice A st.row.length c, leafV ad st.leaf, .int .i64 st.line] 56 := by
    intro w2 hg
    exact ⟨hx1.grown hg (fun e => role_ne hown_x (hxo' _ e.symm) (by nofun) rfl), hbp1.grown hg (fun e => role_ne hown_p (hxo' _ e.symm) (by nofun) rfl)⟩
  have FAR := Lib.hid far
  have HPX := Lib.hid hown_x
  have HPP := Lib.hid hown_p
  clear hxk hx1 hxo hxo' H1 E1 hX hndx hxl far hown_x hown_p hbp1 HBP
  go_wp2_with (at_builtin; refine app_one w1 rfl (.tmp 25) (.tmp 27) 52 rfl base 51 _ 1 8 Tryd.underlying52 infoPtr rfl (by omega) (by omega) (.slice A' (st.nd x).kids.length c') (st.nd x).kids.length (ptrs ad (st.nd x).kids) #[.pointer (some ⟨ad i, 0, none⟩)] rfl rfl rfl (by simp [Value.oneCell']) HXK.out hs1 (by omega) ?_; intro v2 w2 hrow2 hg2 hat2; obtain ⟨A2, c2, rfl, hc2', hm2⟩ := hrow2.slice; have hxb := FAR.out w2 hg2; have hf9 := hxb.1.free 9; have hq9 := hxb.1.at_ 9 (.slice A' (st.nd x).kids.length c') rfl; have hp2 := hxb.2.at_ 2 (leafV ad st.leaf) rfl; have hpf := hxb.2.free 2; have HP2 := Lib.hid hxb.2; have HROW2 := Lib.hid hrow2; have HG2 := Lib.hid hg2; have HAT2 := Lib.hid hat2; clear hrow2 hg2 hat2 hxb)
  go_wp2
  go_ret
  have hfin : ∃ own', Holds KP (w2.setCell ⟨ad x, 9, none⟩ (.slice A2 ((st.nd x).kids.length + 1) c2)) base p ad own' (kidS (lineS st i) x i) := by
    have h1 := HX1.out
    rw [← HNDX.out] at h1
    refine kid_appended HH1.out hlx h1 (by rw [HNDX.out]; exact HXL.out) HXO.out (by rw [HNDX.out]; exact HXO'.out) (by rw [HNDX.out]; exact HROW2.out) (by rw [HNDX.out]; exact HG2.out) (by rw [HNDX.out]; exact HAT2.out)
  obtain ⟨own', hf⟩ := hfin
  refine ⟨rfl, ⟨own', ?_⟩, ?_, ?_⟩
  · have h := hf.setLeaf none
    unfold addS
    rw [show inId st st.row.length = x from HX.out]
    exact h
  · refine (((HE1.out.grown HG2.out ?_ ?_).setCell ?_ _).setCell ?_ _)
    · exact hs1
    · intro k hk
      exact (HXK.out.blk k hk).1
    · exact HH1.out.bn x hlx
    · exact HH1.out.bp
  · rw [HC1.out]
    exact ((HP2.out.set_ne (p := ⟨ad x, 9, none⟩) hpx _).set 2 (.pointer none)).at_ 1 (.slice A st.row.length c) rfl
theorem add_any {w : World} {base p : Nat} {ad : Nat → Nat} {own : Nat → Role} {KP : Nat → Option Obj} {st : PS} (H : Holds KP w base p ad own st) (i : Nat) (hi : i < st.nodes.length) (hx : inId st st.row.length < st.nodes.length) (hxi : inId st st.row.length ≠ i)
    (hkl : (st.nd (inId st st.row.length)).kids.length ≤ 1000000000) (hrl : st.row.length ≤ 1000000000) :
    Calls Tryd.prog 44 #[ptr p, ptr (ad i)] w fun e w' => e = .returned (ptr (ad i)) ∧ (∃ own', Holds KP w' base p ad own' (addS st i)) ∧ Below base w w' :=
  (add_full H i hi hx hxi hkl hrl).mono fun _ _ h => ⟨h.1, h.2.1, h.2.2.1⟩
end Go.Proofs.YtjgaobkgmheocaaDoor
