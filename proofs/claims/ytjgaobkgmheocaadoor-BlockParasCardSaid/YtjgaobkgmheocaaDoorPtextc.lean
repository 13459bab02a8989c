/- block.parser.text: a new leaf. -/
import Derived.Test.YtjgaobkgmheocaaDoorPtextb
namespace Go.Proofs.YtjgaobkgmheocaaDoor
open Go Go.RowKit

set_option maxRecDepth 100000 in
set_option maxHeartbeats 4000000 in
theorem text_fresh {w : World} {base p : Nat} {ad : Nat → Nat} {own : Nat → Role} {KP : Nat → Option Obj} {st : PS} (H : Holds KP w base p ad own st) (wf : Wf st) (sz : Sz st) (i : Nat) (hi : i ≤ st.row.length) (s : List UInt8) (hs : s.length ≤ 140737488355328) 
    (hn : st.nodes.length < 1000000000) :
    Calls Tryd.prog 31 #[ptr p, .int .i64 i, .string (S s), .bool true] w fun e w' => e = .returned (.tuple #[]) ∧ (∃ ad' own', (∀ i, i < st.nodes.length → ad' i = ad i) ∧ Holds KP w' base p ad' own' (leafNew (st) (textNd (trim s)))) ∧ Below base w w' := by
  have TR := Lib.hid (trim_any s w (by omega))
  have HH := Lib.hid H
  have HWF := Lib.hid wf
  have HSZ := Lib.hid sz
  clear H wf sz
  unfold ptr
  go_enter Tryd.func31, Tryd.ntmps31
  go_wp2_with fail
  refine TR.out.mono ?_
  rintro e wq ⟨rfl, hbq⟩
  have HHQ := Lib.hid (HH.out.below hbq)
  have HBQ := Lib.hid (show Below base w wq from hbq.mono HH.out.size)
  clear hbq TR HH
  have HHS := HHQ
  have HBS := HBQ
  have WFS := HWF
  have SZS := HSZ
  have NQ := Lib.hid hn
  obtain ⟨ws, rfl⟩ : ∃ x : World, x = wq := ⟨_, rfl⟩
  obtain ⟨stq, rfl⟩ : ∃ x : PS, x = st := ⟨_, rfl⟩
  have hsz := HHS.out.size
  have hrow1 : Row (ws.alloc (.cells #[.string (S (trim s))] 9)) base 9 1 (.slice (some ⟨ws.heap.size, 0, none⟩) 1 1) (textNd (trim s)).lines.length (strVals (textNd (trim s)).lines) :=
    ⟨by simp [strVals, textNd], .inr ⟨ws.heap.size, 1, #[.string (S (trim s))], rfl, hsz, Blk.new _ _ _, Nat.le_refl _, by simp [maxLen], by simp, by simp [strVals, textNd]⟩⟩
  obtain ⟨ad2, own2, hnew2, had2, H2⟩ := HHS.out.newL WFS.out (textNd (trim s)) rfl (Below.alloc (Below.refl _ ws) (Nat.le_refl _) _) _ hrow1 (fun k hk => by (have : ws.heap.size = k := by simpa [Value.ownBlock] using hk); omega)
  rw [World.size_alloc] at hnew2
  have hxq := inId_lt WFS.out HHS.out.pos stq.row.length (Nat.le_refl _)
  have hadd := add_any H2 stq.nodes.length (by rw [len_newS]; omega) (by rw [len_newS]; show inId stq stq.row.length < _; omega) (by show inId stq stq.row.length ≠ _; omega) (by show ((newS stq (textNd (trim s))).nd (inId stq stq.row.length)).kids.length ≤ _; rw [nd_new, if_neg (by omega)]; have := SZS.out.kids (inId stq stq.row.length); have := NQ.out; omega) (by have := SZS.out.row; have := NQ.out; show stq.row.length ≤ _; omega)
  rw [hnew2] at hadd
  have ADD := Lib.hid hadd
  have HAD2 := Lib.hid had2
  have HNEW2 := Lib.hid hnew2
  have HBA := Lib.hid (show Below base w _ from (HBS.out.alloc hsz (.cells #[.string (S (trim s))] 9)).alloc (by simp; omega) (.cells (ndCells (textNd (trim s)) (.slice (some ⟨ws.heap.size, 0, none⟩) 1 1) (.slice none 0 0)) 54))
  unfold ptr at *
  clear hadd had2 hnew2 H2 hrow1
  go_wp2_with fail
  refine ADD.out.mono ?_
  rintro e wb ⟨rfl, ⟨ownb, hhb⟩, hbb⟩
  obtain ⟨vb, hb2, hrb, hob⟩ := hhb.prs
  have hp2 := hb2.at_ 2 (.pointer none) rfl
  have hpf := hb2.free 2
  have HFIN := Lib.hid (hhb.setLeaf (some stq.nodes.length))
  have HE := Lib.hid (Below.setCell (HBA.out.trans hbb) (p := ⟨p, 2, none⟩) hhb.bp (.pointer (some ⟨ws.heap.size + 1, 0, none⟩)))
  clear hb2 hrb hob hhb hbb
  go_wp2
  go_end0
  refine ⟨rfl, ⟨ad2, ownb, HAD2.out, ?_⟩, HE.out⟩
  have h := HFIN.out
  unfold leafV ptr at h
  simp only [HNEW2.out] at h
  exact h
set_option maxRecDepth 100000 in
set_option maxHeartbeats 4000000 in
theorem text_none {w : World} {base p : Nat} {ad : Nat → Nat} {own : Nat → Role} {KP : Nat → Option Obj} {st : PS} (H : Holds KP w base p ad own st) (wf : Wf st) (sz : Sz st) (i : Nat) (hi : i ≤ st.row.length) (s : List UInt8) (hs : s.length ≤ 140737488355328) (hleaf : st.leaf = none)
    (hn : st.nodes.length < 1000000000) :
    Calls Tryd.prog 31 #[ptr p, .int .i64 i, .string (S s), .bool false] w fun e w' => e = .returned (.tuple #[]) ∧ (∃ ad' own', (∀ i, i < st.nodes.length → ad' i = ad i) ∧ Holds KP w' base p ad' own' (leafNew (shutS st i) (textNd (trim s)))) ∧ Below base w w' := by
  have TR := Lib.hid (trim_any s w (by omega))
  have HH := Lib.hid H
  have HWF := Lib.hid wf
  have HSZ := Lib.hid sz
  clear H wf sz
  unfold ptr
  go_enter Tryd.func31, Tryd.ntmps31
  go_wp2_with fail
  refine TR.out.mono ?_
  rintro e wq ⟨rfl, hbq⟩
  have HHQ := Lib.hid (HH.out.below hbq)
  have HBQ := Lib.hid (show Below base w wq from hbq.mono HH.out.size)
  clear hbq TR HH
  obtain ⟨vr, hb, hr, ho⟩ := HHQ.out.prs
  rw [hleaf] at hb
  have hp2 := hb.at_ 2 (leafV ad none) rfl
  unfold leafV at hp2
  unfold ptr at *
  clear hb hr ho
  have SHUT := Lib.hid (shut_any HHQ.out i hi)
  unfold ptr at SHUT
  go_wp2_with fail
  refine SHUT.out.mono ?_
  rintro e ws ⟨rfl, hhs, hbs⟩
  have HHS := Lib.hid hhs
  have HBS := Lib.hid (HBQ.out.trans hbs)
  have WFS := Lib.hid (HWF.out.shutS i)
  have SZS := Lib.hid (HSZ.out.shut i)
  have NQ := Lib.hid (show (shutS st i).nodes.length < 1000000000 from hn)
  clear hhs hbs SHUT hp2
  have hsz := HHS.out.size
  have hrow1 : Row (ws.alloc (.cells #[.string (S (trim s))] 9)) base 9 1 (.slice (some ⟨ws.heap.size, 0, none⟩) 1 1) (textNd (trim s)).lines.length (strVals (textNd (trim s)).lines) :=
    ⟨by simp [strVals, textNd], .inr ⟨ws.heap.size, 1, #[.string (S (trim s))], rfl, hsz, Blk.new _ _ _, Nat.le_refl _, by simp [maxLen], by simp, by simp [strVals, textNd]⟩⟩
  obtain ⟨ad2, own2, hnew2, had2, H2⟩ := HHS.out.newL WFS.out (textNd (trim s)) rfl (Below.alloc (Below.refl _ ws) (Nat.le_refl _) _) _ hrow1 (fun k hk => by (have : ws.heap.size = k := by simpa [Value.ownBlock] using hk); omega)
  rw [World.size_alloc] at hnew2
  have hxq := inId_lt WFS.out HHS.out.pos (shutS st i).row.length (Nat.le_refl _)
  have hadd := add_any H2 (shutS st i).nodes.length (by rw [len_newS]; omega) (by rw [len_newS]; show inId (shutS st i) (shutS st i).row.length < _; omega) (by show inId (shutS st i) (shutS st i).row.length ≠ _; omega) (by show ((newS (shutS st i) (textNd (trim s))).nd (inId (shutS st i) (shutS st i).row.length)).kids.length ≤ _; rw [nd_new, if_neg (by omega)]; have := SZS.out.kids (inId (shutS st i) (shutS st i).row.length); have := NQ.out; omega) (by have := SZS.out.row; have := NQ.out; show (shutS st i).row.length ≤ _; omega)
  rw [hnew2] at hadd
  have ADD := Lib.hid hadd
  have HAD2 := Lib.hid had2
  have HNEW2 := Lib.hid hnew2
  have HBA := Lib.hid (show Below base w _ from (HBS.out.alloc hsz (.cells #[.string (S (trim s))] 9)).alloc (by simp; omega) (.cells (ndCells (textNd (trim s)) (.slice (some ⟨ws.heap.size, 0, none⟩) 1 1) (.slice none 0 0)) 54))
  unfold ptr at *
  clear hadd had2 hnew2 H2 hrow1
  go_wp2_with fail
  refine ADD.out.mono ?_
  rintro e wb ⟨rfl, ⟨ownb, hhb⟩, hbb⟩
  obtain ⟨vb, hb2, hrb, hob⟩ := hhb.prs
  have hp2 := hb2.at_ 2 (.pointer none) rfl
  have hpf := hb2.free 2
  have HFIN := Lib.hid (hhb.setLeaf (some (shutS st i).nodes.length))
  have HE := Lib.hid (Below.setCell (HBA.out.trans hbb) (p := ⟨p, 2, none⟩) hhb.bp (.pointer (some ⟨ws.heap.size + 1, 0, none⟩)))
  clear hb2 hrb hob hhb hbb
  go_wp2
  go_end0
  refine ⟨rfl, ⟨ad2, ownb, HAD2.out, ?_⟩, HE.out⟩
  have h := HFIN.out
  unfold leafV ptr at h
  simp only [HNEW2.out] at h
  exact h
set_option maxRecDepth 100000 in
set_option maxHeartbeats 4000000 in
theorem text_other {w : World} {base p : Nat} {ad : Nat → Nat} {own : Nat → Role} {KP : Nat → Option Obj} {st : PS} (H : Holds KP w base p ad own st) (wf : Wf st) (sz : Sz st) (i : Nat) (hi : i ≤ st.row.length) (s : List UInt8) (hs : s.length ≤ 140737488355328) (j : Nat) (hleaf : st.leaf = some j) (hkind : (st.nd j).kind ≠ 4)
    (hn : st.nodes.length < 1000000000) :
    Calls Tryd.prog 31 #[ptr p, .int .i64 i, .string (S s), .bool false] w fun e w' => e = .returned (.tuple #[]) ∧ (∃ ad' own', (∀ i, i < st.nodes.length → ad' i = ad i) ∧ Holds KP w' base p ad' own' (leafNew (shutS st i) (textNd (trim s)))) ∧ Below base w w' := by
  have TR := Lib.hid (trim_any s w (by omega))
  have HH := Lib.hid H
  have HWF := Lib.hid wf
  have HSZ := Lib.hid sz
  clear H wf sz
  unfold ptr
  go_enter Tryd.func31, Tryd.ntmps31
  go_wp2_with fail
  refine TR.out.mono ?_
  rintro e wq ⟨rfl, hbq⟩
  have HHQ := Lib.hid (HH.out.below hbq)
  have HBQ := Lib.hid (show Below base w wq from hbq.mono HH.out.size)
  clear hbq TR HH
  obtain ⟨vr, hb, hr, ho⟩ := HHQ.out.prs
  rw [hleaf] at hb
  have hp2 := hb.at_ 2 (leafV ad (some j)) rfl
  unfold leafV at hp2
  unfold ptr at *
  clear hb hr ho
  have hjx := HWF.out.leaf j hleaf
  obtain ⟨vlj, vkj, hbj, _⟩ := HHQ.out.nds j hjx
  have hk0 := hbj.at_ 0 (.int .i64 (st.nd j).kind) rfl
  have hk4 : ((((st.nd j).kind : Nat) : Int) == 4) = false := by rw [beq_eq_false_iff_ne]; omega
  have HLEAF := Lib.hid hleaf
  clear hbj hleaf
  have SHUT := Lib.hid (shut_any HHQ.out i hi)
  unfold ptr at SHUT
  go_wp2_with fail
  refine SHUT.out.mono ?_
  rintro e ws ⟨rfl, hhs, hbs⟩
  have HHS := Lib.hid hhs
  have HBS := Lib.hid (HBQ.out.trans hbs)
  have WFS := Lib.hid (HWF.out.shutS i)
  have SZS := Lib.hid (HSZ.out.shut i)
  have NQ := Lib.hid (show (shutS st i).nodes.length < 1000000000 from hn)
  clear hhs hbs SHUT hp2 hk0 hk4
  have hsz := HHS.out.size
  have hrow1 : Row (ws.alloc (.cells #[.string (S (trim s))] 9)) base 9 1 (.slice (some ⟨ws.heap.size, 0, none⟩) 1 1) (textNd (trim s)).lines.length (strVals (textNd (trim s)).lines) :=
    ⟨by simp [strVals, textNd], .inr ⟨ws.heap.size, 1, #[.string (S (trim s))], rfl, hsz, Blk.new _ _ _, Nat.le_refl _, by simp [maxLen], by simp, by simp [strVals, textNd]⟩⟩
  obtain ⟨ad2, own2, hnew2, had2, H2⟩ := HHS.out.newL WFS.out (textNd (trim s)) rfl (Below.alloc (Below.refl _ ws) (Nat.le_refl _) _) _ hrow1 (fun k hk => by (have : ws.heap.size = k := by simpa [Value.ownBlock] using hk); omega)
  rw [World.size_alloc] at hnew2
  have hxq := inId_lt WFS.out HHS.out.pos (shutS st i).row.length (Nat.le_refl _)
  have hadd := add_any H2 (shutS st i).nodes.length (by rw [len_newS]; omega) (by rw [len_newS]; show inId (shutS st i) (shutS st i).row.length < _; omega) (by show inId (shutS st i) (shutS st i).row.length ≠ _; omega) (by show ((newS (shutS st i) (textNd (trim s))).nd (inId (shutS st i) (shutS st i).row.length)).kids.length ≤ _; rw [nd_new, if_neg (by omega)]; have := SZS.out.kids (inId (shutS st i) (shutS st i).row.length); have := NQ.out; omega) (by have := SZS.out.row; have := NQ.out; show (shutS st i).row.length ≤ _; omega)
  rw [hnew2] at hadd
  have ADD := Lib.hid hadd
  have HAD2 := Lib.hid had2
  have HNEW2 := Lib.hid hnew2
  have HBA := Lib.hid (show Below base w _ from (HBS.out.alloc hsz (.cells #[.string (S (trim s))] 9)).alloc (by simp; omega) (.cells (ndCells (textNd (trim s)) (.slice (some ⟨ws.heap.size, 0, none⟩) 1 1) (.slice none 0 0)) 54))
  unfold ptr at *
  clear hadd had2 hnew2 H2 hrow1
  go_wp2_with fail
  refine ADD.out.mono ?_
  rintro e wb ⟨rfl, ⟨ownb, hhb⟩, hbb⟩
  obtain ⟨vb, hb2, hrb, hob⟩ := hhb.prs
  have hp2 := hb2.at_ 2 (.pointer none) rfl
  have hpf := hb2.free 2
  have HFIN := Lib.hid (hhb.setLeaf (some (shutS st i).nodes.length))
  have HE := Lib.hid (Below.setCell (HBA.out.trans hbb) (p := ⟨p, 2, none⟩) hhb.bp (.pointer (some ⟨ws.heap.size + 1, 0, none⟩)))
  clear hb2 hrb hob hhb hbb
  go_wp2
  go_end0
  refine ⟨rfl, ⟨ad2, ownb, HAD2.out, ?_⟩, HE.out⟩
  have h := HFIN.out
  unfold leafV ptr at h
  simp only [HNEW2.out] at h
  exact h
theorem ptext_any {w : World} {base p : Nat} {ad : Nat → Nat} {own : Nat → Role} {KP : Nat → Option Obj} {st : PS} (H : Holds KP w base p ad own st) (wf : Wf st) (sz : Sz st) (i : Nat) (hi : i ≤ st.row.length) (s : List UInt8) (hs : s.length ≤ 140737488355328) (fr : Bool)
    (hn : st.nodes.length < 1000000000) (hln : ∀ j, (st.nd j).lines.length ≤ 1000000000) :
    Calls Tryd.prog 31 #[ptr p, .int .i64 i, .string (S s), .bool fr] w fun e w' => e = .returned (.tuple #[]) ∧ (∃ ad' own', (∀ i, i < st.nodes.length → ad' i = ad i) ∧ Holds KP w' base p ad' own' (textS st i s fr)) ∧ Below base w w' := by
  cases fr with
  | true => exact text_fresh H wf sz i hi s hs hn
  | false =>
    cases hl : st.leaf with
    | none =>
      have e : textS st i s false = leafNew (shutS st i) (textNd (trim s)) := by unfold textS openText; rw [hl]; rfl
      rw [e]
      exact text_none H wf sz i hi s hs hl hn
    | some j =>
      by_cases hk : (st.nd j).kind = 4
      · have e : textS st i s false = lnS st j (trim s) := by unfold textS openText; rw [hl]; simp [hk]
        rw [e]
        refine (text_line H wf i s hs j hl hk (hln j)).mono ?_
        rintro e w' ⟨h1, ⟨own', h2⟩, h3⟩
        exact ⟨h1, ⟨ad, own', fun _ _ => rfl, h2⟩, h3⟩
      · have e : textS st i s false = leafNew (shutS st i) (textNd (trim s)) := by unfold textS openText; rw [hl]; simp [hk]
        rw [e]
        exact text_other H wf sz i hi s hs j hl hk hn
end Go.Proofs.YtjgaobkgmheocaaDoor
