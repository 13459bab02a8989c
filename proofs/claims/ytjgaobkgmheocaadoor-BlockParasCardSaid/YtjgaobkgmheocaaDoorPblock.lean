/- block.parser.block. -/
import Derived.Test.YtjgaobkgmheocaaDoorPtextc
namespace Go.Proofs.YtjgaobkgmheocaaDoor
open Go Go.RowKit

def headNd (lv : Nat) (t : List UInt8) : Nd := { Nd.zero with kind := 5, level := lv, text := t }
def ruleNd : Nd := { Nd.zero with kind := 6 }
def fenceNd (f : FO) : Nd := { Nd.zero with kind := 7, info := f.info, fence := f }
/-- What block does; none: no block begins. -/
def blockS (st : PS) (i : Nat) (s : List UInt8) (fr : Bool) : Option PS :=
  let st1 := if fr then st else shutS st i
  match heading s with
  | some (lv, t) => some (addS (newS st1 (headNd lv t)) st1.nodes.length)
  | none =>
    if isBreak s then some (addS (newS st1 ruleNd) st1.nodes.length)
    else match begins s with
      | some f => some (leafNew st1 (fenceNd f))
      | none => none
theorem head_val (l : List UInt8) (w : World) (hl : l.length ≤ 140737488355328) :
    Calls Tryd.prog 48 #[.string (S l)] w fun e w' => ∃ (n : Nat) (t : List UInt8) (b : Bool), heading l = (if b then some (n, t) else none) ∧ e = .returned (.tuple #[.int .i64 n, .string (S t), .bool b]) ∧ Below w.heap.size w w' := by
  refine (heading_any l w hl).mono ?_
  rintro e w' ⟨rfl, h⟩
  cases hq : heading l with
  | none => exact ⟨0, [], false, rfl, rfl, h⟩
  | some x => exact ⟨x.1, x.2, true, rfl, rfl, h⟩
theorem begin_val (l : List UInt8) (w : World) (hl : l.length ≤ 140737488355328) :
    Calls Tryd.prog 50 #[.string (S l)] w fun e w' => ∃ (f : FO) (b : Bool), begins l = (if b then some f else none) ∧ e = .returned (.tuple #[.agg #[.int .u8 f.char.toNat, .int .i64 f.count, .int .i64 f.indent, .string (S f.info)], .bool b]) ∧ Below w.heap.size w w' := by
  refine (begins_any l w hl).mono ?_
  rintro e w' ⟨rfl, h⟩
  cases hq : begins l with
  | none => exact ⟨FO.zero, false, rfl, rfl, h⟩
  | some x => exact ⟨x, true, rfl, rfl, h⟩
set_option maxRecDepth 100000 in
set_option maxHeartbeats 4000000 in
theorem block_walk {w : World} {base p : Nat} {ad : Nat → Nat} {own : Nat → Role} {KP : Nat → Option Obj} {st : PS} (H : Holds KP w base p ad own st) (wf : Wf st) (sz : Sz st) (i : Nat) (hi : i ≤ st.row.length) (s : List UInt8) (hs : s.length ≤ 140737488355328) (fr : Bool)
    (hn : st.nodes.length < 1000000000) :
    Calls Tryd.prog 30 #[ptr p, .int .i64 i, .string (S s), .bool fr] w fun e w' => e = .returned (.bool (blockS st i s fr).isSome) ∧ (∃ ad' own', (∀ i, i < st.nodes.length → ad' i = ad i) ∧ Holds KP w' base p ad' own' ((blockS st i s fr).getD st)) ∧ Below base w w' := by
  have HD := Lib.hid (fun w => head_val s w hs)
  have BR := Lib.hid (fun w => break_any s w hs)
  have BG := Lib.hid (fun w => begin_val s w hs)
  have HH := Lib.hid H
  have HWF := Lib.hid wf
  have HSZ := Lib.hid sz
  clear H wf sz
  unfold ptr
  go_enter Tryd.func30, Tryd.ntmps30
  go_wp2_with fail
  refine (HD.out _).mono ?_
  rintro e w1 ⟨lv, t, hd, hhd, rfl, hb1⟩
  have HB1 := Lib.hid hb1
  have HHD := Lib.hid hhd
  clear hb1 hhd
  go_wp2_with fail
  refine (BR.out _).mono ?_
  rintro e w2 ⟨rfl, hb2⟩
  have HB2 := Lib.hid (HB1.out.trans (hb2.mono HB1.out.size))
  clear hb2
  generalize hbr : isBreak s = br at *
  have HBR := Lib.hid hbr
  clear hbr
  go_wp2_with fail
  refine (BG.out _).mono ?_
  rintro e w3 ⟨f, fd, hfd, rfl, hb3⟩
  have HFD := Lib.hid hfd
  have HB3 := Lib.hid (HB2.out.trans (hb3.mono HB2.out.size))
  clear hfd hb3
  have H3 := HH.out.below HB3.out
  have H3' : Holds KP w3 base p ad (fun k => if k = w3.heap.size then .other else own k) st := H3.ext fun k hk => if_neg (by omega)
  have HNP := Lib.hid (show w3.heap.size ≠ p from fun e => by have h : (if p = w3.heap.size then Role.other else own p) = .prs := H3'.own_p; rw [if_pos e.symm] at h; cases h)
  have HHA := Lib.hid (H3'.alloc (.cells #[.int .u8 f.char.toNat, .int .i64 f.count, .int .i64 f.indent, .string (S f.info)] 37))
  have HBB := Lib.hid ((HB3.out.mono HH.out.size).alloc H3.size (.cells #[.int .u8 f.char.toNat, .int .i64 f.count, .int .i64 f.indent, .string (S f.info)] 37))
  clear H3 H3' HB1 HB2 HB3 HH HD BR BG
  cases hd with
  | true =>
    cases fr with
    | true =>
      have HEQ := Lib.hid (show blockS st i s true = some (addS (newS (st) (headNd lv t)) (st).nodes.length) by simp [blockS, HHD.out])
      have HHS := HHA
      have HBS := HBB
      have WFS := HWF
      have SZS := HSZ
      have NQ := Lib.hid hn
      have hfb := Blk.new w3 #[.int .u8 f.char.toNat, .int .i64 f.count, .int .i64 f.indent, .string (S f.info)] 37
      clear hfb
      have hsz := HHS.out.size
      obtain ⟨ad2, own2, hnew2, had2, H2⟩ := HHS.out.new WFS.out (headNd lv t) rfl rfl
      rw [World.size_alloc] at hnew2
      have hxq := inId_lt WFS.out HHS.out.pos (st).row.length (Nat.le_refl _)
      have hadd := add_any H2 (st).nodes.length (by rw [len_newS]; omega) (by rw [len_newS]; show inId (st) (st).row.length < _; omega) (by show inId (st) (st).row.length ≠ _; omega) (by show ((newS (st) (headNd lv t)).nd (inId (st) (st).row.length)).kids.length ≤ _; rw [nd_new, if_neg (by omega)]; have := SZS.out.kids (inId (st) (st).row.length); have := NQ.out; omega) (by have := SZS.out.row; have := NQ.out; show (st).row.length ≤ _; omega)
      rw [hnew2] at hadd
      have ADD := Lib.hid hadd
      have HAD2 := Lib.hid had2
      have HNEW2 := Lib.hid hnew2
      have HBA := Lib.hid (show Below base w _ from HBS.out.alloc hsz (.cells (ndCells (headNd lv t) (.slice none 0 0) (.slice none 0 0)) 54))
      unfold ptr at *
      clear hadd had2 hnew2 H2
      go_wp2_with fail
      refine ADD.out.mono ?_
      rintro e wb ⟨rfl, ⟨ownb, hhb⟩, hbb⟩
      have HFIN := Lib.hid hhb
      have HE := Lib.hid (HBA.out.trans hbb)
      clear hhb hbb
      go_wp2
      go_ret
      exact ⟨by rw [HEQ.out]; rfl, ⟨ad2, ownb, HAD2.out, by rw [HEQ.out]; exact HFIN.out⟩, HE.out⟩
    | false =>
      have HEQ := Lib.hid (show blockS st i s false = some (addS (newS (shutS st i) (headNd lv t)) (shutS st i).nodes.length) by simp [blockS, HHD.out])
      have SHUT := Lib.hid (shut_full HHA.out i hi)
      unfold ptr at SHUT
      go_wp2_with fail
      refine SHUT.out.mono ?_
      rintro e ws ⟨rfl, hhs, hbs, hkp⟩
      have HHS := Lib.hid hhs
      have HBS := Lib.hid (HBB.out.trans hbs)
      have WFS := Lib.hid (HWF.out.shutS i)
      have SZS := Lib.hid (HSZ.out.shut i)
      have NQ := Lib.hid (show (shutS st i).nodes.length < 1000000000 from hn)
      have hfb : Blk ws w3.heap.size #[.int .u8 f.char.toNat, .int .i64 f.count, .int .i64 f.indent, .string (S f.info)] 37 := (hkp _ HNP.out).trans (Blk.new w3 _ _)
      clear hhs hbs hkp SHUT
      clear hfb
      have hsz := HHS.out.size
      obtain ⟨ad2, own2, hnew2, had2, H2⟩ := HHS.out.new WFS.out (headNd lv t) rfl rfl
      have hxq := inId_lt WFS.out HHS.out.pos (shutS st i).row.length (Nat.le_refl _)
      have hadd := add_any H2 (shutS st i).nodes.length (by rw [len_newS]; omega) (by rw [len_newS]; show inId (shutS st i) (shutS st i).row.length < _; omega) (by show inId (shutS st i) (shutS st i).row.length ≠ _; omega) (by show ((newS (shutS st i) (headNd lv t)).nd (inId (shutS st i) (shutS st i).row.length)).kids.length ≤ _; rw [nd_new, if_neg (by omega)]; have := SZS.out.kids (inId (shutS st i) (shutS st i).row.length); have := NQ.out; omega) (by have := SZS.out.row; have := NQ.out; show (shutS st i).row.length ≤ _; omega)
      rw [hnew2] at hadd
      have ADD := Lib.hid hadd
      have HAD2 := Lib.hid had2
      have HNEW2 := Lib.hid hnew2
      have HBA := Lib.hid (show Below base w _ from HBS.out.alloc hsz (.cells (ndCells (headNd lv t) (.slice none 0 0) (.slice none 0 0)) 54))
      unfold ptr at *
      clear hadd had2 hnew2 H2
      go_wp2_with fail
      refine ADD.out.mono ?_
      rintro e wb ⟨rfl, ⟨ownb, hhb⟩, hbb⟩
      have HFIN := Lib.hid hhb
      have HE := Lib.hid (HBA.out.trans hbb)
      clear hhb hbb
      go_wp2
      go_ret
      exact ⟨by rw [HEQ.out]; rfl, ⟨ad2, ownb, HAD2.out, by rw [HEQ.out]; exact HFIN.out⟩, HE.out⟩
  | false =>
    cases br with
    | true =>
      cases fr with
      | true =>
        have HEQ := Lib.hid (show blockS st i s true = some (addS (newS (st) ruleNd) (st).nodes.length) by simp [blockS, HHD.out, HBR.out])
        have HHS := HHA
        have HBS := HBB
        have WFS := HWF
        have SZS := HSZ
        have NQ := Lib.hid hn
        have hfb := Blk.new w3 #[.int .u8 f.char.toNat, .int .i64 f.count, .int .i64 f.indent, .string (S f.info)] 37
        clear hfb
        have hsz := HHS.out.size
        obtain ⟨ad2, own2, hnew2, had2, H2⟩ := HHS.out.new WFS.out (ruleNd) rfl rfl
        rw [World.size_alloc] at hnew2
        have hxq := inId_lt WFS.out HHS.out.pos (st).row.length (Nat.le_refl _)
        have hadd := add_any H2 (st).nodes.length (by rw [len_newS]; omega) (by rw [len_newS]; show inId (st) (st).row.length < _; omega) (by show inId (st) (st).row.length ≠ _; omega) (by show ((newS (st) (ruleNd)).nd (inId (st) (st).row.length)).kids.length ≤ _; rw [nd_new, if_neg (by omega)]; have := SZS.out.kids (inId (st) (st).row.length); have := NQ.out; omega) (by have := SZS.out.row; have := NQ.out; show (st).row.length ≤ _; omega)
        rw [hnew2] at hadd
        have ADD := Lib.hid hadd
        have HAD2 := Lib.hid had2
        have HNEW2 := Lib.hid hnew2
        have HBA := Lib.hid (show Below base w _ from HBS.out.alloc hsz (.cells (ndCells (ruleNd) (.slice none 0 0) (.slice none 0 0)) 54))
        unfold ptr at *
        clear hadd had2 hnew2 H2
        go_wp2_with fail
        refine ADD.out.mono ?_
        rintro e wb ⟨rfl, ⟨ownb, hhb⟩, hbb⟩
        have HFIN := Lib.hid hhb
        have HE := Lib.hid (HBA.out.trans hbb)
        clear hhb hbb
        go_wp2
        go_ret
        exact ⟨by rw [HEQ.out]; rfl, ⟨ad2, ownb, HAD2.out, by rw [HEQ.out]; exact HFIN.out⟩, HE.out⟩
      | false =>
        have HEQ := Lib.hid (show blockS st i s false = some (addS (newS (shutS st i) ruleNd) (shutS st i).nodes.length) by simp [blockS, HHD.out, HBR.out])
        have SHUT := Lib.hid (shut_full HHA.out i hi)
        unfold ptr at SHUT
        go_wp2_with fail
        refine SHUT.out.mono ?_
        rintro e ws ⟨rfl, hhs, hbs, hkp⟩
        have HHS := Lib.hid hhs
        have HBS := Lib.hid (HBB.out.trans hbs)
        have WFS := Lib.hid (HWF.out.shutS i)
        have SZS := Lib.hid (HSZ.out.shut i)
        have NQ := Lib.hid (show (shutS st i).nodes.length < 1000000000 from hn)
        have hfb : Blk ws w3.heap.size #[.int .u8 f.char.toNat, .int .i64 f.count, .int .i64 f.indent, .string (S f.info)] 37 := (hkp _ HNP.out).trans (Blk.new w3 _ _)
        clear hhs hbs hkp SHUT
        clear hfb
        have hsz := HHS.out.size
        obtain ⟨ad2, own2, hnew2, had2, H2⟩ := HHS.out.new WFS.out (ruleNd) rfl rfl
        have hxq := inId_lt WFS.out HHS.out.pos (shutS st i).row.length (Nat.le_refl _)
        have hadd := add_any H2 (shutS st i).nodes.length (by rw [len_newS]; omega) (by rw [len_newS]; show inId (shutS st i) (shutS st i).row.length < _; omega) (by show inId (shutS st i) (shutS st i).row.length ≠ _; omega) (by show ((newS (shutS st i) (ruleNd)).nd (inId (shutS st i) (shutS st i).row.length)).kids.length ≤ _; rw [nd_new, if_neg (by omega)]; have := SZS.out.kids (inId (shutS st i) (shutS st i).row.length); have := NQ.out; omega) (by have := SZS.out.row; have := NQ.out; show (shutS st i).row.length ≤ _; omega)
        rw [hnew2] at hadd
        have ADD := Lib.hid hadd
        have HAD2 := Lib.hid had2
        have HNEW2 := Lib.hid hnew2
        have HBA := Lib.hid (show Below base w _ from HBS.out.alloc hsz (.cells (ndCells (ruleNd) (.slice none 0 0) (.slice none 0 0)) 54))
        unfold ptr at *
        clear hadd had2 hnew2 H2
        go_wp2_with fail
        refine ADD.out.mono ?_
        rintro e wb ⟨rfl, ⟨ownb, hhb⟩, hbb⟩
        have HFIN := Lib.hid hhb
        have HE := Lib.hid (HBA.out.trans hbb)
        clear hhb hbb
        go_wp2
        go_ret
        exact ⟨by rw [HEQ.out]; rfl, ⟨ad2, ownb, HAD2.out, by rw [HEQ.out]; exact HFIN.out⟩, HE.out⟩
    | false =>
      cases fd with
      | true =>
        cases fr with
        | true =>
          have HEQ := Lib.hid (show blockS st i s true = some (leafNew (st) (fenceNd f)) by simp [blockS, HHD.out, HBR.out, HFD.out])
          have HHS := HHA
          have HBS := HBB
          have WFS := HWF
          have SZS := HSZ
          have NQ := Lib.hid hn
          have hfb := Blk.new w3 #[.int .u8 f.char.toNat, .int .i64 f.count, .int .i64 f.indent, .string (S f.info)] 37
          have hf0 := hfb.at_ 0 (.int .u8 f.char.toNat) rfl
          have hf1 := hfb.at_ 1 (.int .i64 f.count) rfl
          have hf2 := hfb.at_ 2 (.int .i64 f.indent) rfl
          have hf3 := hfb.at_ 3 (.string (S f.info)) rfl
          clear hfb
          have hsz := HHS.out.size
          obtain ⟨ad2, own2, hnew2, had2, H2⟩ := HHS.out.new WFS.out (fenceNd f) rfl rfl
          rw [World.size_alloc] at hnew2
          have hxq := inId_lt WFS.out HHS.out.pos (st).row.length (Nat.le_refl _)
          have hadd := add_any H2 (st).nodes.length (by rw [len_newS]; omega) (by rw [len_newS]; show inId (st) (st).row.length < _; omega) (by show inId (st) (st).row.length ≠ _; omega) (by show ((newS (st) (fenceNd f)).nd (inId (st) (st).row.length)).kids.length ≤ _; rw [nd_new, if_neg (by omega)]; have := SZS.out.kids (inId (st) (st).row.length); have := NQ.out; omega) (by have := SZS.out.row; have := NQ.out; show (st).row.length ≤ _; omega)
          rw [hnew2] at hadd
          have ADD := Lib.hid hadd
          have HAD2 := Lib.hid had2
          have HNEW2 := Lib.hid hnew2
          have HBA := Lib.hid (show Below base w _ from HBS.out.alloc hsz (.cells (ndCells (fenceNd f) (.slice none 0 0) (.slice none 0 0)) 54))
          unfold ptr at *
          clear hadd had2 hnew2 H2
          go_wp2_with fail
          refine ADD.out.mono ?_
          rintro e wb ⟨rfl, ⟨ownb, hhb⟩, hbb⟩
          obtain ⟨vb, hb2, hrb, hob⟩ := hhb.prs
          have hp2 := hb2.at_ 2 (.pointer none) rfl
          have hpf := hb2.free 2
          have HFIN := Lib.hid (hhb.setLeaf (some (st).nodes.length))
          have HE := Lib.hid (Below.setCell (HBA.out.trans hbb) (p := ⟨p, 2, none⟩) hhb.bp (ptr (ad2 (st).nodes.length)))
          clear hb2 hrb hob hhb hbb
          go_wp2
          go_ret
          refine ⟨by rw [HEQ.out]; rfl, ⟨ad2, ownb, HAD2.out, ?_⟩, ?_⟩
          · rw [HEQ.out]
            have h := HFIN.out
            unfold leafV ptr at h
            simp only [HNEW2.out] at h
            exact h
          · have h := HE.out
            unfold ptr at h
            rw [HNEW2.out] at h
            exact h
        | false =>
          have HEQ := Lib.hid (show blockS st i s false = some (leafNew (shutS st i) (fenceNd f)) by simp [blockS, HHD.out, HBR.out, HFD.out])
          have SHUT := Lib.hid (shut_full HHA.out i hi)
          unfold ptr at SHUT
          go_wp2_with fail
          refine SHUT.out.mono ?_
          rintro e ws ⟨rfl, hhs, hbs, hkp⟩
          have HHS := Lib.hid hhs
          have HBS := Lib.hid (HBB.out.trans hbs)
          have WFS := Lib.hid (HWF.out.shutS i)
          have SZS := Lib.hid (HSZ.out.shut i)
          have NQ := Lib.hid (show (shutS st i).nodes.length < 1000000000 from hn)
          have hfb : Blk ws w3.heap.size #[.int .u8 f.char.toNat, .int .i64 f.count, .int .i64 f.indent, .string (S f.info)] 37 := (hkp _ HNP.out).trans (Blk.new w3 _ _)
          clear hhs hbs hkp SHUT
          have hf0 := hfb.at_ 0 (.int .u8 f.char.toNat) rfl
          have hf1 := hfb.at_ 1 (.int .i64 f.count) rfl
          have hf2 := hfb.at_ 2 (.int .i64 f.indent) rfl
          have hf3 := hfb.at_ 3 (.string (S f.info)) rfl
          clear hfb
          have hsz := HHS.out.size
          obtain ⟨ad2, own2, hnew2, had2, H2⟩ := HHS.out.new WFS.out (fenceNd f) rfl rfl
          have hxq := inId_lt WFS.out HHS.out.pos (shutS st i).row.length (Nat.le_refl _)
          have hadd := add_any H2 (shutS st i).nodes.length (by rw [len_newS]; omega) (by rw [len_newS]; show inId (shutS st i) (shutS st i).row.length < _; omega) (by show inId (shutS st i) (shutS st i).row.length ≠ _; omega) (by show ((newS (shutS st i) (fenceNd f)).nd (inId (shutS st i) (shutS st i).row.length)).kids.length ≤ _; rw [nd_new, if_neg (by omega)]; have := SZS.out.kids (inId (shutS st i) (shutS st i).row.length); have := NQ.out; omega) (by have := SZS.out.row; have := NQ.out; show (shutS st i).row.length ≤ _; omega)
          rw [hnew2] at hadd
          have ADD := Lib.hid hadd
          have HAD2 := Lib.hid had2
          have HNEW2 := Lib.hid hnew2
          have HBA := Lib.hid (show Below base w _ from HBS.out.alloc hsz (.cells (ndCells (fenceNd f) (.slice none 0 0) (.slice none 0 0)) 54))
          unfold ptr at *
          clear hadd had2 hnew2 H2
          go_wp2_with fail
          refine ADD.out.mono ?_
          rintro e wb ⟨rfl, ⟨ownb, hhb⟩, hbb⟩
          obtain ⟨vb, hb2, hrb, hob⟩ := hhb.prs
          have hp2 := hb2.at_ 2 (.pointer none) rfl
          have hpf := hb2.free 2
          have HFIN := Lib.hid (hhb.setLeaf (some (shutS st i).nodes.length))
          have HE := Lib.hid (Below.setCell (HBA.out.trans hbb) (p := ⟨p, 2, none⟩) hhb.bp (ptr (ad2 (shutS st i).nodes.length)))
          clear hb2 hrb hob hhb hbb
          go_wp2
          go_ret
          refine ⟨by rw [HEQ.out]; rfl, ⟨ad2, ownb, HAD2.out, ?_⟩, ?_⟩
          · rw [HEQ.out]
            have h := HFIN.out
            unfold leafV ptr at h
            simp only [HNEW2.out] at h
            exact h
          · have h := HE.out
            unfold ptr at h
            rw [HNEW2.out] at h
            exact h
      | false =>
        have HEQ := Lib.hid (show blockS st i s fr = none by simp [blockS, HHD.out, HBR.out, HFD.out])
        go_wp2
        go_ret
        exact ⟨by rw [HEQ.out]; rfl, ⟨ad, _, fun _ _ => rfl, by rw [HEQ.out]; exact HHA.out⟩, HBB.out⟩
end Go.Proofs.YtjgaobkgmheocaaDoor
