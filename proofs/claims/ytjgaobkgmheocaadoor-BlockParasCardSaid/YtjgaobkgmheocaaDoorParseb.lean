/- block.Parse: the walk. -/
import Derived.Test.YtjgaobkgmheocaaDoorParse
namespace Go.Proofs.YtjgaobkgmheocaaDoor
open Go Go.RowKit

set_option maxRecDepth 100000 in
set_option maxHeartbeats 4000000 in
theorem parse_any (v : Value) (l : List UInt8) (w : World) (hv : BytesAt w v l) :
    Calls Tryd.prog 7 #[v] w fun e w' => ∃ cs, e = .returned (.agg cs) ∧ TreeAt w' (fun k => w.heap.size ≤ k) (parseT l) cs ∧ Below w.heap.size w w' := by
  have HV := Lib.hid hv
  clear hv
  go_enter Tryd.func7, Tryd.ntmps7
  go_upto_region 1 with fail
  go_cut [3] from 4 (fun q wr => q = .pointer (some ⟨w.heap.size + 2, 0, none⟩) ∧ Blk wr (w.heap.size + 2) #[ptr (w.heap.size + 1), .slice none 0 0, .pointer none, .int .i64 0] 56 ∧ Blk wr (w.heap.size + 1) (ndCells Nd.zero (.slice none 0 0) (.slice none 0 0)) 54 ∧ Blk wr w.heap.size zeroBlk 31 ∧ Below w.heap.size w wr)
  case first =>
    go_wp2
    go_meet
    case rel =>
      refine ⟨rfl, ?_, ?_, (Blk.new w zeroBlk 31).alloc _ |>.alloc _, (((Below.refl _ _).alloc (Nat.le_refl _) _).alloc (by simp) _).alloc (by simp; omega) _⟩
      · have h := Blk.new ((w.alloc (.cells zeroBlk 31)).alloc (.cells (ndCells Nd.zero (.slice none 0 0) (.slice none 0 0)) 54)) #[ptr (w.heap.size + 1), .slice none 0 0, .pointer none, .int .i64 0] 56
        rw [World.size_alloc, World.size_alloc] at h
        exact h
      · have h := (Blk.new (w.alloc (.cells zeroBlk 31)) (ndCells Nd.zero (.slice none 0 0) (.slice none 0 0)) 54).alloc (.cells #[ptr (w.heap.size + 1), .slice none 0 0, .pointer none, .int .i64 0] 56)
        rw [World.size_alloc] at h
        exact h
  case rest =>
    obtain ⟨rfl, hp, hq, hz, hbel⟩ := hcut
    obtain ⟨w1, rfl⟩ : ∃ x : World, x = wc := ⟨_, rfl⟩
    have HP := Lib.hid hp
    have HQ := Lib.hid hq
    have HZ := Lib.hid hz
    have HB1 := Lib.hid hbel
    have CUT := Lib.hid (cut_any v l w1 (HV.out.below hbel))
    clear hp hq hz hbel
    go_wp2_with fail
    refine CUT.out.mono ?_
    rintro e w1' ⟨v1, rfl, hv1, rfl⟩
    have TX := Lib.hid (texts_any v1 (l.take 65536) w1 hv1 (by rw [List.length_take]; omega))
    clear hv1
    go_wp2_with fail
    refine TX.out.mono ?_
    rintro e w2 ⟨v2, rfl, hrow, hb2⟩
    obtain ⟨A2, c2, rfl, hc2, hm2⟩ := hrow.slice
    have hs1 := HP.out.lt
    have HROW := Lib.hid hrow
    have HS2 := Lib.hid hb2.size
    have HB2 := Lib.hid (HB1.out.trans (hb2.mono HB1.out.size))
    have HZ2 := Lib.hid (HZ.out.below hb2)
    obtain ⟨KP, hKP⟩ : ∃ KP : Nat → Option Obj, KP = fun k => if (Value.slice A2 (textsL (l.take 65536)).length c2).ownBlock = some k then w2.heap[k]? else none := ⟨_, rfl⟩
    have HKP := Lib.hid (show ∀ k, (Value.slice A2 (textsL (l.take 65536)).length c2).ownBlock = some k → KP k = w2.heap[k]? from fun k hk => by rw [hKP]; exact if_pos hk)
    have hmade := Holds.made (base := w.heap.size + 1) (KP := KP) (HP.out.below hb2) (HQ.out.below hb2) (by omega) (Nat.le_refl _) (by omega) (fun k o hk => by
      rw [hKP] at hk
      dsimp only at hk
      split at hk
      · rename_i he
        have := (HROW.out.blk k he).1
        exact ⟨hk, by omega, by omega⟩
      · cases hk)
    have HMADE := Lib.hid hmade
    have FINE := Lib.hid (Fine.run (textsL (l.take 65536)) (fun s hs => by have := textsL_mem _ s hs; rw [List.length_take] at this; omega))
    have htl := textsL_length (l.take 65536)
    have hsl := splitL_len (l.take 65536)
    rw [List.length_take] at hsl
    have HN := Lib.hid (show (textsL (l.take 65536)).length ≤ 65536 by omega)
    have hn6 := HN.out
    have HLK := Lib.hid (show ∀ s, s ∈ textsL (l.take 65536) → s.length ≤ 65536 from fun s hs => by have := textsL_mem _ s hs; rw [List.length_take] at this; omega)
    clear hrow hb2 hKP hmade htl hsl
    have HRES := Lib.hid (show parseS l = runS initS 0 (textsL (l.take 65536)) from rfl)
    generalize textsL (l.take 65536) = L at *
    go_wp2
    go_loopw [14] (fun a wr => ∃ (k : Nat) (ad : Nat → Nat) (own : Nat → Role), a = .int .i64 (k : Int) ∧ k ≤ L.length ∧ Holds KP wr (w.heap.size + 1) (w.heap.size + 2) ad own (runS initS 0 (L.take k)) ∧ ad 0 = w.heap.size + 1 ∧ Below (w.heap.size + 1) w2 wr)
      (fun a _ => L.length - (intOf a).toNat)
    case atStart => exact ⟨0, _, _, rfl, by omega, HMADE.out, rfl, Below.refl _ _⟩
    case round =>
      obtain ⟨k, ad, own, rfl, hk, hh, had, hbel⟩ := hrel
      obtain ⟨wo, rfl⟩ : ∃ x : World, x = wr := ⟨_, rfl⟩
      have HH := Lib.hid hh
      have HAD := Lib.hid had
      have HBEL := Lib.hid hbel
      clear hh had hbel
      by_cases hlt : k < L.length
      · obtain ⟨g, cap, hv, hg1, hg2, hcc, hcm, hce, _⟩ := (HH.out.row HROW.out HKP.out).at_ (by omega)
        injection hv with hA _ hC
        subst hA hC
        have hcell := hce k _ (strVals_get L k hlt)
        obtain ⟨vr, hb, _⟩ := HH.out.prs
        have hp3 := hb.at_ 3 (.int .i64 (runS initS 0 (L.take k)).line) rfl
        have hpf := hb.free 3
        have hlt' : (k : Int) < (L.length : Int) := by omega
        have HSET := Lib.hid (HH.out.setLine k)
        have HBS := Lib.hid (show Below (w.heap.size + 1) w2 (wo.setCell ⟨w.heap.size + 2, 3, none⟩ (.int .i64 k)) from HBEL.out.setCell (by show w.heap.size + 1 ≤ w.heap.size + 2; omega) _)
        clear hce hb
        go_upto_region 6 with fail
        generalize wo.setCell ⟨w.heap.size + 2, 3, none⟩ (.int .i64 k) = wx at HSET HBS ⊢
        clear hp3 hpf hcell
        have hmem := FINE.out k hk (by omega)
        have hsn := runS_snoc L k hlt
        have hlk := HLK.out L[k] (List.getElem_mem _)
        have htr := textR_le L[k]
        have HSN := Lib.hid hsn
        have kc : (convert 9 23 (.string (S L[k]))).run Tryd.prog wx = _ := Lib.run_convert_string_bytes wx _ _ _ (S L[k]) Tryd.underlying9 Tryd.underlying23 Tryd.underlying5
        have hbb := bytes_below wx 5 (S L[k])
        have TXT := Lib.hid (text_any _ L[k] _ (bytes_at wx L[k] (by unfold maxLen; omega)) (by omega))
        rw [S_size] at kc
        have hH1 := HSET.out.below hbb
        have HH1 := Lib.hid hH1
        have HBS1 := Lib.hid (HBS.out.trans (hbb.mono HSET.out.size))
        have HFN := Lib.hid (hmem.line k)
        clear hsn hbb hH1 hmem
        generalize Lib.bytesWorld wx 5 (S L[k]) = wy at *
        go_wp2_with fail
        refine TXT.out.mono ?_
        rintro e wz ⟨rfl, hbz⟩
        have HBZ := Lib.hid (HBS1.out.trans (hbz.mono HH1.out.size))
        have hz4 := HFN.out.size
        have hzr := HFN.out.ok.sz.row
        have NX := Lib.hid (next_walk (HH1.out.below hbz) HFN.out.ok.wf HFN.out.ok.sz (textR L[k]) (by omega) (by omega) HFN.out.small (by omega))
        unfold ptr at NX
        clear hbz hz4 hzr kc
        go_wp2_with fail
        refine NX.out.mono ?_
        rintro e wn ⟨rfl, ⟨ad', own', had', hh'⟩, hbn⟩
        have HH' := Lib.hid hh'
        have HB' := Lib.hid (HBZ.out.trans hbn)
        have HAD' := Lib.hid ((had' 0 HFN.out.ok.pos).trans HAD.out)
        clear hh' hbn had'
        go_wp2
        go_roundw
        case rel => exact ⟨k + 1, ad', own', by go_num, by omega, by rw [HSN.out]; exact HH'.out, HAD'.out, HB'.out⟩
        case measure => simp [intOf]; omega
      · obtain rfl : k = L.length := by omega
        have hge : ¬ ((L.length : Nat) : Int) < (L.length : Int) := by omega
        have hh := HH.out
        rw [List.take_length, ← HRES.out] at hh
        have hfin := FINE.out L.length (Nat.le_refl _) HN.out
        rw [List.take_length, ← HRES.out] at hfin
        obtain ⟨vr, hb, _⟩ := hh.prs
        rw [HAD.out] at hb
        have hp0 := hb.at_ 0 (.pointer (some ⟨w.heap.size + 1, 0, none⟩)) rfl
        have hd : Calls Tryd.prog 18 #[ptr (ad 0)] wo fun e w' => ∃ cs, e = .returned (.agg cs) ∧ TreeAt w' (fun k => wo.heap.size ≤ k) (parseT l) cs ∧ Below wo.heap.size wo w' := done_any (parseS l).nodes.length wo (w.heap.size + 1) (w.heap.size + 2) ad own KP (parseS l) hh hfin.ok.wf (fun i => (hfin.texts HN.out i).1) (fun i => (hfin.texts HN.out i).2.1) (fun i => (hfin.texts HN.out i).2.2) 0 hfin.ok.pos (by omega)
        rw [HAD.out] at hd
        unfold ptr at hd
        have DN := Lib.hid hd
        have HZW := Lib.hid (show Blk wo w.heap.size zeroBlk 31 from (HBEL.out.block _ (by omega)).trans HZ2.out)
        have HBW := Lib.hid (show Below w.heap.size w wo from HB2.out.trans (HBEL.out.mono (by omega)))
        clear hb hh hfin hd
        go_wp2_with fail
        refine DN.out.mono ?_
        rintro e wn ⟨cs, rfl, htree, hbn⟩
        obtain ⟨At, nt, rfl, ht1, ht2⟩ := htree.form
        have HT := Lib.hid htree
        have HZN := Lib.hid (HZW.out.below hbn)
        have HBN := Lib.hid (HBW.out.trans (hbn.mono (by have := HZW.out.lt; omega)))
        have hz0 := HZN.out.at_ 0 (.int .i64 0) rfl
        have hz1 := HZN.out.at_ 1 (.int .i64 0) rfl
        have hz2 := HZN.out.at_ 2 (.string ⟨#[]⟩) rfl
        have hz3 := HZN.out.at_ 3 (.string ⟨#[]⟩) rfl
        have hz4 := HZN.out.at_ 4 (.int .i64 0) rfl
        have hz5 := HZN.out.at_ 5 (.slice none 0 0) rfl
        have hzf := HZN.out.free
        have HSZ := Lib.hid (show w.heap.size < wo.heap.size from HZW.out.lt)
        clear htree hbn hp0
        unfold blkCells
        go_wp2
        have hB : Blk _ w.heap.size _ 31 := ((((((HZN.out.set 0 (.int .i64 (parseT l).kind)).set 1 (.int .i64 (parseT l).level)).set 2 (.string (S (parseT l).text))).set 3 (.string (S (parseT l).info))).set 4 (.int .i64 (parseT l).line)).set 5 (.slice At (parseT l).kids.length nt))
        have hm6 : ∀ k, w.heap.size < k → ((((((wn.setCell ⟨w.heap.size, 0, none⟩ (.int .i64 (parseT l).kind)).setCell ⟨w.heap.size, 1, none⟩ (.int .i64 (parseT l).level)).setCell ⟨w.heap.size, 2, none⟩ (.string (S (parseT l).text))).setCell ⟨w.heap.size, 3, none⟩ (.string (S (parseT l).info))).setCell ⟨w.heap.size, 4, none⟩ (.int .i64 (parseT l).line)).setCell ⟨w.heap.size, 5, none⟩ (.slice At (parseT l).kids.length nt)).heap[k]? = wn.heap[k]? := by
          intro k hk
          have e1 : k ≠ w.heap.size := by omega
          exact (Below.heap_setCell _ _ _ _ e1).trans ((Below.heap_setCell _ _ _ _ e1).trans ((Below.heap_setCell _ _ _ _ e1).trans ((Below.heap_setCell _ _ _ _ e1).trans ((Below.heap_setCell _ _ _ _ e1).trans (Below.heap_setCell _ _ _ _ e1)))))
        have h1 : w.heap.size ≤ w.heap.size := Nat.le_refl _
        exact ret_cell Tryd.results7 hB rfl Tryd.underlying31 rfl (by kernel_rfl) rfl ⟨_, rfl, HT.out.move fun k hk _ => ⟨hm6 k (Nat.lt_of_lt_of_le HSZ.out hk), Nat.le_trans (Nat.le_of_lt HSZ.out) hk⟩, ((((((HBN.out.setCell h1 _).setCell h1 _).setCell h1 _).setCell h1 _).setCell h1 _).setCell h1 _)⟩
end Go.Proofs.YtjgaobkgmheocaaDoor
