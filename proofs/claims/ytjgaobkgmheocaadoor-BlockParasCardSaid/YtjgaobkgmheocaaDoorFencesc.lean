/- block.Fences: the walk. -/
import Derived.Test.YtjgaobkgmheocaaDoorFencesb
namespace Go.Proofs.YtjgaobkgmheocaaDoor
open Go Go.RowKit

theorem below_drewN (w : World) (n : Nat) : Below w.heap.size w (w.drewN n) := ⟨rfl, rfl, rfl, Nat.le_refl _, fun _ _ => rfl⟩
set_option maxRecDepth 100000 in
set_option maxHeartbeats 8000000 in
theorem fences_any (v : Value) (l : List UInt8) (w : World) (hv : BytesAt w v l) :
    Calls Tryd.prog 9 #[v] w fun e w' => ∃ v', e = .returned v' ∧ Row w' w.heap.size 39 8 v' (fencesL l).length (placeVals (fencesL l)) ∧ Below w.heap.size w w' := by
  have HV := Lib.hid hv
  clear hv
  go_enter Tryd.func9, Tryd.ntmps9
  go_upto_region 2 with fail
  go_cut [4] from 5 (fun q wr => q = .pointer (some ⟨w.heap.size + 1, 0, none⟩) ∧ Blk wr (w.heap.size + 1) #[ptr w.heap.size, .slice none 0 0, .pointer none, .int .i64 0] 56 ∧ Blk wr w.heap.size (ndCells Nd.zero (.slice none 0 0) (.slice none 0 0)) 54 ∧ Below w.heap.size w wr)
  case first =>
    go_wp2
    go_meet
    case rel =>
      refine ⟨rfl, ?_, (Blk.new w (ndCells Nd.zero (.slice none 0 0) (.slice none 0 0)) 54).alloc _, ((Below.refl _ _).alloc (Nat.le_refl _) _).alloc (by simp) _⟩
      have h := Blk.new (w.alloc (.cells (ndCells Nd.zero (.slice none 0 0) (.slice none 0 0)) 54)) #[ptr w.heap.size, .slice none 0 0, .pointer none, .int .i64 0] 56
      rw [World.size_alloc] at h
      exact h
  case rest =>
    obtain ⟨rfl, hp, hq, hbel⟩ := hcut
    obtain ⟨w1, rfl⟩ : ∃ x : World, x = wc := ⟨_, rfl⟩
    have HP := Lib.hid hp
    have HQ := Lib.hid hq
    have HB1 := Lib.hid hbel
    have CUT := Lib.hid (cut_any v l w1 (HV.out.below hbel))
    clear hp hq hbel
    go_wp2_with fail
    refine CUT.out.mono ?_
    rintro e w1' ⟨v1, rfl, hv1, rfl⟩
    have TX := Lib.hid (texts_any v1 (l.take 65536) w1 hv1 (by rw [List.length_take]; omega))
    clear hv1
    go_wp2_with fail
    refine TX.out.mono ?_
    rintro e w2 ⟨v2, rfl, hrow, hb2⟩
    obtain ⟨A2, c2, rfl, hc2, hm2⟩ := hrow.slice
    have hs1 := HP.out.lt
    have HROW := Lib.hid hrow
    have HB2 := Lib.hid (HB1.out.trans (hb2.mono HB1.out.size))
    have hmade := Holds.made (base := w.heap.size) (KP := KPo w2 (.slice A2 (textsL (l.take 65536)).length c2) w2 (.slice none 0 0)) (HP.out.below hb2) (HQ.out.below hb2) (by omega) (Nat.le_refl _) (by omega) (fun k o hk => by
      unfold KPo at hk
      split at hk
      · rename_i he
        have := (HROW.out.blk k he).1
        exact ⟨hk, by omega, by omega⟩
      · cases hk)
    have HMADE := Lib.hid hmade
    have FINE := Lib.hid (Fine.run (textsL (l.take 65536)) (fun s hs => by have := textsL_mem _ s hs; rw [List.length_take] at this; omega))
    have htl := textsL_length (l.take 65536)
    have hsl := splitL_len (l.take 65536)
    rw [List.length_take] at hsl
    have HN := Lib.hid (show (textsL (l.take 65536)).length ≤ 65536 by omega)
    have hn6 := HN.out
    have HLK := Lib.hid (show ∀ s, s ∈ textsL (l.take 65536) → s.length ≤ 65536 from fun s hs => by have := textsL_mem _ s hs; rw [List.length_take] at this; omega)
    have HRES := Lib.hid (show fencesL l = fencesR (textsL (l.take 65536)).length initS [] 0 (textsL (l.take 65536)) from rfl)
    have HS2 := Lib.hid (show w.heap.size ≤ w2.heap.size by have := hb2.size; omega)
    clear hrow hb2 hmade htl hsl
    generalize textsL (l.take 65536) = L at *
    have HTO := Lib.hid (show ∀ (wr : World) (o : Value) (m : Nat) (xs : List Value), Row wr w2.heap.size 39 8 o m xs → ∀ k, (Value.slice A2 L.length c2).ownBlock = some k → o.ownBlock ≠ some k from fun wr o m xs ho k hk e => by
      have h1 := (ho.blk k e).1
      have h2 := (HROW.out.blk k hk).2.1
      omega)
    go_wp2
    go_loopw [3, 18] (fun o a wr => ∃ (k : Nat) (ad : Nat → Nat) (own : Nat → Role), a = .int .i64 (k : Int) ∧ k ≤ L.length ∧ Row wr w2.heap.size 39 8 o (fencesR L.length initS [] 0 (L.take k)).length (placeVals (fencesR L.length initS [] 0 (L.take k))) ∧
        Holds (KPo w2 (.slice A2 L.length c2) wr o) wr w.heap.size (w.heap.size + 1) ad own (runS initS 0 (L.take k)) ∧ Below w.heap.size w wr ∧ w2.heap.size ≤ wr.heap.size)
      (fun _ a _ => L.length - (intOf a).toNat)
    case atStart => exact ⟨0, _, _, rfl, by omega, Row.nil _ _ _ _, HMADE.out, HB2.out, Nat.le_refl _⟩
    case round =>
      obtain ⟨k, ad, own, rfl, hk, hro, hh, hbel, hszo⟩ := hrel
      have HSZO := Lib.hid hszo
      obtain ⟨wo, rfl⟩ : ∃ x : World, x = wr := ⟨_, rfl⟩
      obtain ⟨Ao, co, rfl, hco, hmo⟩ := hro.slice
      have HH := Lib.hid hh
      have HRO := Lib.hid hro
      have HBEL := Lib.hid hbel
      have hno := fencesR_length L.length L k hk
      have HNO := Lib.hid hno
      clear hh hro hbel hszo
      by_cases hlt : k < L.length
      · obtain ⟨g, cap, hv, hg1, hg2, hcc, hcm, hce, _⟩ := (fk_texts HH.out HROW.out).at_ (by omega)
        injection hv with hA _ hC
        subst hA hC
        have hcell := hce k _ (strVals_get L k hlt)
        obtain ⟨vr, hb, _⟩ := HH.out.prs
        have hp3 := hb.at_ 3 (.int .i64 (runS initS 0 (L.take k)).line) rfl
        have hpf := hb.free 3
        have hlt' : (k : Int) < (L.length : Int) := by omega
        have HSET := Lib.hid (HH.out.setLine k)
        have HBS := Lib.hid (show Below w.heap.size w (wo.setCell ⟨w.heap.size + 1, 3, none⟩ (.int .i64 k)) from HBEL.out.setCell (by show w.heap.size ≤ w.heap.size + 1; omega) _)
        have HSN := Lib.hid (runS_snoc L k hlt)
        have HFN0 := Lib.hid (FINE.out k hk (by omega))
        have HFS := Lib.hid (fencesR_snoc L.length L k hlt)
        have HRL := Lib.hid (FINE.out (k + 1) (by omega) (by omega))
        rw [HSN.out] at HRL
        clear hce hb
        generalize fencesR L.length initS [] 0 (L.take k) = F at *
        generalize runS initS 0 (L.take k) = st0 at *
        go_upto_region 8 with fail
        have HSX := Lib.hid (show w2.heap.size ≤ (wo.setCell ⟨w.heap.size + 1, 3, none⟩ (.int .i64 k)).heap.size by simp; exact HSZO.out)
        generalize wo.setCell ⟨w.heap.size + 1, 3, none⟩ (.int .i64 k) = wx at HSET HBS HSX ⊢
        clear hp3 hpf hcell
        obtain ⟨vr1, hb1, _⟩ := HSET.out.prs
        have hp2 := hb1.at_ 2 (leafV ad st0.leaf) rfl
        clear hb1
        go_upto_region 9 with fail
        have hlk := HLK.out L[k] (List.getElem_mem _)
        have htr := textR_le L[k]
        have kc : (convert 9 23 (.string (S L[k]))).run Tryd.prog wx = _ := Lib.run_convert_string_bytes wx _ _ _ (S L[k]) Tryd.underlying9 Tryd.underlying23 Tryd.underlying5
        have hbb := bytes_below wx 5 (S L[k])
        have TXT := Lib.hid (text_any _ L[k] _ (bytes_at wx L[k] (by unfold maxLen; omega)) (by omega))
        rw [S_size] at kc
        have HH1 := Lib.hid (HSET.out.below hbb)
        have HSY := Lib.hid (Nat.le_trans HSX.out hbb.size)
        have HBS1 := Lib.hid (HBS.out.trans (hbb.mono HSET.out.size))
        have HFN := Lib.hid (HFN0.out.line k)
        clear hbb hp2
        generalize Lib.bytesWorld wx 5 (S L[k]) = wy at *
        go_wp2_with fail
        refine TXT.out.mono ?_
        rintro e wz ⟨rfl, hbz⟩
        have HBZ := Lib.hid (HBS1.out.trans (hbz.mono HH1.out.size))
        have HSZ1 := Lib.hid (Nat.le_trans HSY.out hbz.size)
        have hz4 := HFN.out.size
        have hzr := HFN.out.ok.sz.row
        have NX := Lib.hid (next_walk (HH1.out.below hbz) HFN.out.ok.wf HFN.out.ok.sz (textR L[k]) (by omega) (by omega) HFN.out.small (by omega))
        unfold ptr at NX
        clear hbz hz4 hzr kc
        go_wp2_with fail
        refine NX.out.mono ?_
        rintro e wn ⟨rfl, ⟨ad', own', had', hh'⟩, hbn⟩
        have HHN := Lib.hid hh'
        have HBN := Lib.hid (HBZ.out.trans hbn)
        have HWN := Lib.hid (Nat.le_trans HSZ1.out hbn.size)
        have hnn := next_nodes (atLine st0 k) (textR L[k])
        have HWAS := Lib.hid (show ∀ j, st0.leaf = some j → j < (nextS (atLine st0 k) (textR L[k])).nodes.length ∧ ad' j = ad j from fun j hj => by
          have h1 := HFN0.out.ok.wf.leaf j hj
          have h2 : j < (atLine st0 k).nodes.length := h1
          exact ⟨Nat.lt_of_lt_of_le h2 hnn, had' j h1⟩)
        clear hh' hbn had' hnn
        generalize nextS (atLine st0 k) (textR L[k]) = st1 at *
        have hle : leafV ad st0.leaf = leafV ad' st0.leaf := by
          cases hl : st0.leaf with
          | none => rfl
          | some j => show ptr (ad j) = ptr (ad' j); rw [(HWAS.out j hl).2]
        rw [hle]
        clear hle
        obtain ⟨vr2, hb2, hr2, _⟩ := HHN.out.prs
        obtain ⟨Ar, cr, rfl, hcr, hmr⟩ := hr2.slice
        have hp1 := hb2.at_ 1 (.slice Ar st1.row.length cr) rfl
        have hp2 := hb2.at_ 2 (leafV ad' st1.leaf) rfl
        have HROWN := Lib.hid (fk_row HHN.out HRO.out (HTO.out _ _ _ _ HRO.out))
        clear hb2 hr2
        by_cases hrow : 0 < st1.row.length
        · have hrow' : (0 : Int) < (st1.row.length : Int) := by omega
          have HSTEP := Lib.hid (show fenceStep L.length st0.leaf st1 k F = F by unfold fenceStep; rw [if_pos hrow])
          clear hrow
          go_wp2
          obtain ⟨own2, hh2⟩ := fk_same HHN.out HRO.out (HTO.out _ _ _ _ HRO.out)
          have hfs := HFS.out
          rw [HSTEP.out] at hfs
          go_roundw
          case rel => exact ⟨k + 1, ad', own2, by go_num, by omega, by rw [hfs]; exact HROWN.out, by rw [HSN.out]; exact hh2, HBN.out, HWN.out⟩
          case measure => simp [intOf]; omega
        · have hrow' : ¬ (0 : Int) < (st1.row.length : Int) := by omega
          have hrowd : decide (0 < st1.row.length) = false := decide_eq_false hrow
          have HSTEP := Lib.hid (show fenceStep L.length st0.leaf st1 k F = (if openB st0.leaf st1 then (if closeB st0.leaf st1 F then closeL k F else F) ++ [⟨k, (st1.nd (st1.leaf.getD 0)).fence, k + 1, L.length, false⟩] else (if closeB st0.leaf st1 F then closeL k F else F)) by unfold fenceStep; rw [if_neg hrow])
          clear hrow
          go_upto_region 11 with fail
          go_cut [8, 30, 78] from 42 to 78 (fun a b c wx => a = leafV ad' st0.leaf ∧ b = leafV ad' st0.leaf ∧ c = .bool (closeB st0.leaf st1 F) ∧ Below wn.heap.size wn wx)
          case first =>
            cases hw : st0.leaf with
            | none =>
              have HW := Lib.hid hw
              have HCL := Lib.hid (show closeB none st1 F = false from rfl)
              clear hw
              unfold leafV
              go_quiet (fail)
              go_wp2
              go_meet
              case rel => exact ⟨by rw [HW.out]; rfl, by rw [HW.out]; rfl, by rw [HW.out, HCL.out], below_drewN _ _⟩
            | some j =>
              obtain ⟨hj1, hj2⟩ := HWAS.out j hw
              obtain ⟨vlj, vkj, hbj, _⟩ := HHN.out.nds j hj1
              have hk0 := hbj.at_ 0 (.int .i64 (st1.nd j).kind) rfl
              have hk4 := hbj.at_ 4 (.int .i64 (st1.nd j).line) rfl
              have HW := Lib.hid hw
              clear hbj hw hj1 hj2
              unfold leafV ptr
              by_cases h7 : (st1.nd j).kind = 7
              · have hq7 : ((((st1.nd j).kind : Nat) : Int) == 7) = true := by rw [beq_iff_eq]; omega
                cases hl : st1.leaf with
                | some q =>
                  have HCL := Lib.hid (show closeB (some j) st1 F = false by unfold closeB; rw [hl]; simp)
                  rw [hl] at hp2
                  unfold leafV ptr at hp2
                  clear hl h7
                  go_quiet (fail)
                  go_wp2
                  go_meet
                  case rel => exact ⟨by rw [HW.out]; rfl, by rw [HW.out]; rfl, by rw [HW.out, HCL.out], below_drewN _ _⟩
                | none =>
                  rw [hl] at hp2
                  unfold leafV at hp2
                  by_cases hF : 0 < F.length
                  · obtain ⟨go_, capo, hvo, ho1, ho2, ho3, ho4, hoe, _⟩ := HROWN.out.at_ hF
                    injection hvo with hA _ hC
                    subst hA hC
                    have hlast : ∃ q, F.getLast? = some q ∧ F[F.length - 1]? = some q := by
                      rw [List.getLast?_eq_getElem?]
                      exact ⟨F[F.length - 1], by rw [List.getElem?_eq_getElem (by omega)], by rw [List.getElem?_eq_getElem (by omega)]⟩
                    obtain ⟨q, hq1, hq2⟩ := hlast
                    have hqc := hoe ((F.length - 1) * 8) (.int .i64 q.line) (by
                      have h1 := placeVals_get F (F.length - 1) (by omega) 0 (by omega)
                      rw [Nat.add_zero] at h1
                      rw [h1]
                      rw [List.getElem?_eq_getElem (by omega)] at hq2
                      injection hq2 with hq2
                      rw [hq2]
                      rfl)
                    have hw0 : (0 : Int) < (F.length : Int) := by omega
                    have hw1 : IntKind.i64.wrap ((F.length : Int) - 1) = (F.length : Int) - 1 := IntWalk.i64_in _ (by omega)
                    have hw2 : (1 : Int) ≤ (F.length : Int) := by omega
                    have hw3 : (0 : Int) ≤ (F.length : Int) - 1 := by omega
                    have hw4 : ((F.length : Int) - 1).toNat = F.length - 1 := by omega
                    have hw5 : (F.length : Int) - 1 < (F.length : Int) := by omega
                    have hF' := hF
                    have HCLE := Lib.hid (show closeB (some j) st1 F = (q.line == (st1.nd j).line) by unfold closeB; rw [hl, hq1]; dsimp only; rw [h7]; simp)
                    have HHL := Lib.hid hl
                    clear hoe hq1 hq2 hl h7
                    by_cases hln : q.line = (st1.nd j).line
                    · have hqb : ((q.line : Int) == ((st1.nd j).line : Int)) = true := by rw [beq_iff_eq]; omega
                      have HCL := Lib.hid (show closeB (some j) st1 F = true by rw [HCLE.out]; rw [beq_iff_eq]; exact hln)
                      clear hln
                      go_quiet (fail)
                      go_wp2
                      go_meet
                      case rel => exact ⟨by rw [HW.out]; rfl, by rw [HW.out]; rfl, by rw [HW.out, HCL.out], below_drewN _ _⟩
                    · have hqb : ((q.line : Int) == ((st1.nd j).line : Int)) = false := by rw [beq_eq_false_iff_ne]; omega
                      have HCL := Lib.hid (show closeB (some j) st1 F = false by rw [HCLE.out]; rw [beq_eq_false_iff_ne]; exact hln)
                      clear hln
                      go_quiet (fail)
                      go_wp2
                      go_meet
                      case rel => exact ⟨by rw [HW.out]; rfl, by rw [HW.out]; rfl, by rw [HW.out, HCL.out], below_drewN _ _⟩
                  · have HCL := Lib.hid (show closeB (some j) st1 F = false by
                      have : F = [] := List.eq_nil_of_length_eq_zero (by omega)
                      unfold closeB
                      rw [this, hl]
                      simp)
                    have hF' : ¬ (0 : Int) < (F.length : Int) := by omega
                    clear hl h7
                    go_quiet (fail)
                    go_wp2
                    go_meet
                    case rel => exact ⟨by rw [HW.out]; rfl, by rw [HW.out]; rfl, by rw [HW.out, HCL.out], below_drewN _ _⟩
              · have hq7 : ((((st1.nd j).kind : Nat) : Int) == 7) = false := by rw [beq_eq_false_iff_ne]; omega
                have HCL := Lib.hid (show closeB (some j) st1 F = false by
                  have h7b : ((st1.nd j).kind == 7) = false := by rw [beq_eq_false_iff_ne]; exact h7
                  unfold closeB
                  dsimp only
                  rw [h7b]
                  rfl)
                clear h7
                go_quiet (fail)
                go_wp2
                go_meet
                case rel => exact ⟨by rw [HW.out]; rfl, by rw [HW.out]; rfl, by rw [HW.out, HCL.out], below_drewN _ _⟩
          case rest =>
            obtain ⟨rfl, rfl, rfl, hbx⟩ := hcut
            obtain ⟨wc1, rfl⟩ : ∃ x : World, x = wc := ⟨_, rfl⟩
            have HHX := Lib.hid (HHN.out.below hbx)
            have HROWX := Lib.hid (HROWN.out.below hbx)
            have HBX := Lib.hid (HBN.out.trans (hbx.mono HHN.out.size))
            have HSZX := Lib.hid (Nat.le_trans HWN.out hbx.size)
            clear hp1 hp2 hbx
            go_upto_if 78 with fail
            go_cut [78] from 79 to 91 (fun _ wx => Row wx w2.heap.size 39 8 (.slice Ao F.length co) F.length (placeVals (if closeB st0.leaf st1 F then closeL k F else F)) ∧ (∃ own2, Holds (KPo w2 (.slice (some ⟨g, 0, none⟩) L.length c2) wx (.slice Ao F.length co)) wx w.heap.size (w.heap.size + 1) ad' own2 st1) ∧ Below w.heap.size w wx ∧ w2.heap.size ≤ wx.heap.size)
            case first =>
              cases hcb : closeB st0.leaf st1 F with
              | false =>
                have HCB := Lib.hid hcb
                clear hcb
                go_wp2
                go_meet
                case rel => exact ⟨by rw [HCB.out]; exact HROWX.out, fk_same HHX.out HRO.out (HTO.out _ _ _ _ HRO.out), HBX.out, HSZX.out⟩
              | true =>
                have HCB := Lib.hid hcb
                have hF : 0 < F.length := by
                  cases F with
                  | nil => unfold closeB at hcb; cases h0 : st0.leaf with
                    | none => rw [h0] at hcb; cases hcb
                    | some j => rw [h0] at hcb; simp at hcb
                  | cons a b => simp
                clear hcb
                obtain ⟨go_, capo, hvo, ho1, ho2, ho3, ho4, hoe, hof⟩ := HROWX.out.at_ hF
                injection hvo with hA _ hC
                subst hA hC
                have hgt : go_ ≥ w2.heap.size := ho1
                have hc6 := hoe ((F.length - 1) * 8 + 6) (.int .i64 F[F.length - 1].last) (by rw [placeVals_get F (F.length - 1) (by omega) 6 (by omega)]; rfl)
                have hc7 := hoe ((F.length - 1) * 8 + 7) (.bool F[F.length - 1].closed) (by rw [placeVals_get F (F.length - 1) (by omega) 7 (by omega)]; rfl)
                have hw1 : IntKind.i64.wrap ((F.length : Int) - 1) = (F.length : Int) - 1 := IntWalk.i64_in _ (by omega)
                have hw2 : (1 : Int) ≤ (F.length : Int) := by omega
                have hw3 : (0 : Int) ≤ (F.length : Int) - 1 := by omega
                have hw4 : ((F.length : Int) - 1).toNat = F.length - 1 := by omega
                have hw5 : (F.length : Int) - 1 < (F.length : Int) := by omega
                have HPUT := Lib.hid ((HROWX.out.put ((F.length - 1) * 8 + 6) (.int .i64 k)).put ((F.length - 1) * 8 + 7) (.bool true))
                have HTURN := Lib.hid (fk_turn (w' := (wc1.setCell ⟨go_, (F.length - 1) * 8 + 6, none⟩ (.int .i64 k)).setCell ⟨go_, (F.length - 1) * 8 + 7, none⟩ (.bool true)) (o' := .slice (some ⟨go_, 0, none⟩) F.length co) HHX.out HRO.out (HTO.out _ _ _ _ HRO.out) (fun j hj hne => by
                  have e1 : j ≠ go_ := fun e => hne (by rw [e]; rfl)
                  exact (Below.heap_setCell _ _ _ _ e1).trans (Below.heap_setCell _ _ _ _ e1)) (.inl rfl))
                have hbg : w.heap.size ≤ go_ := Nat.le_trans HS2.out ho1
                have HBP := Lib.hid (show Below w.heap.size w ((wc1.setCell ⟨go_, (F.length - 1) * 8 + 6, none⟩ (.int .i64 k)).setCell ⟨go_, (F.length - 1) * 8 + 7, none⟩ (.bool true)) from (HBX.out.setCell hbg _).setCell hbg _)
                have HCV := Lib.hid (closeL_vals k F hF)
                clear hoe
                go_wp2
                go_meet
                case rel => exact ⟨by rw [HCB.out, if_pos rfl, HCV.out]; exact HPUT.out, HTURN.out, HBP.out, by simp; exact HSZX.out⟩
            case rest =>
              obtain ⟨hrx, ⟨own2, hhx⟩, hbx, hszx⟩ := hcut
              obtain ⟨wc2, rfl⟩ : ∃ x : World, x = wc := ⟨_, rfl⟩
              have HLN1 := Lib.hid (show (if closeB st0.leaf st1 F = true then closeL k F else F).length = F.length by split; exact closeL_length _ _; rfl)
              generalize (if closeB st0.leaf st1 F = true then closeL k F else F) = F1 at *
              have HRX := Lib.hid hrx
              have HH2 := Lib.hid hhx
              have HB2X := Lib.hid hbx
              have HSZ2 := Lib.hid hszx
              obtain ⟨vr3, hb3, _⟩ := hhx.prs
              have hp2 := hb3.at_ 2 (leafV ad' st1.leaf) rfl
              clear hrx hhx hbx hb3 hszx
              go_upto_region 13 with fail
              go_cut [8, 30, 115] from 92 to 115 (fun a b c wx => a = leafV ad' st0.leaf ∧ b = leafV ad' st0.leaf ∧ c = .bool (openB st0.leaf st1) ∧ wc2 = wx)
              case first =>
                cases hl : st1.leaf with
                | none =>
                  have HOB := Lib.hid (show openB st0.leaf st1 = false by unfold openB; rw [hl])
                  rw [hl] at hp2
                  unfold leafV at hp2
                  clear hl
                  go_wp2
                  go_meet
                  case rel => exact ⟨rfl, rfl, by rw [HOB.out], rfl⟩
                | some q =>
                  have hq1 := HRL.out.ok.wf.leaf q hl
                  obtain ⟨vlq, vkq, hbq, _⟩ := HH2.out.nds q hq1
                  have hk0 := hbq.at_ 0 (.int .i64 (st1.nd q).kind) rfl
                  rw [hl] at hp2
                  unfold leafV ptr at hp2
                  by_cases hwq : st0.leaf = some q
                  · have HOB := Lib.hid (show openB st0.leaf st1 = false by unfold openB; rw [hl]; dsimp only; rw [decide_eq_false (fun h => h hwq)]; rfl)
                    have HWQ := Lib.hid hwq
                    have hnq := node_same wc2 (ad' q)
                    rw [hwq]
                    unfold leafV ptr
                    clear hl hwq hbq
                    go_wp2
                    go_meet
                    case rel => exact ⟨by rw [HWQ.out]; rfl, by rw [HWQ.out]; rfl, by rw [HOB.out], rfl⟩
                  · have hnp : ∀ j, st0.leaf = some j → ¬ ad' q = ad' j := fun j hj => HH2.out.inj hq1 (HWAS.out j hj).1 (fun e => hwq (by rw [hj, e]))
                    by_cases h7 : (st1.nd q).kind = 7
                    · have hq7 : ((((st1.nd q).kind : Nat) : Int) == 7) = true := by rw [beq_iff_eq]; omega
                      have HOB := Lib.hid (show openB st0.leaf st1 = true by unfold openB; rw [hl]; dsimp only; rw [decide_eq_true hwq, h7]; rfl)
                      cases hw : st0.leaf with
                      | none =>
                        have HW := Lib.hid hw
                        unfold leafV
                        clear hl hwq hbq hnp h7 hw
                        go_wp2
                        go_meet
                        case rel => exact ⟨by rw [HW.out]; rfl, by rw [HW.out]; rfl, by rw [HOB.out], rfl⟩
                      | some j =>
                        have HW := Lib.hid hw
                        have hne := hnp j hw
                        obtain ⟨vlj, vkj, hbj, _⟩ := HH2.out.nds j (HWAS.out j hw).1
                        have hnq := node_neq hbq hbj hne
                        clear hbj hne
                        unfold leafV ptr
                        clear hl hwq hbq hnp h7 hw
                        go_wp2
                        go_meet
                        case rel => exact ⟨by rw [HW.out]; rfl, by rw [HW.out]; rfl, by rw [HOB.out], rfl⟩
                    · have hq7 : ((((st1.nd q).kind : Nat) : Int) == 7) = false := by rw [beq_eq_false_iff_ne]; omega
                      have HOB := Lib.hid (show openB st0.leaf st1 = false by
                        have h7b : ((st1.nd q).kind == 7) = false := by rw [beq_eq_false_iff_ne]; exact h7
                        unfold openB
                        rw [hl]
                        dsimp only
                        rw [h7b, Bool.and_false])
                      cases hw : st0.leaf with
                      | none =>
                        have HW := Lib.hid hw
                        unfold leafV
                        clear hl hwq hbq hnp h7 hw
                        go_wp2
                        go_meet
                        case rel => exact ⟨by rw [HW.out]; rfl, by rw [HW.out]; rfl, by rw [HOB.out], rfl⟩
                      | some j =>
                        have HW := Lib.hid hw
                        have hne := hnp j hw
                        obtain ⟨vlj, vkj, hbj, _⟩ := HH2.out.nds j (HWAS.out j hw).1
                        have hnq := node_neq hbq hbj hne
                        clear hbj hne
                        unfold leafV ptr
                        clear hl hwq hbq hnp h7 hw
                        go_wp2
                        go_meet
                        case rel => exact ⟨by rw [HW.out]; rfl, by rw [HW.out]; rfl, by rw [HOB.out], rfl⟩
              case rest =>
                obtain ⟨rfl, rfl, rfl, rfl⟩ := hcut
                cases hob : openB st0.leaf st1 with
                | false =>
                  have hfs := HFS.out
                  rw [HSTEP.out, hob] at hfs
                  have HFS2 := Lib.hid hfs
                  clear hob hfs
                  go_wp2
                  go_roundw
                  case rel => exact ⟨k + 1, ad', own2, by go_num, by omega, by rw [HFS2.out]; rw [if_neg (by nofun), HLN1.out]; exact HRX.out, by rw [HSN.out]; exact HH2.out, HB2X.out, HSZ2.out⟩
                  case measure => simp [intOf]; omega
                | true =>
                  obtain ⟨q, hq⟩ : ∃ q, st1.leaf = some q := by
                    unfold openB at hob
                    cases h : st1.leaf with
                    | none => rw [h] at hob; cases hob
                    | some q => exact ⟨q, rfl⟩
                  have hfs := HFS.out
                  rw [HSTEP.out, hob, if_pos rfl, hq] at hfs
                  have HFS2 := Lib.hid hfs
                  have hq1 := HRL.out.ok.wf.leaf q hq
                  obtain ⟨vlq, vkq, hbq, _⟩ := HH2.out.nds q hq1
                  have hq10 := hbq.at_ 10 (.int .u8 (st1.nd q).fence.char.toNat) rfl
                  have hq11 := hbq.at_ 11 (.int .i64 (st1.nd q).fence.count) rfl
                  have hq12 := hbq.at_ 12 (.int .i64 (st1.nd q).fence.indent) rfl
                  have hq13 := hbq.at_ 13 (.string (S (st1.nd q).fence.info)) rfl
                  rw [hq] at hp2
                  unfold leafV ptr at hp2
                  have hsz2 := HSZ2.out
                  have hi1 : IntKind.i64.wrap ((k : Int) + 1) = (k : Int) + 1 := IntWalk.i64_in _ (by omega)
                  have HCAP := Lib.hid (show (F.length + 1) * 72 ≤ 140737488355328 by have := HNO.out; omega)
                  clear hob hfs hq hbq
                  go_wp2_with (at_builtin; refine app_one wc2 rfl (.tmp 116) (.tmp 130) 34 rfl w2.heap.size 39 _ 8 72 Tryd.underlying34 infoPlace rfl (by omega) (by omega) (.slice Ao F.length co) F.length (placeVals F1) #[.int .i64 (k : Int), .int .u8 (st1.nd q).fence.char.toNat, .int .i64 (st1.nd q).fence.count, .int .i64 (st1.nd q).fence.indent, .string (S (st1.nd q).fence.info), .int .i64 ((k : Int) + 1), .int .i64 (L.length : Int), .bool false] rfl rfl rfl (by simp [Value.oneCell']) HRX.out hsz2 HCAP.out ?_; intro v5 w5 hrow5 hg5 hat5; have HROW5 := Lib.hid hrow5; have HG5 := Lib.hid hg5; have HAT5 := Lib.hid hat5; clear hrow5 hg5 hat5)
                  obtain ⟨own3, hh3⟩ := fk_turn (w' := w5) (o' := v5) HH2.out HRX.out (HTO.out _ _ _ _ HRX.out) (fun j hj hne => HG5.out.block j hj (fun e => hne e.symm)) HAT5.out
                  go_roundw
                  case rel =>
                    refine ⟨k + 1, ad', own3, by go_num, by omega, ?_, by rw [HSN.out]; exact hh3, HB2X.out.grown HG5.out HH2.out.size (fun j hj => Nat.le_trans HS2.out (HRX.out.blk j hj).1), Nat.le_trans HSZ2.out HG5.out.size⟩
                    rw [HFS2.out, List.length_append, HLN1.out, placeVals_append]
                    exact HROW5.out
                  case measure => simp [intOf]; omega
      · have hge : ¬ (k : Int) < (L.length : Int) := by omega
        have HF := Lib.hid (show fencesR L.length initS [] 0 (L.take k) = fencesL l by rw [HRES.out, List.take_of_length_le (by omega)])
        have HCO := Lib.hid hco
        have HMO := Lib.hid hmo
        have hmo' := hmo
        unfold maxLen at hmo'
        clear hmo hno
        generalize fencesR L.length initS [] 0 (L.take k) = F at *
        go_wp2_with (go_at_call 19; refine (clip_places _ _ _ _ HCO.out HMO.out).mono ?_; rintro e w' ⟨rfl, rfl⟩)
        go_ret
        have hr := HRO.out.clip rfl
        rw [← HF.out]
        exact ⟨_, rfl, hr.lower HS2.out, HBEL.out⟩
end Go.Proofs.YtjgaobkgmheocaaDoor
