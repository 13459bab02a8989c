/- block.parser.begins: the walk. -/
import Derived.Test.YtjgaobkgmheocaaDoorBegin
namespace Go.Proofs.YtjgaobkgmheocaaDoor
open Go Go.RowKit

theorem quote_val (l : List UInt8) (w : World) (hl : l.length ≤ 140737488355328) :
    Calls Tryd.prog 38 #[.string (S l)] w fun e w' => ∃ (t : List UInt8) (b : Bool), quote l = (if b then some t else none) ∧ e = .returned (.tuple #[.string (S t), .bool b]) ∧ Below w.heap.size w w' := by
  refine (quote_any l w hl).mono ?_
  rintro e w' ⟨rfl, h⟩
  cases hq : quote l with
  | none => exact ⟨[], false, rfl, rfl, h⟩
  | some t => exact ⟨t, true, rfl, rfl, h⟩
set_option maxRecDepth 100000 in
set_option maxHeartbeats 4000000 in
theorem begins_walk {w : World} {base p : Nat} {ad : Nat → Nat} {own : Nat → Role} {KP : Nat → Option Obj} {st : PS} (H : Holds KP w base p ad own st) (wf : Wf st) (sz : Sz st) (i : Nat) (hi : i ≤ st.row.length) (l : List UInt8)
    (hl : l.length ≤ 140737488000000) (hn : st.nodes.length + 100 ≤ 1000000000) (hi40 : i ≤ 1000000000) :
    Calls Tryd.prog 27 #[ptr p, .int .i64 i, .string (S l)] w fun e w' => ∃ st' l' fr, beginsF i (40 - i) st l false = (st', l', fr) ∧ e = .returned (.tuple #[.string (S l'), .bool fr]) ∧
      (∃ ad' own', (∀ i, i < st.nodes.length → ad' i = ad i) ∧ Holds KP w' base p ad' own' st') ∧ Wf st' ∧ Sz st' ∧ st'.nodes.length ≤ st.nodes.length + 80 ∧ l'.length ≤ l.length + 120 ∧ Below base w w' := by
  have HH := Lib.hid H
  have HWF := Lib.hid wf
  have HSZ := Lib.hid sz
  clear H wf sz
  unfold ptr
  go_enter Tryd.func27, Tryd.ntmps27
  go_wp2
  go_loopw [2, 8, 9] (fun a f o wr => ∃ (m : Nat) (l1 : List UInt8) (fr : Bool) (st1 : PS) (ad1 : Nat → Nat) (own1 : Nat → Role), a = .string (S l1) ∧ f = .bool fr ∧ o = .int .i64 (m : Int) ∧ i ≤ m ∧
      beginsF i (40 - m) st1 l1 fr = beginsF i (40 - i) st l false ∧ (∀ i, i < st.nodes.length → ad1 i = ad i) ∧ Holds KP wr base p ad1 own1 st1 ∧ Wf st1 ∧ Sz st1 ∧ Below base w wr ∧
      (fr = false → i ≤ st1.row.length) ∧ st1.nodes.length ≤ st.nodes.length + 2 * (m - i) ∧ st.nodes.length ≤ st1.nodes.length ∧ l1.length ≤ l.length + 3 * (m - i) ∧ m ≤ max i 40)
    (fun _ _ o _ => 40 - (intOf o).toNat)
  case atStart => exact ⟨i, l, false, st, ad, own, rfl, rfl, rfl, Nat.le_refl _, rfl, fun _ _ => rfl, HH.out, HWF.out, HSZ.out, Below.refl _ _, fun _ => hi, by omega, Nat.le_refl _, by omega, by omega⟩
  case round =>
    obtain ⟨m, l1, fr, st1, ad1, own1, rfl, rfl, rfl, him, hbeg, had, H1, wf1, sz1, hbel, hrow, hnodes, hge, hlen, hm40⟩ := hrel
    by_cases hlt : m < 40
    · have hlt' : (m : Int) < 40 := by omega
      have hs1 := hbel.size
      have HHO := Lib.hid H1
      have HBEG := Lib.hid hbeg
      have HGE := Lib.hid hge
      have HAD := Lib.hid had
      have HWF1 := Lib.hid wf1
      have HSZ1 := Lib.hid sz1
      have HBEL := Lib.hid hbel
      have QT := Lib.hid (quote_val l1 wr (by omega))
      obtain ⟨wo, rfl⟩ : ∃ wo : World, wo = wr := ⟨_, rfl⟩
      clear H1 hbeg had wf1 sz1 hbel
      go_wp2_with fail
      refine QT.out.mono ?_
      rintro e wk ⟨t, b, hqb, rfl, hbq⟩
      have HQ := Lib.hid hqb
      have Hq := HHO.out.below hbq
      have Bq := HBEL.out.trans (hbq.mono (by have := HHO.out.size; omega))
      have HHK := Lib.hid Hq
      have HBK := Lib.hid Bq
      clear hqb hbq Hq Bq
      cases b with
      | true =>
        cases fr with
        | true =>
          go_wp2_with fail
          obtain ⟨wq, rfl⟩ : ∃ x : World, x = wk := ⟨_, rfl⟩
          have HHQ := HHK
          have HBQ := HBK
          obtain ⟨stq, hstq⟩ : ∃ s, s = st1 := ⟨_, rfl⟩
          rw [← hstq] at HHQ HWF1 HSZ1 hnodes HGE
          have WFQ := HWF1
          have SZQ := HSZ1
          have hnq : st.nodes.length ≤ stq.nodes.length := HGE.out
          have NQ := Lib.hid (show stq.nodes.length < 1000000000 by omega)
          have HTL := Lib.hid (quote_len (l := l1) (r := t) HQ.out)
          have HSTEP := Lib.hid (show beginsF i (40 - m) st1 l1 true = beginsF i (40 - (m + 1)) (pushS stq quoteNd) t true by rw [show 40 - m = (40 - (m + 1)) + 1 by omega, beginsF, HQ.out, hstq]; rfl)
          clear hstq
          have hxq := inId_lt WFQ.out HHQ.out.pos stq.row.length (Nat.le_refl _)
          obtain ⟨ad2, own2, hnew2, had2, H2⟩ := HHQ.out.new WFQ.out quoteNd rfl rfl
          obtain ⟨vrq, hbq, hrq, hoq⟩ := HHQ.out.prs
          obtain ⟨Aq, cq, rfl, hcq, hmq⟩ := hrq.slice
          have hp1 := hbq.at_ 1 (.slice Aq stq.row.length cq) rfl
          have LTP := Lib.hid hbq.lt
          have hadd := add_full H2.drew stq.nodes.length (by rw [len_newS]; omega) (by rw [len_newS]; show inId stq stq.row.length < _; omega) (by show inId stq stq.row.length ≠ _; omega) (by show ((newS stq quoteNd).nd (inId stq stq.row.length)).kids.length ≤ _; rw [nd_new, if_neg (by omega)]; have := SZQ.out.kids (inId stq stq.row.length); have := NQ.out; omega) (by have := SZQ.out.row; have := NQ.out; show stq.row.length ≤ _; omega)
          rw [hnew2] at hadd
          have ADD := Lib.hid hadd
          have HAD2 := Lib.hid had2
          have HNEW2 := Lib.hid hnew2
          have WFP := Lib.hid (WFQ.out.push quoteNd rfl hxq)
          have SZP := Lib.hid (SZQ.out.push quoteNd rfl hxq)
          unfold ptr at *
          clear hbq hrq hoq hadd had2 hnew2 H2
          refine wpT_start 14 (fun w' : World => w'.cell? ⟨p, 1, none⟩ = some (.slice Aq stq.row.length cq)) (by kernel_rfl) 15 rfl #[false, false, false, false, false, false, false, false, false, false, false, false, false, false, false] rfl ?_
          have hS0 : (fun w' : World => w'.cell? ⟨p, 1, none⟩ = some (.slice Aq stq.row.length cq)) (World.drew _) := (hp1 : (World.drew wq).cell? _ = _)
          refine' wpT_take 0 (v := _) rfl (by kernel_rfl) (by kernel_rfl) (by kernel_rfl) (fun _ _ _ h => h) (by rfl) ?_ (by assumption) #[true, false, false, false, false, false, false, false, false, false, false, false, false, false, false] rfl ?_
          rotate_left
          · (intro w hSw; (try dsimp only at hSw); go_simp; first | done | (with_reducible rfl))
          (try simp only [Act.put, List.setIfInBounds_toArray, List.set_cons_zero, List.set_cons_succ])
          refine' wpT_take 1 (v := _) rfl (by kernel_rfl) (by kernel_rfl) (by kernel_rfl) (fun _ _ _ h => h) (by rfl) ?_ (by assumption) #[true, true, false, false, false, false, false, false, false, false, false, false, false, false, false] rfl ?_
          rotate_left
          · (intro w hSw; (try dsimp only at hSw); go_simp; first | done | (with_reducible rfl))
          (try simp only [Act.put, List.setIfInBounds_toArray, List.set_cons_zero, List.set_cons_succ])
          refine' wpT_take 2 (v := _) rfl (by kernel_rfl) (by kernel_rfl) (by kernel_rfl) (fun _ _ _ h => h) (by rfl) ?_ (by assumption) #[true, true, true, false, false, false, false, false, false, false, false, false, false, false, false] rfl ?_
          rotate_left
          · (intro w hSw; (try dsimp only at hSw); go_simp; first | done | (with_reducible rfl))
          (try simp only [Act.put, List.setIfInBounds_toArray, List.set_cons_zero, List.set_cons_succ])
          refine' wpT_take 3 (v := _) rfl (by kernel_rfl) (by kernel_rfl) (by kernel_rfl) (fun _ _ _ h => h) (by rfl) ?_ (by assumption) #[true, true, true, true, false, false, false, false, false, false, false, false, false, false, false] rfl ?_
          rotate_left
          · (intro w hSw; (try dsimp only at hSw); go_simp; first | done | (with_reducible rfl))
          (try simp only [Act.put, List.setIfInBounds_toArray, List.set_cons_zero, List.set_cons_succ])
          refine' wpT_take 4 (v := _) rfl (by kernel_rfl) (by kernel_rfl) (by kernel_rfl) (fun _ _ _ h => h) (by rfl) ?_ (by assumption) #[true, true, true, true, true, false, false, false, false, false, false, false, false, false, false] rfl ?_
          rotate_left
          · (intro w hSw; (try dsimp only at hSw); go_simp; first | done | (with_reducible rfl))
          (try simp only [Act.put, List.setIfInBounds_toArray, List.set_cons_zero, List.set_cons_succ])
          refine' wpT_take 5 (v := _) rfl (by kernel_rfl) (by kernel_rfl) (by kernel_rfl) (fun _ _ _ h => h) (by rfl) ?_ (by assumption) #[true, true, true, true, true, true, false, false, false, false, false, false, false, false, false] rfl ?_
          rotate_left
          · (intro w hSw; (try dsimp only at hSw); go_simp; first | done | (with_reducible rfl))
          (try simp only [Act.put, List.setIfInBounds_toArray, List.set_cons_zero, List.set_cons_succ])
          refine' wpT_take 6 (v := _) rfl (by kernel_rfl) (by kernel_rfl) (by kernel_rfl) (fun _ _ _ h => h) (by rfl) ?_ (by assumption) #[true, true, true, true, true, true, true, false, false, false, false, false, false, false, false] rfl ?_
          rotate_left
          · (intro w hSw; (try dsimp only at hSw); go_simp; first | done | (with_reducible rfl))
          (try simp only [Act.put, List.setIfInBounds_toArray, List.set_cons_zero, List.set_cons_succ])
          refine' wpT_take 7 (v := _) rfl (by kernel_rfl) (by kernel_rfl) (by kernel_rfl) (fun _ _ _ h => h) (by rfl) ?_ (by assumption) #[true, true, true, true, true, true, true, true, false, false, false, false, false, false, false] rfl ?_
          rotate_left
          · (intro w hSw; (try dsimp only at hSw); go_simp; first | done | (with_reducible rfl))
          (try simp only [Act.put, List.setIfInBounds_toArray, List.set_cons_zero, List.set_cons_succ])
          refine wpT_one 8 rfl (by decide) (by kernel_rfl) #[true, true, true, true, true, true, true, true, true, false, false, false, false, false, false] rfl (fun K hK => ?_)
          have HK := Lib.hid hK
          clear hK
          go_simp
          refine (fun hS1 => HK.out _ _ hS1 ?_) ?_
          rotate_left
          · exact (World.cell?_alloc_lt wq _ ⟨p, 1, none⟩ LTP.out).trans hp1
          clear HK
          (try simp only [Act.put, List.setIfInBounds_toArray, List.set_cons_zero, List.set_cons_succ])
          refine wpT_one 9 rfl (by decide) (by kernel_rfl) #[true, true, true, true, true, true, true, true, true, true, false, false, false, false, false] rfl (fun K hK => ?_)
          have HK := Lib.hid hK
          clear hK
          go_simp
          refine ADD.out.mono ?_
          rintro e wb ⟨rfl, ⟨ownb, hhb⟩, hbb, hcell⟩
          have hpb := hcell.trans ((World.cell?_alloc_lt wq _ ⟨p, 1, none⟩ LTP.out).trans hp1)
          have HCB := Lib.hid hpb
          have HHB := Lib.hid hhb
          have HBB := Lib.hid hbb
          clear hcell hbb
          refine (fun hS1 => HK.out _ _ hS1 ?_) ?_
          rotate_left
          · exact HCB.out
          clear HK
          (try simp only [Act.put, List.setIfInBounds_toArray, List.set_cons_zero, List.set_cons_succ])
          refine wpT_one 10 rfl (by decide) (by kernel_rfl) #[true, true, true, true, true, true, true, true, true, true, true, false, false, false, false] rfl (fun K hK => ?_)
          have HK := Lib.hid hK
          clear hK
          go_simp
          refine (fun hS1 => HK.out _ _ hS1 ?_) ?_
          rotate_left
          · exact (World.cell?_alloc_lt wb _ ⟨p, 1, none⟩ (World.block_lt_of_cell? _ _ HCB.out)).trans HCB.out
          clear HK
          (try simp only [Act.put, List.setIfInBounds_toArray, List.set_cons_zero, List.set_cons_succ])
          refine wpT_one 11 rfl (by decide) (by kernel_rfl) #[true, true, true, true, true, true, true, true, true, true, true, true, false, false, false] rfl (fun K hK => ?_)
          have HK := Lib.hid hK
          clear hK
          obtain ⟨vb, hbb2, hrb, hob⟩ := HHB.out.prs
          obtain rfl : vb = .slice Aq stq.row.length cq := by have h1 := hbb2.at_ 1 vb rfl; rw [HCB.out] at h1; injection h1 with h1; exact h1.symm
          have hsb := HHB.out.size
          have nq := NQ.out
          have szq := SZQ.out.row
          refine step_app_one wb rfl (.tmp 36) (.tmp 42) 52 rfl base 51 _ 1 8 Tryd.underlying52 infoPtr rfl (by omega) (by omega) (.slice Aq stq.row.length cq) stq.row.length (ptrs ad2 stq.row) #[.pointer (some ⟨wq.heap.size, 0, none⟩)] rfl rfl rfl (by simp [Value.oneCell']) hrb hsb (by omega) ?_
          intro v5 w5 hrow5 hg5 hat5
          obtain ⟨A5, c5, rfl, hc5, hm5⟩ := hrow5.slice
          have hop := HHB.out.own_p
          have hb5 := hbb2.grown hg5 (fun e => role_ne hop (hob _ e.symm) (by nofun) rfl)
          have hq5 := hb5.at_ 1 (.slice Aq stq.row.length cq) rfl
          have hf5 := hb5.free 1
          have HQ5 := Lib.hid hq5
          have HROW5 := Lib.hid hrow5
          have HG5 := Lib.hid hg5
          have HAT5 := Lib.hid hat5
          have HBB2 := Lib.hid hbb2
          have HOB := Lib.hid hob
          have HRB := Lib.hid hrb
          clear hrow5 hg5 hat5 hbb2 hrb hob hb5 hop nq szq
          refine (fun hS1 => HK.out _ _ hS1 ?_) ?_
          rotate_left
          · exact HQ5.out
          clear HK
          (try simp only [Act.put, List.setIfInBounds_toArray, List.set_cons_zero, List.set_cons_succ])
          refine' wpT_take 12 (v := _) rfl (by kernel_rfl) (by kernel_rfl) (by kernel_rfl) (fun _ _ _ h => h) (by rfl) ?_ (by assumption) #[true, true, true, true, true, true, true, true, true, true, true, true, true, false, false] rfl ?_
          rotate_left
          · (intro w hSw; (try dsimp only at hSw); go_simp; first | done | (with_reducible rfl))
          (try simp only [Act.put, List.setIfInBounds_toArray, List.set_cons_zero, List.set_cons_succ])
          refine' wpT_take 13 (v := _) rfl (by kernel_rfl) (by kernel_rfl) (by kernel_rfl) (fun _ _ _ h => h) (by rfl) ?_ (by assumption) #[true, true, true, true, true, true, true, true, true, true, true, true, true, true, false] rfl ?_
          rotate_left
          · (intro w hSw; (try dsimp only at hSw); go_simp; first | done | (with_reducible rfl))
          (try simp only [Act.put, List.setIfInBounds_toArray, List.set_cons_zero, List.set_cons_succ])
          refine wpT_last rfl (by kernel_rfl) (by kernel_rfl) (fun K hK => ?_)
          have HK := Lib.hid hK
          clear hK
          go_simp
          refine HK.out _ _ ?_
          clear HK
          have hfin : ∃ own5, Holds KP (w5.setCell ⟨p, 1, none⟩ (.slice A5 (stq.row.length + 1) c5)) base p ad2 own5 (pushS stq quoteNd) :=
            row_appended (i := stq.nodes.length) (st := addS (newS stq quoteNd) stq.nodes.length) HHB.out HBB2.out HOB.out (by rw [HNEW2.out]; exact HROW5.out) HG5.out HAT5.out
          have E5 : Below base w (w5.setCell ⟨p, 1, none⟩ (.slice A5 (stq.row.length + 1) c5)) := by
            refine Below.setCell (Below.grown ((((HBQ.out.alloc HHQ.out.size _).drew).trans HBB.out)) HG5.out HHB.out.size (fun k hk => (HRB.out.blk k hk).1)) HHB.out.bp _
          have HFIN := Lib.hid hfin
          have HE5 := Lib.hid E5
          generalize w5.setCell ⟨p, 1, none⟩ (.slice A5 (stq.row.length + 1) c5) = w6 at hfin E5 HFIN HE5 ⊢
          clear hfin E5 HROW5 HG5 HAT5 HBB2 HOB HRB hq5 hf5 HQ5 hS1 hhb hpb HCB hp1
          go_wp2
          obtain ⟨own5, H5⟩ := HFIN.out
          have hml : m < max i 40 := by omega
          go_roundw
          case rel => exact ⟨m + 1, t, true, pushS stq quoteNd, ad2, own5, rfl, rfl, by go_num, by omega, by rw [← HSTEP.out]; exact HBEG.out, fun j hj => (HAD2.out j (by omega)).trans (HAD.out j hj), H5, WFP.out, SZP.out, HE5.out, nofun, by rw [len_pushS]; omega, by rw [len_pushS]; omega, by have := HTL.out; omega, by omega⟩
          case measure => simp [intOf]; omega
        | false =>
          have SHUT := Lib.hid (shut_any HHK.out i (hrow rfl))
          unfold ptr at SHUT
          go_wp2_with fail
          refine SHUT.out.mono ?_
          rintro e wq ⟨rfl, hhq, hbq⟩
          have HHQ := Lib.hid hhq
          have HBQ := Lib.hid (HBK.out.trans hbq)
          have HWF1 := Lib.hid (HWF1.out.shutS i)
          have HSZ1 := Lib.hid (HSZ1.out.shut i)
          have hnodes : (shutS st1 i).nodes.length ≤ st.nodes.length + 2 * (m - i) := hnodes
          have HGE : Hid (st.nodes.length ≤ (shutS st1 i).nodes.length) := HGE
          clear hhq hbq SHUT
          go_wp2_with fail
          obtain ⟨stq, hstq⟩ : ∃ s, s = shutS st1 i := ⟨_, rfl⟩
          rw [← hstq] at HHQ HWF1 HSZ1 hnodes HGE
          have WFQ := HWF1
          have SZQ := HSZ1
          have hnq : st.nodes.length ≤ stq.nodes.length := HGE.out
          have NQ := Lib.hid (show stq.nodes.length < 1000000000 by omega)
          have HTL := Lib.hid (quote_len (l := l1) (r := t) HQ.out)
          have HSTEP := Lib.hid (show beginsF i (40 - m) st1 l1 false = beginsF i (40 - (m + 1)) (pushS stq quoteNd) t true by rw [show 40 - m = (40 - (m + 1)) + 1 by omega, beginsF, HQ.out, hstq]; rfl)
          clear hstq
          have hxq := inId_lt WFQ.out HHQ.out.pos stq.row.length (Nat.le_refl _)
          obtain ⟨ad2, own2, hnew2, had2, H2⟩ := HHQ.out.new WFQ.out quoteNd rfl rfl
          obtain ⟨vrq, hbq, hrq, hoq⟩ := HHQ.out.prs
          obtain ⟨Aq, cq, rfl, hcq, hmq⟩ := hrq.slice
          have hp1 := hbq.at_ 1 (.slice Aq stq.row.length cq) rfl
          have LTP := Lib.hid hbq.lt
          have hadd := add_full H2.drew stq.nodes.length (by rw [len_newS]; omega) (by rw [len_newS]; show inId stq stq.row.length < _; omega) (by show inId stq stq.row.length ≠ _; omega) (by show ((newS stq quoteNd).nd (inId stq stq.row.length)).kids.length ≤ _; rw [nd_new, if_neg (by omega)]; have := SZQ.out.kids (inId stq stq.row.length); have := NQ.out; omega) (by have := SZQ.out.row; have := NQ.out; show stq.row.length ≤ _; omega)
          rw [hnew2] at hadd
          have ADD := Lib.hid hadd
          have HAD2 := Lib.hid had2
          have HNEW2 := Lib.hid hnew2
          have WFP := Lib.hid (WFQ.out.push quoteNd rfl hxq)
          have SZP := Lib.hid (SZQ.out.push quoteNd rfl hxq)
          unfold ptr at *
          clear hbq hrq hoq hadd had2 hnew2 H2
          refine wpT_start 14 (fun w' : World => w'.cell? ⟨p, 1, none⟩ = some (.slice Aq stq.row.length cq)) (by kernel_rfl) 15 rfl #[false, false, false, false, false, false, false, false, false, false, false, false, false, false, false] rfl ?_
          have hS0 : (fun w' : World => w'.cell? ⟨p, 1, none⟩ = some (.slice Aq stq.row.length cq)) (World.drew _) := (hp1 : (World.drew wq).cell? _ = _)
          refine' wpT_take 0 (v := _) rfl (by kernel_rfl) (by kernel_rfl) (by kernel_rfl) (fun _ _ _ h => h) (by rfl) ?_ (by assumption) #[true, false, false, false, false, false, false, false, false, false, false, false, false, false, false] rfl ?_
          rotate_left
          · (intro w hSw; (try dsimp only at hSw); go_simp; first | done | (with_reducible rfl))
          (try simp only [Act.put, List.setIfInBounds_toArray, List.set_cons_zero, List.set_cons_succ])
          refine' wpT_take 1 (v := _) rfl (by kernel_rfl) (by kernel_rfl) (by kernel_rfl) (fun _ _ _ h => h) (by rfl) ?_ (by assumption) #[true, true, false, false, false, false, false, false, false, false, false, false, false, false, false] rfl ?_
          rotate_left
          · (intro w hSw; (try dsimp only at hSw); go_simp; first | done | (with_reducible rfl))
          (try simp only [Act.put, List.setIfInBounds_toArray, List.set_cons_zero, List.set_cons_succ])
          refine' wpT_take 2 (v := _) rfl (by kernel_rfl) (by kernel_rfl) (by kernel_rfl) (fun _ _ _ h => h) (by rfl) ?_ (by assumption) #[true, true, true, false, false, false, false, false, false, false, false, false, false, false, false] rfl ?_
          rotate_left
          · (intro w hSw; (try dsimp only at hSw); go_simp; first | done | (with_reducible rfl))
          (try simp only [Act.put, List.setIfInBounds_toArray, List.set_cons_zero, List.set_cons_succ])
          refine' wpT_take 3 (v := _) rfl (by kernel_rfl) (by kernel_rfl) (by kernel_rfl) (fun _ _ _ h => h) (by rfl) ?_ (by assumption) #[true, true, true, true, false, false, false, false, false, false, false, false, false, false, false] rfl ?_
          rotate_left
          · (intro w hSw; (try dsimp only at hSw); go_simp; first | done | (with_reducible rfl))
          (try simp only [Act.put, List.setIfInBounds_toArray, List.set_cons_zero, List.set_cons_succ])
          refine' wpT_take 4 (v := _) rfl (by kernel_rfl) (by kernel_rfl) (by kernel_rfl) (fun _ _ _ h => h) (by rfl) ?_ (by assumption) #[true, true, true, true, true, false, false, false, false, false, false, false, false, false, false] rfl ?_
          rotate_left
          · (intro w hSw; (try dsimp only at hSw); go_simp; first | done | (with_reducible rfl))
          (try simp only [Act.put, List.setIfInBounds_toArray, List.set_cons_zero, List.set_cons_succ])
          refine' wpT_take 5 (v := _) rfl (by kernel_rfl) (by kernel_rfl) (by kernel_rfl) (fun _ _ _ h => h) (by rfl) ?_ (by assumption) #[true, true, true, true, true, true, false, false, false, false, false, false, false, false, false] rfl ?_
          rotate_left
          · (intro w hSw; (try dsimp only at hSw); go_simp; first | done | (with_reducible rfl))
          (try simp only [Act.put, List.setIfInBounds_toArray, List.set_cons_zero, List.set_cons_succ])
          refine' wpT_take 6 (v := _) rfl (by kernel_rfl) (by kernel_rfl) (by kernel_rfl) (fun _ _ _ h => h) (by rfl) ?_ (by assumption) #[true, true, true, true, true, true, true, false, false, false, false, false, false, false, false] rfl ?_
          rotate_left
          · (intro w hSw; (try dsimp only at hSw); go_simp; first | done | (with_reducible rfl))
          (try simp only [Act.put, List.setIfInBounds_toArray, List.set_cons_zero, List.set_cons_succ])
          refine' wpT_take 7 (v := _) rfl (by kernel_rfl) (by kernel_rfl) (by kernel_rfl) (fun _ _ _ h => h) (by rfl) ?_ (by assumption) #[true, true, true, true, true, true, true, true, false, false, false, false, false, false, false] rfl ?_
          rotate_left
          · (intro w hSw; (try dsimp only at hSw); go_simp; first | done | (with_reducible rfl))
          (try simp only [Act.put, List.setIfInBounds_toArray, List.set_cons_zero, List.set_cons_succ])
          refine wpT_one 8 rfl (by decide) (by kernel_rfl) #[true, true, true, true, true, true, true, true, true, false, false, false, false, false, false] rfl (fun K hK => ?_)
          have HK := Lib.hid hK
          clear hK
          go_simp
          refine (fun hS1 => HK.out _ _ hS1 ?_) ?_
          rotate_left
          · exact (World.cell?_alloc_lt wq _ ⟨p, 1, none⟩ LTP.out).trans hp1
          clear HK
          (try simp only [Act.put, List.setIfInBounds_toArray, List.set_cons_zero, List.set_cons_succ])
          refine wpT_one 9 rfl (by decide) (by kernel_rfl) #[true, true, true, true, true, true, true, true, true, true, false, false, false, false, false] rfl (fun K hK => ?_)
          have HK := Lib.hid hK
          clear hK
          go_simp
          refine ADD.out.mono ?_
          rintro e wb ⟨rfl, ⟨ownb, hhb⟩, hbb, hcell⟩
          have hpb := hcell.trans ((World.cell?_alloc_lt wq _ ⟨p, 1, none⟩ LTP.out).trans hp1)
          have HCB := Lib.hid hpb
          have HHB := Lib.hid hhb
          have HBB := Lib.hid hbb
          clear hcell hbb
          refine (fun hS1 => HK.out _ _ hS1 ?_) ?_
          rotate_left
          · exact HCB.out
          clear HK
          (try simp only [Act.put, List.setIfInBounds_toArray, List.set_cons_zero, List.set_cons_succ])
          refine wpT_one 10 rfl (by decide) (by kernel_rfl) #[true, true, true, true, true, true, true, true, true, true, true, false, false, false, false] rfl (fun K hK => ?_)
          have HK := Lib.hid hK
          clear hK
          go_simp
          refine (fun hS1 => HK.out _ _ hS1 ?_) ?_
          rotate_left
          · exact (World.cell?_alloc_lt wb _ ⟨p, 1, none⟩ (World.block_lt_of_cell? _ _ HCB.out)).trans HCB.out
          clear HK
          (try simp only [Act.put, List.setIfInBounds_toArray, List.set_cons_zero, List.set_cons_succ])
          refine wpT_one 11 rfl (by decide) (by kernel_rfl) #[true, true, true, true, true, true, true, true, true, true, true, true, false, false, false] rfl (fun K hK => ?_)
          have HK := Lib.hid hK
          clear hK
          obtain ⟨vb, hbb2, hrb, hob⟩ := HHB.out.prs
          obtain rfl : vb = .slice Aq stq.row.length cq := by have h1 := hbb2.at_ 1 vb rfl; rw [HCB.out] at h1; injection h1 with h1; exact h1.symm
          have hsb := HHB.out.size
          have nq := NQ.out
          have szq := SZQ.out.row
          refine step_app_one wb rfl (.tmp 36) (.tmp 42) 52 rfl base 51 _ 1 8 Tryd.underlying52 infoPtr rfl (by omega) (by omega) (.slice Aq stq.row.length cq) stq.row.length (ptrs ad2 stq.row) #[.pointer (some ⟨wq.heap.size, 0, none⟩)] rfl rfl rfl (by simp [Value.oneCell']) hrb hsb (by omega) ?_
          intro v5 w5 hrow5 hg5 hat5
          obtain ⟨A5, c5, rfl, hc5, hm5⟩ := hrow5.slice
          have hop := HHB.out.own_p
          have hb5 := hbb2.grown hg5 (fun e => role_ne hop (hob _ e.symm) (by nofun) rfl)
          have hq5 := hb5.at_ 1 (.slice Aq stq.row.length cq) rfl
          have hf5 := hb5.free 1
          have HQ5 := Lib.hid hq5
          have HROW5 := Lib.hid hrow5
          have HG5 := Lib.hid hg5
          have HAT5 := Lib.hid hat5
          have HBB2 := Lib.hid hbb2
          have HOB := Lib.hid hob
          have HRB := Lib.hid hrb
          clear hrow5 hg5 hat5 hbb2 hrb hob hb5 hop nq szq
          refine (fun hS1 => HK.out _ _ hS1 ?_) ?_
          rotate_left
          · exact HQ5.out
          clear HK
          (try simp only [Act.put, List.setIfInBounds_toArray, List.set_cons_zero, List.set_cons_succ])
          refine' wpT_take 12 (v := _) rfl (by kernel_rfl) (by kernel_rfl) (by kernel_rfl) (fun _ _ _ h => h) (by rfl) ?_ (by assumption) #[true, true, true, true, true, true, true, true, true, true, true, true, true, false, false] rfl ?_
          rotate_left
          · (intro w hSw; (try dsimp only at hSw); go_simp; first | done | (with_reducible rfl))
          (try simp only [Act.put, List.setIfInBounds_toArray, List.set_cons_zero, List.set_cons_succ])
          refine' wpT_take 13 (v := _) rfl (by kernel_rfl) (by kernel_rfl) (by kernel_rfl) (fun _ _ _ h => h) (by rfl) ?_ (by assumption) #[true, true, true, true, true, true, true, true, true, true, true, true, true, true, false] rfl ?_
          rotate_left
          · (intro w hSw; (try dsimp only at hSw); go_simp; first | done | (with_reducible rfl))
          (try simp only [Act.put, List.setIfInBounds_toArray, List.set_cons_zero, List.set_cons_succ])
          refine wpT_last rfl (by kernel_rfl) (by kernel_rfl) (fun K hK => ?_)
          have HK := Lib.hid hK
          clear hK
          go_simp
          refine HK.out _ _ ?_
          clear HK
          have hfin : ∃ own5, Holds KP (w5.setCell ⟨p, 1, none⟩ (.slice A5 (stq.row.length + 1) c5)) base p ad2 own5 (pushS stq quoteNd) :=
            row_appended (i := stq.nodes.length) (st := addS (newS stq quoteNd) stq.nodes.length) HHB.out HBB2.out HOB.out (by rw [HNEW2.out]; exact HROW5.out) HG5.out HAT5.out
          have E5 : Below base w (w5.setCell ⟨p, 1, none⟩ (.slice A5 (stq.row.length + 1) c5)) := by
            refine Below.setCell (Below.grown ((((HBQ.out.alloc HHQ.out.size _).drew).trans HBB.out)) HG5.out HHB.out.size (fun k hk => (HRB.out.blk k hk).1)) HHB.out.bp _
          have HFIN := Lib.hid hfin
          have HE5 := Lib.hid E5
          generalize w5.setCell ⟨p, 1, none⟩ (.slice A5 (stq.row.length + 1) c5) = w6 at hfin E5 HFIN HE5 ⊢
          clear hfin E5 HROW5 HG5 HAT5 HBB2 HOB HRB hq5 hf5 HQ5 hS1 hhb hpb HCB hp1
          go_wp2
          obtain ⟨own5, H5⟩ := HFIN.out
          have hml : m < max i 40 := by omega
          go_roundw
          case rel => exact ⟨m + 1, t, true, pushS stq quoteNd, ad2, own5, rfl, rfl, by go_num, by omega, by rw [← HSTEP.out]; exact HBEG.out, fun j hj => (HAD2.out j (by omega)).trans (HAD.out j hj), H5, WFP.out, SZP.out, HE5.out, nofun, by rw [len_pushS]; omega, by rw [len_pushS]; omega, by have := HTL.out; omega, by omega⟩
          case measure => simp [intOf]; omega
      | false =>
        cases hit : item l1 with
        | none =>
          have IT := Lib.hid (show Calls Tryd.prog 45 #[.string (S l1)] wk fun e w' => e = .returned (.tuple #[.int .u8 0, .int .i64 0, .string ⟨#[]⟩, .bool false]) ∧ Below wk.heap.size wk w' by have h := item_any l1 wk (by omega); rw [hit] at h; exact h)
          have HSTEP := Lib.hid (show beginsF i (40 - m) st1 l1 fr = (st1, l1, fr) by rw [show 40 - m = (40 - (m + 1)) + 1 by omega]; exact beginsF_none _ _ _ _ _ (HQ.out.trans rfl) hit)
          clear hit
          go_wp2_with fail
          refine IT.out.mono ?_
          rintro e wi ⟨rfl, hbi⟩
          have Hi := HHK.out.below hbi
          have Bi := HBK.out.trans (hbi.mono (by have := HHK.out.size; omega))
          have HHI := Lib.hid Hi
          have HBI := Lib.hid Bi
          clear hbi Hi Bi
          go_wp2
          go_ret2
          exact ⟨st1, l1, fr, by rw [← HSTEP.out]; exact HBEG.out.symm, rfl, ⟨ad1, own1, HAD.out, HHI.out⟩, HWF1.out, HSZ1.out, by omega, by omega, HBI.out⟩
        | some x =>
          obtain ⟨c, nn, r⟩ := x
          have IT := Lib.hid (show Calls Tryd.prog 45 #[.string (S l1)] wk fun e w' => e = .returned (.tuple #[.int .u8 c.toNat, .int .i64 nn, .string (S r), .bool true]) ∧ Below wk.heap.size wk w' by have h := item_any l1 wk (by omega); rw [hit] at h; exact h)
          have HIT := Lib.hid hit
          have HTL := Lib.hid (item_len hit)
          clear hit
          go_wp2_with fail
          refine IT.out.mono ?_
          rintro e wi ⟨rfl, hbi⟩
          have Hi := HHK.out.below hbi
          have Bi := HBK.out.trans (hbi.mono (by have := HHK.out.size; omega))
          have HHI := Lib.hid Hi
          have HBI := Lib.hid Bi
          clear hbi Hi Bi
          cases fr with
          | true =>
            have hge0 : st.nodes.length ≤ st1.nodes.length := HGE.out
            have SZB := Lib.hid (show ∀ j, (st1.nd j).kids.length < 1000000000 from fun j => by have := HSZ1.out.kids j; omega)
            have PIT := Lib.hid (pitem_any HHI.out HWF1.out c nn SZB.out (by have := HSZ1.out.row; omega))
            have HLE := Lib.hid (len_itemS st1 c nn)
            have HOK := Lib.hid (itemS_ok HWF1.out HSZ1.out HHI.out.pos c nn)
            have HSTEP := Lib.hid (show beginsF i (40 - m) st1 l1 true = beginsF i (40 - (m + 1)) (itemS st1 c nn) r true by rw [show 40 - m = (40 - (m + 1)) + 1 by omega]; exact beginsF_item _ _ _ _ _ _ _ _ (HQ.out.trans rfl) HIT.out)
            unfold ptr at PIT
            go_wp2_with fail
            refine PIT.out.mono ?_
            rintro e wx ⟨rfl, ⟨ad2, own2, had2, hx2⟩, hbx⟩
            have HAD2 := Lib.hid had2
            have HX2 := Lib.hid hx2
            have HBX := Lib.hid (HBI.out.trans hbx)
            clear had2 hx2 hbx
            go_wp2
            have hml : m < max i 40 := by omega
            go_roundw
            case rel => exact ⟨m + 1, r, true, itemS st1 c nn, ad2, own2, rfl, rfl, by go_num, by omega, by rw [← HSTEP.out]; exact HBEG.out, fun j hj => (HAD2.out j (by omega)).trans (HAD.out j hj), HX2.out, HOK.out.1, HOK.out.2.1, HBX.out, nofun, by have := HOK.out.2.2; omega, by have := HLE.out; omega, by have := HTL.out; omega, by omega⟩
            case measure => simp [intOf]; omega
          | false =>
            have SHUT := Lib.hid (shut_any HHI.out i (hrow rfl))
            unfold ptr at SHUT
            go_wp2_with fail
            refine SHUT.out.mono ?_
            rintro e wq ⟨rfl, hhq, hbq⟩
            have HHI := Lib.hid hhq
            have HBI := Lib.hid (HBI.out.trans hbq)
            have HWF1 := Lib.hid (HWF1.out.shutS i)
            have HSZ1 := Lib.hid (HSZ1.out.shut i)
            have hnodes : (shutS st1 i).nodes.length ≤ st.nodes.length + 2 * (m - i) := hnodes
            have HGE : Hid (st.nodes.length ≤ (shutS st1 i).nodes.length) := HGE
            clear hhq hbq SHUT
            have hge0 : st.nodes.length ≤ (shutS st1 i).nodes.length := HGE.out
            have SZB := Lib.hid (show ∀ j, ((shutS st1 i).nd j).kids.length < 1000000000 from fun j => by have := HSZ1.out.kids j; omega)
            have PIT := Lib.hid (pitem_any HHI.out HWF1.out c nn SZB.out (by have := HSZ1.out.row; omega))
            have HLE := Lib.hid (len_itemS (shutS st1 i) c nn)
            have HOK := Lib.hid (itemS_ok HWF1.out HSZ1.out HHI.out.pos c nn)
            have HSTEP := Lib.hid (show beginsF i (40 - m) st1 l1 false = beginsF i (40 - (m + 1)) (itemS (shutS st1 i) c nn) r true by rw [show 40 - m = (40 - (m + 1)) + 1 by omega]; exact beginsF_item _ _ _ _ _ _ _ _ (HQ.out.trans rfl) HIT.out)
            unfold ptr at PIT
            go_wp2_with fail
            refine PIT.out.mono ?_
            rintro e wx ⟨rfl, ⟨ad2, own2, had2, hx2⟩, hbx⟩
            have HAD2 := Lib.hid had2
            have HX2 := Lib.hid hx2
            have HBX := Lib.hid (HBI.out.trans hbx)
            clear had2 hx2 hbx
            go_wp2
            have hml : m < max i 40 := by omega
            go_roundw
            case rel => exact ⟨m + 1, r, true, itemS (shutS st1 i) c nn, ad2, own2, rfl, rfl, by go_num, by omega, by rw [← HSTEP.out]; exact HBEG.out, fun j hj => (HAD2.out j (by omega)).trans (HAD.out j hj), HX2.out, HOK.out.1, HOK.out.2.1, HBX.out, nofun, by have := HOK.out.2.2; omega, by have := HLE.out; omega, by have := HTL.out; omega, by omega⟩
            case measure => simp [intOf]; omega
    · have hz : 40 - m = 0 := by omega
      rw [hz] at hbeg
      have HB := Lib.hid hbeg
      clear hbeg
      go_wp2
      go_ret2
      exact ⟨st1, l1, fr, HB.out.symm, rfl, ⟨ad1, own1, had, H1⟩, wf1, sz1, by omega, by omega, hbel⟩
end Go.Proofs.YtjgaobkgmheocaaDoor
