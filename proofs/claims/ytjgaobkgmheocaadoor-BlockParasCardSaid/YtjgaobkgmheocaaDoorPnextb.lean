/- block.parser.next: the walk over the row. -/
import Derived.Test.YtjgaobkgmheocaaDoorPinv
import Derived.Deep.CutBlock
import Derived.Deep.CutRange
namespace Go.Proofs.YtjgaobkgmheocaaDoor
open Go Go.RowKit

/-- Behind next. -/
def NextPost (KP : Nat → Option Obj) (base p : Nat) (ad : Nat → Nat) (st st' : PS) (w : World) (e : Ending) (w' : World) : Prop :=
  e = .returned (.tuple #[]) ∧ (∃ ad' own', (∀ i, i < st.nodes.length → ad' i = ad i) ∧ Holds KP w' base p ad' own' st') ∧ Below base w w'
set_option maxRecDepth 100000 in
set_option maxHeartbeats 4000000 in
theorem next_walk {w : World} {base p : Nat} {ad : Nat → Nat} {own : Nat → Role} {KP : Nat → Option Obj} {st : PS} (H : Holds KP w base p ad own st) (wf : Wf st) (sz : Sz st) (l : List UInt8)
    (hl : l.length ≤ 1000000000) (hn : st.nodes.length + 100 ≤ 1000000000) {N M : Nat} (hsm : NI (Small N M) st) (hN : N ≤ 900000000) :
    Calls Tryd.prog 16 #[ptr p, .string (S l)] w (NextPost KP base p ad st (nextS st l) w) := by
  have hin : ∀ i, (st.nd i).inn ≤ 1000000000 := fun i => by have := (hsm i).1; omega
  have hfi : ∀ i, (st.nd i).fence.indent ≤ 1000000000 := fun i => by have := (hsm i).2.1; omega
  have hln : ∀ i, (st.nd i).lines.length ≤ 900000000 := fun i => by have := (hsm i).2.2.1; omega
  have HH := Lib.hid H
  have HWF := Lib.hid wf
  have HSZ := Lib.hid sz
  have HSM := Lib.hid hsm
  clear H wf sz hsm
  unfold ptr
  go_enter Tryd.func16, Tryd.ntmps16
  go_upto_block 0 with fail
  go_cut [1, 4] from 5 (fun s k wr => ∃ (m : Nat) (l1 : List UInt8), s = .string (S l1) ∧ k = .int .i64 (m : Int) ∧ runRow st st.row l 0 = (m, l1) ∧ m ≤ st.row.length ∧ l1.length ≤ l.length + 3 * m ∧ Below w.heap.size w wr)
  case first =>
    obtain ⟨vr, hb, hr, ho⟩ := HH.out.prs
    obtain ⟨A, c, rfl, hc, hm⟩ := hr.slice
    have SZL := Lib.hid (show st.row.length ≤ 1000000000 by have := HSZ.out.row; omega)
    have HB := Lib.hid hb
    have HR := Lib.hid hr
    clear hb hr ho
    go_wp2
    go_loopw [1, 4] (fun s k wr => ∃ (m : Nat) (l1 : List UInt8), s = .string (S l1) ∧ k = .int .i64 (m : Int) ∧ m ≤ st.row.length ∧ runRow st (st.row.drop m) l1 m = runRow st st.row l 0 ∧ l1.length ≤ l.length + 3 * m ∧ Below w.heap.size w wr)
      (fun _ k _ => st.row.length - (intOf k).toNat)
    case atStart => exact ⟨0, l, rfl, rfl, Nat.zero_le _, rfl, by omega, Below.refl _ _⟩
    case round =>
      obtain ⟨m, l1, rfl, rfl, hmr, hrun, hlen, hbel⟩ := hrel
      obtain ⟨wo, rfl⟩ : ∃ wo : World, wo = wr := ⟨_, rfl⟩
      have hb' := HB.out.below hbel
      have hp1 := hb'.at_ 1 (.slice A st.row.length c) rfl
      have HRUN := Lib.hid hrun
      have HBEL := Lib.hid hbel
      clear hb' hrun hbel
      by_cases hlt : m < st.row.length
      · obtain ⟨g, cap, hv, hg1, hg2, hcc, hcm, hce, _⟩ := HR.out.at_ (by omega)
        injection hv with hA _ hC
        subst hA hC
        obtain ⟨x, hx⟩ : ∃ x, x = st.row[m] := ⟨_, rfl⟩
        have hxl : x < st.nodes.length := by rw [hx]; exact HWF.out.row _ (List.getElem_mem _)
        have hcell := hce m (ptr (ad x)) (by rw [ptrs_get _ _ _ hlt, hx])
        have hcw := (HBEL.out.cell (p := ⟨g, m, none⟩) hg2).trans hcell
        unfold ptr at hcw
        have htk := takes_any (HH.out.below HBEL.out) x hxl l1 (by have := SZL.out; omega) (hin x)
        have hstep : runRow st (st.row.drop m) l1 m = match takesV (st.nd x) l1 with | some t => runRow st (st.row.drop (m + 1)) t (m + 1) | none => (m, l1) := by rw [List.drop_eq_getElem_cons hlt, ← hx]; rfl
        have hlt' : (m : Int) < (st.row.length : Int) := by omega
        have HLT := Lib.hid hlt
        have hm6 : m ≤ 1000000000 := by have := SZL.out; omega
        clear hce hcell hx
        cases hv : takesV (st.nd x) l1 with
        | none =>
          rw [hv] at htk hstep
          have TK := Lib.hid htk
          have HST := Lib.hid hstep
          unfold ptr at TK
          clear htk hstep hv
          go_wp2_with fail
          refine TK.out.mono ?_
          rintro e w2 ⟨rfl, hb2⟩
          have HB2 := Lib.hid (HBEL.out.trans (hb2.mono HBEL.out.size))
          clear hb2
          go_wp2
          go_meet
          case rel => exact ⟨m, l1, rfl, rfl, by rw [← HRUN.out, HST.out], hmr, hlen, HB2.out⟩
        | some t =>
          have hlt2 := takesV_len hv
          rw [hv] at htk hstep
          have TK := Lib.hid htk
          have HST := Lib.hid hstep
          unfold ptr at TK
          clear htk hstep hv
          go_wp2_with fail
          refine TK.out.mono ?_
          rintro e w2 ⟨rfl, hb2⟩
          have HB2 := Lib.hid (HBEL.out.trans (hb2.mono HBEL.out.size))
          clear hb2
          go_wp2
          go_roundw
          case rel => exact ⟨m + 1, t, rfl, by go_num, by have := HLT.out; omega, by rw [← HST.out]; exact HRUN.out, by omega, HB2.out⟩
          case measure => have := HLT.out; simp [intOf]; omega
      · have hme : m = st.row.length := by omega
        have hdr : runRow st st.row l 0 = (m, l1) := by rw [← HRUN.out, hme, List.drop_length]; rfl
        have HDR := Lib.hid hdr
        have hlt' : ¬ (m : Int) < (st.row.length : Int) := by omega
        clear hdr hme
        go_wp2
        go_meet
        case rel => exact ⟨m, l1, rfl, rfl, HDR.out, hmr, hlen, HBEL.out⟩
  case rest =>
    obtain ⟨m, l1, rfl, rfl, hrun, hmr, hlen, hbel⟩ := hcut
    have HRUN := Lib.hid hrun
    have H1 := HH.out.below hbel
    have HBEL := Lib.hid (hbel.mono HH.out.size)
    have HH1 := Lib.hid H1
    clear hrun hbel H1
    go_upto_region 6 with fail
    by_cases hA : m = st.row.length ∧ openFence st = true
    · obtain ⟨hme, hof⟩ := hA
      have hj : ∃ j, st.leaf = some j ∧ (st.nd j).kind = 7 := by
        unfold openFence at hof
        cases hlf : st.leaf with
        | none => rw [hlf] at hof; cases hof
        | some j => rw [hlf] at hof; exact ⟨j, rfl, by simpa using hof⟩
      obtain ⟨j, hlf, hkd⟩ := hj
      have hjx := HWF.out.leaf j hlf
      have HNX := Lib.hid (show nextS st l = (if ends (st.nd j).fence l1 then leafS st none else lnS st j (strip l1 (st.nd j).fence.indent)) by
        unfold nextS
        rw [HRUN.out]
        dsimp only
        rw [if_pos (by rw [Bool.and_eq_true, beq_iff_eq]; exact ⟨hme, hof⟩), hlf]
        rfl)
      obtain ⟨vr, hb, hr, ho⟩ := HH1.out.prs
      obtain ⟨A, c, rfl, hc, hm⟩ := hr.slice
      obtain ⟨vlj, vkj, hbj, hlj, hkj, hol, hok⟩ := HH1.out.nds j hjx
      obtain ⟨Al, cl, rfl, hcl, hml⟩ := hlj.slice
      rw [hlf] at hb
      have HLEN := Lib.hid (show l1.length ≤ 140737488355328 by have := HSZ.out.row; omega)
      have hbq : ((m : Int) == (st.row.length : Int)) = true := by rw [beq_iff_eq]; omega
      have hp1 := hb.at_ 1 (.slice A st.row.length c) rfl
      have hp2 := hb.at_ 2 (.pointer (some ⟨ad j, 0, none⟩)) rfl
      have hk0 := hbj.at_ 0 (.int .i64 (st.nd j).kind) rfl
      rw [hkd] at hk0
      have hq10 := hbj.at_ 10 (.int .u8 (st.nd j).fence.char.toNat) rfl
      have hq11 := hbj.at_ 11 (.int .i64 (st.nd j).fence.count) rfl
      have hq12 := hbj.at_ 12 (.int .i64 (st.nd j).fence.indent) rfl
      have hq13 := hbj.at_ 13 (.string (S (st.nd j).fence.info)) rfl
      have en := fun w => ends_any (st.nd j).fence l1 w HLEN.out
      unfold FO.val at en
      have EN := Lib.hid en
      have st0 := fun w => strip_any l1 (st.nd j).fence.indent w HLEN.out (by omega) (by have := hfi j; omega)
      have ST := Lib.hid st0
      have hnep : some p ≠ (Value.slice Al (st.nd j).lines.length cl).ownBlock := fun e => role_ne HH1.out.own_p (hol _ e.symm) (by nofun) rfl
      have hnej : some (ad j) ≠ (Value.slice Al (st.nd j).lines.length cl).ownBlock := fun e => role_ne (HH1.out.own_n j hjx) (hol _ e.symm) (by nofun) rfl
      have NEP := Lib.hid hnep
      have NEJ := Lib.hid hnej
      have HBP0 := Lib.hid hb
      have HBJ0 := Lib.hid hbj
      have HLL0 := Lib.hid hlj
      have HKJ0 := Lib.hid hkj
      have HOL := Lib.hid hol
      have HOK := Lib.hid hok
      have HLEAF := Lib.hid hlf
      have HLN := Lib.hid (hln j)
      clear hr ho hb hbj hlj hkj hol hok hnep hnej hlf en st0 hme hof hkd
      go_wp2_with fail
      refine (EN.out _).mono ?_
      rintro e wq ⟨rfl, hbe⟩
      have HHQ := Lib.hid (HH1.out.below hbe)
      have HBQ := Lib.hid (HBEL.out.trans (hbe.mono HH1.out.size))
      have HBP := Lib.hid (HBP0.out.below hbe)
      have HBJ := Lib.hid (HBJ0.out.below hbe)
      have HLL := Lib.hid (HLL0.out.below hbe)
      have HKJ := Lib.hid (HKJ0.out.below hbe)
      clear hp1 hp2 hk0 hq10 hq11 hq12 hq13 hbe
      have hp2 := HBP.out.at_ 2 (.pointer (some ⟨ad j, 0, none⟩)) rfl
      have hl8 := HBJ.out.at_ 8 (.slice Al (st.nd j).lines.length cl) rfl
      have hi12 := HBJ.out.at_ 12 (.int .i64 (st.nd j).fence.indent) rfl
      have hln0 := HLN.out
      cases hen : ends (st.nd j).fence l1 with
      | true =>
        rw [hen] at HNX
        have hf2 := HBP.out.free 2
        have HFIN := Lib.hid (HHQ.out.setLeaf none)
        have HE5 := Lib.hid (show Below base w (wq.setCell ⟨p, 2, none⟩ (leafV ad none)) from HBQ.out.setCell HHQ.out.bp _)
        unfold leafV at HFIN HE5
        clear hen
        go_wp2
        refine bodyPost_ret (results_none rfl _ _ _) rfl ?_
        exact ⟨rfl, ⟨ad, own, fun _ _ => rfl, by rw [HNX.out]; exact HFIN.out⟩, HE5.out⟩
      | false =>
        rw [hen] at HNX
        clear hen
        go_wp2_with fail
        refine wpT_start 25 (fun w' : World => w'.cell? ⟨p, 2, none⟩ = some (.pointer (some ⟨ad j, 0, none⟩)) ∧ w'.cell? ⟨ad j, 8, none⟩ = some (.slice Al (st.nd j).lines.length cl) ∧ w'.cell? ⟨ad j, 12, none⟩ = some (.int .i64 (st.nd j).fence.indent)) (by kernel_rfl) 26 rfl #[false, false, false, false, false, false, false, false, false, false, false, false, false, false, false, false, false, false, false, false, false, false, false, false, false, false] rfl ?_
        have hS0 : (fun w' : World => w'.cell? ⟨p, 2, none⟩ = some (.pointer (some ⟨ad j, 0, none⟩)) ∧ w'.cell? ⟨ad j, 8, none⟩ = some (.slice Al (st.nd j).lines.length cl) ∧ w'.cell? ⟨ad j, 12, none⟩ = some (.int .i64 (st.nd j).fence.indent)) (World.drew _) := ⟨(hp2 : (World.drew wq).cell? _ = _), (hl8 : (World.drew wq).cell? _ = _), (hi12 : (World.drew wq).cell? _ = _)⟩
        refine' wpT_take 0 (v := _) rfl (by kernel_rfl) (by kernel_rfl) (by kernel_rfl) (fun _ _ _ h => h) (by rfl) ?_ (by assumption) #[true, false, false, false, false, false, false, false, false, false, false, false, false, false, false, false, false, false, false, false, false, false, false, false, false, false] rfl ?_
        rotate_left
        · (intro w hSw; (try dsimp only at hSw); go_simp; first | done | (with_reducible rfl))
        (try simp only [Act.put, List.setIfInBounds_toArray, List.set_cons_zero, List.set_cons_succ])
        refine' wpT_take 1 (v := _) rfl (by kernel_rfl) (by kernel_rfl) (by kernel_rfl) (fun _ _ _ h => h) (by rfl) ?_ (by assumption) #[true, true, false, false, false, false, false, false, false, false, false, false, false, false, false, false, false, false, false, false, false, false, false, false, false, false] rfl ?_
        rotate_left
        · (intro w hSw; (try dsimp only at hSw); go_simp; first | done | (with_reducible rfl))
        (try simp only [Act.put, List.setIfInBounds_toArray, List.set_cons_zero, List.set_cons_succ])
        refine' wpT_take 2 (v := _) rfl (by kernel_rfl) (by kernel_rfl) (by kernel_rfl) (fun _ _ _ h => h) (by rfl) ?_ (by assumption) #[true, true, true, false, false, false, false, false, false, false, false, false, false, false, false, false, false, false, false, false, false, false, false, false, false, false] rfl ?_
        rotate_left
        · (intro w hSw; (try dsimp only at hSw); go_simp; first | done | (with_reducible rfl))
        (try simp only [Act.put, List.setIfInBounds_toArray, List.set_cons_zero, List.set_cons_succ])
        refine' wpT_take 3 (v := _) rfl (by kernel_rfl) (by kernel_rfl) (by kernel_rfl) (fun _ _ _ h => h) (by rfl) ?_ (by assumption) #[true, true, true, true, false, false, false, false, false, false, false, false, false, false, false, false, false, false, false, false, false, false, false, false, false, false] rfl ?_
        rotate_left
        · (intro w hSw; (try dsimp only at hSw); go_simp; first | done | (with_reducible rfl))
        (try simp only [Act.put, List.setIfInBounds_toArray, List.set_cons_zero, List.set_cons_succ])
        refine' wpT_take 4 (v := _) rfl (by kernel_rfl) (by kernel_rfl) (by kernel_rfl) (fun _ _ _ h => h) (by rfl) ?_ (by assumption) #[true, true, true, true, true, false, false, false, false, false, false, false, false, false, false, false, false, false, false, false, false, false, false, false, false, false] rfl ?_
        rotate_left
        · (intro w hSw; (try dsimp only at hSw); go_simp; first | done | (with_reducible rfl))
        (try simp only [Act.put, List.setIfInBounds_toArray, List.set_cons_zero, List.set_cons_succ])
        refine' wpT_take 5 (v := _) rfl (by kernel_rfl) (by kernel_rfl) (by kernel_rfl) (fun _ _ _ h => h) (by rfl) ?_ (by assumption) #[true, true, true, true, true, true, false, false, false, false, false, false, false, false, false, false, false, false, false, false, false, false, false, false, false, false] rfl ?_
        rotate_left
        · (intro w hSw; (try dsimp only at hSw); go_simp; first | done | (with_reducible rfl))
        (try simp only [Act.put, List.setIfInBounds_toArray, List.set_cons_zero, List.set_cons_succ])
        refine' wpT_take 6 (v := _) rfl (by kernel_rfl) (by kernel_rfl) (by kernel_rfl) (fun _ _ _ h => h) (by rfl) ?_ (by assumption) #[true, true, true, true, true, true, true, false, false, false, false, false, false, false, false, false, false, false, false, false, false, false, false, false, false, false] rfl ?_
        rotate_left
        · (intro w hSw; (try dsimp only at hSw); go_simp; first | done | (with_reducible rfl))
        (try simp only [Act.put, List.setIfInBounds_toArray, List.set_cons_zero, List.set_cons_succ])
        refine' wpT_take 7 (v := _) rfl (by kernel_rfl) (by kernel_rfl) (by kernel_rfl) (fun _ _ _ h => h) (by rfl) ?_ (by assumption) #[true, true, true, true, true, true, true, true, false, false, false, false, false, false, false, false, false, false, false, false, false, false, false, false, false, false] rfl ?_
        rotate_left
        · (intro w hSw; (try dsimp only at hSw); go_simp; first | done | (with_reducible rfl))
        (try simp only [Act.put, List.setIfInBounds_toArray, List.set_cons_zero, List.set_cons_succ])
        refine' wpT_take 8 (v := _) rfl (by kernel_rfl) (by kernel_rfl) (by kernel_rfl) (fun _ _ _ h => h) (by rfl) ?_ (by assumption) #[true, true, true, true, true, true, true, true, true, false, false, false, false, false, false, false, false, false, false, false, false, false, false, false, false, false] rfl ?_
        rotate_left
        · (intro w hSw; (try dsimp only at hSw); go_simp; first | done | (with_reducible rfl))
        (try simp only [Act.put, List.setIfInBounds_toArray, List.set_cons_zero, List.set_cons_succ])
        refine' wpT_take 9 (v := _) rfl (by kernel_rfl) (by kernel_rfl) (by kernel_rfl) (fun _ _ _ h => h) (by rfl) ?_ (by assumption) #[true, true, true, true, true, true, true, true, true, true, false, false, false, false, false, false, false, false, false, false, false, false, false, false, false, false] rfl ?_
        rotate_left
        · (intro w hSw; (try dsimp only at hSw); go_simp; first | done | (with_reducible rfl))
        (try simp only [Act.put, List.setIfInBounds_toArray, List.set_cons_zero, List.set_cons_succ])
        refine' wpT_take 10 (v := _) rfl (by kernel_rfl) (by kernel_rfl) (by kernel_rfl) (fun _ _ _ h => h) (by rfl) ?_ (by assumption) #[true, true, true, true, true, true, true, true, true, true, true, false, false, false, false, false, false, false, false, false, false, false, false, false, false, false] rfl ?_
        rotate_left
        · (intro w hSw; (try dsimp only at hSw); go_simp; first | done | (with_reducible rfl))
        (try simp only [Act.put, List.setIfInBounds_toArray, List.set_cons_zero, List.set_cons_succ])
        refine' wpT_take 11 (v := _) rfl (by kernel_rfl) (by kernel_rfl) (by kernel_rfl) (fun _ _ _ h => h) (by rfl) ?_ (by assumption) #[true, true, true, true, true, true, true, true, true, true, true, true, false, false, false, false, false, false, false, false, false, false, false, false, false, false] rfl ?_
        rotate_left
        · (intro w hSw; (try dsimp only at hSw); go_simp; first | done | (with_reducible rfl))
        (try simp only [Act.put, List.setIfInBounds_toArray, List.set_cons_zero, List.set_cons_succ])
        refine' wpT_take 12 (v := _) rfl (by kernel_rfl) (by kernel_rfl) (by kernel_rfl) (fun _ _ _ h => h) (by rfl) ?_ (by assumption) #[true, true, true, true, true, true, true, true, true, true, true, true, true, false, false, false, false, false, false, false, false, false, false, false, false, false] rfl ?_
        rotate_left
        · (intro w hSw; (try dsimp only at hSw); go_simp; first | done | (with_reducible rfl))
        (try simp only [Act.put, List.setIfInBounds_toArray, List.set_cons_zero, List.set_cons_succ])
        refine' wpT_take 13 (v := _) rfl (by kernel_rfl) (by kernel_rfl) (by kernel_rfl) (fun _ _ _ h => h) (by rfl) ?_ (by assumption) #[true, true, true, true, true, true, true, true, true, true, true, true, true, true, false, false, false, false, false, false, false, false, false, false, false, false] rfl ?_
        rotate_left
        · (intro w hSw; (try dsimp only at hSw); go_simp; first | done | (with_reducible rfl))
        (try simp only [Act.put, List.setIfInBounds_toArray, List.set_cons_zero, List.set_cons_succ])
        refine' wpT_take 14 (v := _) rfl (by kernel_rfl) (by kernel_rfl) (by kernel_rfl) (fun _ _ _ h => h) (by rfl) ?_ (by assumption) #[true, true, true, true, true, true, true, true, true, true, true, true, true, true, true, false, false, false, false, false, false, false, false, false, false, false] rfl ?_
        rotate_left
        · (intro w hSw; (try dsimp only at hSw); go_simp; first | done | (with_reducible rfl))
        (try simp only [Act.put, List.setIfInBounds_toArray, List.set_cons_zero, List.set_cons_succ])
        refine' wpT_take 15 (v := _) rfl (by kernel_rfl) (by kernel_rfl) (by kernel_rfl) (fun _ _ _ h => h) (by rfl) ?_ (by assumption) #[true, true, true, true, true, true, true, true, true, true, true, true, true, true, true, true, false, false, false, false, false, false, false, false, false, false] rfl ?_
        rotate_left
        · (intro w hSw; (try dsimp only at hSw); go_simp; first | done | (with_reducible rfl))
        (try simp only [Act.put, List.setIfInBounds_toArray, List.set_cons_zero, List.set_cons_succ])
        refine' wpT_take 16 (v := _) rfl (by kernel_rfl) (by kernel_rfl) (by kernel_rfl) (fun _ _ _ h => h) (by rfl) ?_ (by assumption) #[true, true, true, true, true, true, true, true, true, true, true, true, true, true, true, true, true, false, false, false, false, false, false, false, false, false] rfl ?_
        rotate_left
        · (intro w hSw; (try dsimp only at hSw); go_simp; first | done | (with_reducible rfl))
        (try simp only [Act.put, List.setIfInBounds_toArray, List.set_cons_zero, List.set_cons_succ])
        refine' wpT_take 17 (v := _) rfl (by kernel_rfl) (by kernel_rfl) (by kernel_rfl) (fun _ _ _ h => h) (by rfl) ?_ (by assumption) #[true, true, true, true, true, true, true, true, true, true, true, true, true, true, true, true, true, true, false, false, false, false, false, false, false, false] rfl ?_
        rotate_left
        · (intro w hSw; (try dsimp only at hSw); go_simp; first | done | (with_reducible rfl))
        (try simp only [Act.put, List.setIfInBounds_toArray, List.set_cons_zero, List.set_cons_succ])
        refine' wpT_take 18 (v := _) rfl (by kernel_rfl) (by kernel_rfl) (by kernel_rfl) (fun _ _ _ h => h) (by rfl) ?_ (by assumption) #[true, true, true, true, true, true, true, true, true, true, true, true, true, true, true, true, true, true, true, false, false, false, false, false, false, false] rfl ?_
        rotate_left
        · (intro w hSw; (try dsimp only at hSw); go_simp; first | done | (with_reducible rfl))
        (try simp only [Act.put, List.setIfInBounds_toArray, List.set_cons_zero, List.set_cons_succ])
        refine' wpT_take 19 (v := _) rfl (by kernel_rfl) (by kernel_rfl) (by kernel_rfl) (fun _ _ _ h => h) (by rfl) ?_ (by assumption) #[true, true, true, true, true, true, true, true, true, true, true, true, true, true, true, true, true, true, true, true, false, false, false, false, false, false] rfl ?_
        rotate_left
        · (intro w hSw; (try dsimp only at hSw); go_simp; first | done | (with_reducible rfl))
        (try simp only [Act.put, List.setIfInBounds_toArray, List.set_cons_zero, List.set_cons_succ])
        refine wpT_one 20 rfl (by decide) (by kernel_rfl) #[true, true, true, true, true, true, true, true, true, true, true, true, true, true, true, true, true, true, true, true, true, false, false, false, false, false] rfl (fun K hK => ?_)
        have HK := Lib.hid hK
        clear hK
        go_simp
        refine (ST.out _).mono ?_
        rintro e wb ⟨rfl, hbb⟩
        have HHB0 := Lib.hid (HHQ.out.drew.below hbb)
        have HROWB := Lib.hid ((HLL.out.move (w' := wq.drew) (fun _ _ => rfl)).below hbb)
        have HKIDB := Lib.hid ((HKJ.out.move (w' := wq.drew) (fun _ _ => rfl)).below hbb)
        have HBPB := Lib.hid (HBP.out.drew.below hbb)
        have HBJB := Lib.hid (HBJ.out.drew.below hbb)
        have hp2b := HBPB.out.at_ 2 (.pointer (some ⟨ad j, 0, none⟩)) rfl
        have hl8b := HBJB.out.at_ 8 (.slice Al (st.nd j).lines.length cl) rfl
        have hi12b := HBJB.out.at_ 12 (.int .i64 (st.nd j).fence.indent) rfl
        have HBB := Lib.hid (HBQ.out.drew.trans (hbb.mono HHQ.out.size))
        have HC1 := Lib.hid (And.intro hp2b (And.intro hl8b hi12b))
        have hsb := HHB0.out.size
        clear hbb
        refine (fun hS1 => HK.out _ _ hS1 ?_) ?_
        rotate_left
        · exact HC1.out
        clear HK
        (try simp only [Act.put, List.setIfInBounds_toArray, List.set_cons_zero, List.set_cons_succ])
        refine wpT_one 21 rfl (by decide) (by kernel_rfl) #[true, true, true, true, true, true, true, true, true, true, true, true, true, true, true, true, true, true, true, true, true, true, false, false, false, false] rfl (fun K hK => ?_)
        have HK := Lib.hid hK
        clear hK
        go_simp
        refine (fun hS1 => HK.out _ _ hS1 ?_) ?_
        rotate_left
        · exact ⟨(World.cell?_alloc_lt wb _ ⟨p, 2, none⟩ HBPB.out.lt).trans hp2b, (World.cell?_alloc_lt wb _ ⟨ad j, 8, none⟩ HBJB.out.lt).trans hl8b, (World.cell?_alloc_lt wb _ ⟨ad j, 12, none⟩ HBJB.out.lt).trans hi12b⟩
        clear HK
        (try simp only [Act.put, List.setIfInBounds_toArray, List.set_cons_zero, List.set_cons_succ])
        refine wpT_one 22 rfl (by decide) (by kernel_rfl) #[true, true, true, true, true, true, true, true, true, true, true, true, true, true, true, true, true, true, true, true, true, true, true, false, false, false] rfl (fun K hK => ?_)
        have HK := Lib.hid hK
        clear hK
        refine step_app_one wb rfl (.tmp 79) (.tmp 90) 43 rfl base 9 _ 1 16 Tryd.underlying43 infoStr rfl (by omega) (by omega) (.slice Al (st.nd j).lines.length cl) (st.nd j).lines.length (strVals (st.nd j).lines) #[.string (S (strip l1 (st.nd j).fence.indent))] rfl rfl rfl (by simp [Value.oneCell']) HROWB.out hsb (by omega) ?_
        intro v5 w5 hrow5 hg5 hat5
        obtain ⟨A5, c5, rfl, hc5, hm5⟩ := hrow5.slice
        have hp5 := (HBPB.out.grown hg5 NEP.out).at_ 2 (.pointer (some ⟨ad j, 0, none⟩)) rfl
        have hj5 := (HBJB.out.grown hg5 NEJ.out).at_ 8 (.slice Al (st.nd j).lines.length cl) rfl
        have hi5 := (HBJB.out.grown hg5 NEJ.out).at_ 12 (.int .i64 (st.nd j).fence.indent) rfl
        have hf5 := (HBJB.out.grown hg5 NEJ.out).free 8
        have HPJ5 := Lib.hid (And.intro hp5 (And.intro hj5 hi5))
        have HROW5 := Lib.hid hrow5
        have HG5 := Lib.hid hg5
        have HAT5 := Lib.hid hat5
        clear hrow5 hg5 hat5 hp5
        refine (fun hS1 => HK.out _ _ hS1 ?_) ?_
        rotate_left
        · exact HPJ5.out
        clear HK
        (try simp only [Act.put, List.setIfInBounds_toArray, List.set_cons_zero, List.set_cons_succ])
        refine' wpT_take 23 (v := _) rfl (by kernel_rfl) (by kernel_rfl) (by kernel_rfl) (fun _ _ _ h => h) (by rfl) ?_ (by assumption) #[true, true, true, true, true, true, true, true, true, true, true, true, true, true, true, true, true, true, true, true, true, true, true, true, false, false] rfl ?_
        rotate_left
        · (intro w hSw; (try dsimp only at hSw); go_simp; first | done | (with_reducible rfl))
        (try simp only [Act.put, List.setIfInBounds_toArray, List.set_cons_zero, List.set_cons_succ])
        refine' wpT_take 24 (v := _) rfl (by kernel_rfl) (by kernel_rfl) (by kernel_rfl) (fun _ _ _ h => h) (by rfl) ?_ (by assumption) #[true, true, true, true, true, true, true, true, true, true, true, true, true, true, true, true, true, true, true, true, true, true, true, true, true, false] rfl ?_
        rotate_left
        · (intro w hSw; (try dsimp only at hSw); go_simp; first | done | (with_reducible rfl))
        (try simp only [Act.put, List.setIfInBounds_toArray, List.set_cons_zero, List.set_cons_succ])
        refine wpT_last rfl (by kernel_rfl) (by kernel_rfl) (fun K hK => ?_)
        have HK := Lib.hid hK
        clear hK
        go_simp
        refine HK.out _ _ ?_
        clear HK
        have hfin := line_appended (t := strip l1 (st.nd j).fence.indent) (vk := vkj) HHB0.out hjx HBJB.out HKIDB.out HOK.out HOL.out HROW5.out HG5.out HAT5.out
        have E5 : Below base w (w5.setCell ⟨ad j, 8, none⟩ (.slice A5 ((st.nd j).lines.length + 1) c5)) :=
          Below.setCell (Below.grown HBB.out HG5.out hsb (fun k hk => (HROWB.out.blk k hk).1)) (HHB0.out.bn j hjx) _
        have HFIN := Lib.hid hfin
        have HE5 := Lib.hid E5
        generalize w5.setCell ⟨ad j, 8, none⟩ (.slice A5 ((st.nd j).lines.length + 1) c5) = w6 at hfin E5 HFIN HE5 ⊢
        clear hfin E5 HROW5 HG5 HAT5 hj5 hi5 hf5 HPJ5 hS1 hp2 hl8 hi12 hp2b hl8b hi12b HC1
        go_wp2
        refine bodyPost_ret (results_none rfl _ _ _) rfl ?_
        obtain ⟨own5, H5⟩ := HFIN.out
        exact ⟨rfl, ⟨ad, own5, fun _ _ => rfl, by rw [HNX.out]; exact H5⟩, HE5.out⟩
    · go_cut [1, 4, 56] from 5 (fun s k b wr => s = .string (S l1) ∧ k = .int .i64 (m : Int) ∧ b = .bool false ∧ wr = wc)
      case first =>
        obtain ⟨vr, hb, hr, ho⟩ := HH1.out.prs
        obtain ⟨A, c, rfl, hc, hm⟩ := hr.slice
        have hp1 := hb.at_ 1 (.slice A st.row.length c) rfl
        by_cases hme : m = st.row.length
        · have hbq : ((m : Int) == (st.row.length : Int)) = true := by rw [beq_iff_eq]; omega
          have hp2 := hb.at_ 2 (leafV ad st.leaf) rfl
          cases hlf : st.leaf with
          | none =>
            rw [hlf] at hp2
            unfold leafV at hp2
            clear hb hr ho hA hme hlf
            go_wp2
            go_meet
            case rel => exact ⟨rfl, rfl, rfl, rfl⟩
          | some j =>
            have hjx := HWF.out.leaf j hlf
            obtain ⟨vlj, vkj, hbj, _⟩ := HH1.out.nds j hjx
            have hk0 := hbj.at_ 0 (.int .i64 (st.nd j).kind) rfl
            have hk7 : ((((st.nd j).kind : Nat) : Int) == 7) = false := by
              rw [beq_eq_false_iff_ne]
              intro h
              exact hA ⟨hme, by unfold openFence; rw [hlf]; simp; omega⟩
            rw [hlf] at hp2
            unfold leafV ptr at hp2
            clear hb hr ho hA hme hlf hbj
            go_wp2
            go_meet
            case rel => exact ⟨rfl, rfl, rfl, rfl⟩
        · have hbq : ((m : Int) == (st.row.length : Int)) = false := by rw [beq_eq_false_iff_ne]; omega
          clear hb hr ho hA hme
          go_wp2
          go_meet
          case rel => exact ⟨rfl, rfl, rfl, rfl⟩
      case rest =>
        obtain ⟨rfl, rfl, rfl, rfl⟩ := hcut
        have BW := Lib.hid (begins_walk HH1.out HWF.out HSZ.out m hmr l1 (by have := HSZ.out.row; omega) hn (by have := HSZ.out.row; omega))
        have HNX := Lib.hid (show nextS st l = (if empty (beginsF m (40 - m) st l1 false).2.1 then leafS (if (beginsF m (40 - m) st l1 false).2.2 then (beginsF m (40 - m) st l1 false).1 else shutS (beginsF m (40 - m) st l1 false).1 m) none else match blockS (beginsF m (40 - m) st l1 false).1 m (beginsF m (40 - m) st l1 false).2.1 (beginsF m (40 - m) st l1 false).2.2 with | some st3 => st3 | none => textS (beginsF m (40 - m) st l1 false).1 m (beginsF m (40 - m) st l1 false).2.1 (beginsF m (40 - m) st l1 false).2.2) by
          unfold nextS
          rw [HRUN.out]
          dsimp only
          rw [if_neg (by intro h; rw [Bool.and_eq_true, beq_iff_eq] at h; exact hA h)]
          rfl)
        have hbr := begins_row m (40 - m) st l1 false hmr
        have HBR := Lib.hid hbr
        have HNN := Lib.hid (begins_nodes m (40 - m) st l1 false)
        have HLN2 := Lib.hid (show ∀ j, ((beginsF m (40 - m) st l1 false).1.nd j).lines.length ≤ 1000000000 from fun j => by have := (Small.beg HSM.out m (40 - m) l1 false j).2.2.1; omega)
        have hsl : st.row.length ≤ 1000000000 := by have := HSZ.out.row; omega
        unfold ptr at BW
        clear hbr hA
        go_wp2_with fail
        refine BW.out.mono ?_
        rintro e w2 ⟨st2, l2, fr, hbg, rfl, ⟨ad2, own2, had2, hh2⟩, wf2, sz2, hn2, hl2, hb2⟩
        rw [hbg] at HNX HBR HNN HLN2
        dsimp only at HNX HBR HNN HLN2
        have HH2 := Lib.hid hh2
        have HB2 := Lib.hid (HBEL.out.trans hb2)
        have HWF2 := Lib.hid wf2
        have HSZ2 := Lib.hid sz2
        have HAD2 := Lib.hid had2
        have EM := Lib.hid (empty_any l2 w2 (by omega))
        clear hbg hh2 hb2 wf2 sz2 had2
        go_wp2_with fail
        refine EM.out.mono ?_
        rintro e w3 ⟨rfl, rfl⟩
        cases he : empty l2 with
        | true =>
          rw [he] at HNX
          clear he
          cases fr with
          | true =>
            obtain ⟨vr2, hb2p, _, _⟩ := HH2.out.prs
            have hp2 := hb2p.at_ 2 (leafV ad2 st2.leaf) rfl
            have hf2 := hb2p.free 2
            have HFIN := Lib.hid (HH2.out.setLeaf none)
            have HE5 := Lib.hid (show Below base w (w2.setCell ⟨p, 2, none⟩ (leafV ad2 none)) from HB2.out.setCell HH2.out.bp _)
            unfold leafV at HFIN HE5
            clear hb2p
            go_wp2
            go_end0
            exact ⟨rfl, ⟨ad2, own2, HAD2.out, by rw [HNX.out]; exact HFIN.out⟩, HE5.out⟩
          | false =>
            have SH := Lib.hid (shut_any HH2.out m HBR.out)
            unfold ptr at SH
            go_wp2_with fail
            refine SH.out.mono ?_
            rintro e w4 ⟨rfl, hh4, hb4⟩
            obtain ⟨vr2, hb2p, _, _⟩ := hh4.prs
            have hp2 := hb2p.at_ 2 (leafV ad2 (shutS st2 m).leaf) rfl
            have hf2 := hb2p.free 2
            have HFIN := Lib.hid (hh4.setLeaf none)
            have HE5 := Lib.hid (show Below base w (w4.setCell ⟨p, 2, none⟩ (leafV ad2 none)) from (HB2.out.trans hb4).setCell hh4.bp _)
            unfold leafV at HFIN HE5
            clear hb2p hh4 hb4
            go_wp2
            go_end0
            exact ⟨rfl, ⟨ad2, own2, HAD2.out, by rw [HNX.out]; exact HFIN.out⟩, HE5.out⟩
        | false =>
          rw [he] at HNX
          clear he
          have BK := Lib.hid (block_walk HH2.out HWF2.out HSZ2.out m HBR.out l2 (by omega) fr (by omega))
          unfold ptr at BK
          go_wp2_with fail
          refine BK.out.mono ?_
          rintro e w4 ⟨rfl, ⟨ad4, own4, had4, hh4⟩, hb4⟩
          have HB4 := Lib.hid (HB2.out.trans hb4)
          have HAD4 := Lib.hid had4
          have HH4 := Lib.hid hh4
          clear had4 hh4 hb4
          cases hbs : blockS st2 m l2 fr with
          | some st3 =>
            rw [hbs] at HNX HH4
            clear hbs
            go_wp2
            go_end0
            exact ⟨rfl, ⟨ad4, own4, fun i hi => (HAD4.out i (by have := HNN.out; omega)).trans (HAD2.out i hi), by rw [HNX.out]; exact HH4.out⟩, HB4.out⟩
          | none =>
            rw [hbs] at HNX HH4
            have TX := Lib.hid (ptext_any (st := st2) HH4.out HWF2.out HSZ2.out m HBR.out l2 (by omega) fr (by omega) HLN2.out)
            unfold ptr at TX
            clear hbs
            go_wp2_with fail
            refine TX.out.mono ?_
            rintro e w5 ⟨rfl, ⟨ad5, own5, had5, hh5⟩, hb5⟩
            have HB5 := Lib.hid (HB4.out.trans hb5)
            have HAD5 := Lib.hid had5
            have HH5 := Lib.hid hh5
            clear had5 hh5 hb5
            go_wp2
            go_end0
            exact ⟨rfl, ⟨ad5, own5, fun i hi => (HAD5.out i (by have := HNN.out; omega)).trans ((HAD4.out i (by have := HNN.out; omega)).trans (HAD2.out i hi)), by rw [HNX.out]; exact HH5.out⟩, HB5.out⟩
end Go.Proofs.YtjgaobkgmheocaaDoor
