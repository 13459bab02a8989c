/- block.parser.text: the walk. -/
import Derived.Test.YtjgaobkgmheocaaDoorPtext
namespace Go.Proofs.YtjgaobkgmheocaaDoor
open Go Go.RowKit

set_option maxRecDepth 100000 in
set_option maxHeartbeats 4000000 in
theorem text_line {w : World} {base p : Nat} {ad : Nat → Nat} {own : Nat → Role} {KP : Nat → Option Obj} {st : PS} (H : Holds KP w base p ad own st) (wf : Wf st) (i : Nat) (s : List UInt8) (hs : s.length ≤ 140737488355328) (j : Nat) (hleaf : st.leaf = some j) (hkind : (st.nd j).kind = 4)
    (hln : (st.nd j).lines.length ≤ 1000000000) :
    Calls Tryd.prog 31 #[ptr p, .int .i64 i, .string (S s), .bool false] w fun e w' => e = .returned (.tuple #[]) ∧ (∃ own', Holds KP w' base p ad own' (lnS st j (trim s))) ∧ Below base w w' := by
  have hjx := wf.leaf j hleaf
  have TR := Lib.hid (trim_any s w (by omega))
  have HH := Lib.hid H
  clear H wf
  unfold ptr
  go_enter Tryd.func31, Tryd.ntmps31
  go_wp2_with fail
  refine TR.out.mono ?_
  rintro e wq ⟨rfl, hbq⟩
  have Hq := HH.out.below hbq
  have HBQ := Lib.hid (show Below base w wq from hbq.mono HH.out.size)
  obtain ⟨vr, hb, hr, ho⟩ := Hq.prs
  obtain ⟨vlj, vkj, hbj, hlj, hkj, hol, hok⟩ := Hq.nds j hjx
  obtain ⟨Al, cl, rfl, hcl, hml⟩ := hlj.slice
  rw [hleaf] at hb
  have hp2 := hb.at_ 2 (.pointer (some ⟨ad j, 0, none⟩)) rfl
  have hl8 := hbj.at_ 8 (.slice Al (st.nd j).lines.length cl) rfl
  have hk0 := hbj.at_ 0 (.int .i64 (st.nd j).kind) rfl
  rw [hkind] at hk0
  have hsq := Hq.size
  have hnep : some p ≠ (Value.slice Al (st.nd j).lines.length cl).ownBlock := fun e => role_ne Hq.own_p (hol _ e.symm) (by nofun) rfl
  have hnej : some (ad j) ≠ (Value.slice Al (st.nd j).lines.length cl).ownBlock := fun e => role_ne (Hq.own_n j hjx) (hol _ e.symm) (by nofun) rfl
  have NEP := Lib.hid hnep
  have NEJ := Lib.hid hnej
  have LT := Lib.hid (And.intro hb.lt hbj.lt)
  have HBP := Lib.hid hb
  have HBJ := Lib.hid hbj
  have HLL := Lib.hid hlj
  have HKJ := Lib.hid hkj
  have HOL := Lib.hid hol
  have HOK := Lib.hid hok
  have HHQ := Lib.hid Hq
  have HLEAF := Lib.hid hleaf
  clear hr ho hb hbj hlj hkj hol hok Hq hbq hnep hnej hleaf TR HH
  go_wp2_with fail
  refine wpT_start 16 (fun w' : World => w'.cell? ⟨p, 2, none⟩ = some (.pointer (some ⟨ad j, 0, none⟩)) ∧ w'.cell? ⟨ad j, 8, none⟩ = some (.slice Al (st.nd j).lines.length cl)) (by kernel_rfl) 17 rfl #[false, false, false, false, false, false, false, false, false, false, false, false, false, false, false, false, false] rfl ?_
  have hS0 : (fun w' : World => w'.cell? ⟨p, 2, none⟩ = some (.pointer (some ⟨ad j, 0, none⟩)) ∧ w'.cell? ⟨ad j, 8, none⟩ = some (.slice Al (st.nd j).lines.length cl)) (World.drew _) := ⟨(hp2 : (World.drew wq).cell? _ = _), (hl8 : (World.drew wq).cell? _ = _)⟩
  refine' wpT_take 0 (v := _) rfl (by kernel_rfl) (by kernel_rfl) (by kernel_rfl) (fun _ _ _ h => h) (by rfl) ?_ (by assumption) #[true, false, false, false, false, false, false, false, false, false, false, false, false, false, false, false, false] rfl ?_
  rotate_left
  · (intro w hSw; (try dsimp only at hSw); go_simp; first | done | (with_reducible rfl))
  (try simp only [Act.put, List.setIfInBounds_toArray, List.set_cons_zero, List.set_cons_succ])
  refine' wpT_take 1 (v := _) rfl (by kernel_rfl) (by kernel_rfl) (by kernel_rfl) (fun _ _ _ h => h) (by rfl) ?_ (by assumption) #[true, true, false, false, false, false, false, false, false, false, false, false, false, false, false, false, false] rfl ?_
  rotate_left
  · (intro w hSw; (try dsimp only at hSw); go_simp; first | done | (with_reducible rfl))
  (try simp only [Act.put, List.setIfInBounds_toArray, List.set_cons_zero, List.set_cons_succ])
  refine' wpT_take 2 (v := _) rfl (by kernel_rfl) (by kernel_rfl) (by kernel_rfl) (fun _ _ _ h => h) (by rfl) ?_ (by assumption) #[true, true, true, false, false, false, false, false, false, false, false, false, false, false, false, false, false] rfl ?_
  rotate_left
  · (intro w hSw; (try dsimp only at hSw); go_simp; first | done | (with_reducible rfl))
  (try simp only [Act.put, List.setIfInBounds_toArray, List.set_cons_zero, List.set_cons_succ])
  refine' wpT_take 3 (v := _) rfl (by kernel_rfl) (by kernel_rfl) (by kernel_rfl) (fun _ _ _ h => h) (by rfl) ?_ (by assumption) #[true, true, true, true, false, false, false, false, false, false, false, false, false, false, false, false, false] rfl ?_
  rotate_left
  · (intro w hSw; (try dsimp only at hSw); go_simp; first | done | (with_reducible rfl))
  (try simp only [Act.put, List.setIfInBounds_toArray, List.set_cons_zero, List.set_cons_succ])
  refine' wpT_take 4 (v := _) rfl (by kernel_rfl) (by kernel_rfl) (by kernel_rfl) (fun _ _ _ h => h) (by rfl) ?_ (by assumption) #[true, true, true, true, true, false, false, false, false, false, false, false, false, false, false, false, false] rfl ?_
  rotate_left
  · (intro w hSw; (try dsimp only at hSw); go_simp; first | done | (with_reducible rfl))
  (try simp only [Act.put, List.setIfInBounds_toArray, List.set_cons_zero, List.set_cons_succ])
  refine' wpT_take 5 (v := _) rfl (by kernel_rfl) (by kernel_rfl) (by kernel_rfl) (fun _ _ _ h => h) (by rfl) ?_ (by assumption) #[true, true, true, true, true, true, false, false, false, false, false, false, false, false, false, false, false] rfl ?_
  rotate_left
  · (intro w hSw; (try dsimp only at hSw); go_simp; first | done | (with_reducible rfl))
  (try simp only [Act.put, List.setIfInBounds_toArray, List.set_cons_zero, List.set_cons_succ])
  refine' wpT_take 6 (v := _) rfl (by kernel_rfl) (by kernel_rfl) (by kernel_rfl) (fun _ _ _ h => h) (by rfl) ?_ (by assumption) #[true, true, true, true, true, true, true, false, false, false, false, false, false, false, false, false, false] rfl ?_
  rotate_left
  · (intro w hSw; (try dsimp only at hSw); go_simp; first | done | (with_reducible rfl))
  (try simp only [Act.put, List.setIfInBounds_toArray, List.set_cons_zero, List.set_cons_succ])
  refine' wpT_take 7 (v := _) rfl (by kernel_rfl) (by kernel_rfl) (by kernel_rfl) (fun _ _ _ h => h) (by rfl) ?_ (by assumption) #[true, true, true, true, true, true, true, true, false, false, false, false, false, false, false, false, false] rfl ?_
  rotate_left
  · (intro w hSw; (try dsimp only at hSw); go_simp; first | done | (with_reducible rfl))
  (try simp only [Act.put, List.setIfInBounds_toArray, List.set_cons_zero, List.set_cons_succ])
  refine' wpT_take 8 (v := _) rfl (by kernel_rfl) (by kernel_rfl) (by kernel_rfl) (fun _ _ _ h => h) (by rfl) ?_ (by assumption) #[true, true, true, true, true, true, true, true, true, false, false, false, false, false, false, false, false] rfl ?_
  rotate_left
  · (intro w hSw; (try dsimp only at hSw); go_simp; first | done | (with_reducible rfl))
  (try simp only [Act.put, List.setIfInBounds_toArray, List.set_cons_zero, List.set_cons_succ])
  refine' wpT_take 9 (v := _) rfl (by kernel_rfl) (by kernel_rfl) (by kernel_rfl) (fun _ _ _ h => h) (by rfl) ?_ (by assumption) #[true, true, true, true, true, true, true, true, true, true, false, false, false, false, false, false, false] rfl ?_
  rotate_left
  · (intro w hSw; (try dsimp only at hSw); go_simp; first | done | (with_reducible rfl))
  (try simp only [Act.put, List.setIfInBounds_toArray, List.set_cons_zero, List.set_cons_succ])
  refine' wpT_take 10 (v := _) rfl (by kernel_rfl) (by kernel_rfl) (by kernel_rfl) (fun _ _ _ h => h) (by rfl) ?_ (by assumption) #[true, true, true, true, true, true, true, true, true, true, true, false, false, false, false, false, false] rfl ?_
  rotate_left
  · (intro w hSw; (try dsimp only at hSw); go_simp; first | done | (with_reducible rfl))
  (try simp only [Act.put, List.setIfInBounds_toArray, List.set_cons_zero, List.set_cons_succ])
  refine' wpT_take 11 (v := _) rfl (by kernel_rfl) (by kernel_rfl) (by kernel_rfl) (fun _ _ _ h => h) (by rfl) ?_ (by assumption) #[true, true, true, true, true, true, true, true, true, true, true, true, false, false, false, false, false] rfl ?_
  rotate_left
  · (intro w hSw; (try dsimp only at hSw); go_simp; first | done | (with_reducible rfl))
  (try simp only [Act.put, List.setIfInBounds_toArray, List.set_cons_zero, List.set_cons_succ])
  refine wpT_one 12 rfl (by decide) (by kernel_rfl) #[true, true, true, true, true, true, true, true, true, true, true, true, true, false, false, false, false] rfl (fun K hK => ?_)
  have HK := Lib.hid hK
  clear hK
  go_simp
  refine (fun hS1 => HK.out _ _ hS1 ?_) ?_
  rotate_left
  · exact And.intro ((World.cell?_alloc_lt wq _ ⟨p, 2, none⟩ LT.out.1).trans hp2) ((World.cell?_alloc_lt wq _ ⟨ad j, 8, none⟩ LT.out.2).trans hl8)
  clear HK
  (try simp only [Act.put, List.setIfInBounds_toArray, List.set_cons_zero, List.set_cons_succ])
  refine wpT_one 13 rfl (by decide) (by kernel_rfl) #[true, true, true, true, true, true, true, true, true, true, true, true, true, true, false, false, false] rfl (fun K hK => ?_)
  have HK := Lib.hid hK
  clear hK
  refine step_app_one wq.drew rfl (.tmp 40) (.tmp 42) 43 rfl base 9 _ 1 16 Tryd.underlying43 infoStr rfl (by omega) (by omega) (.slice Al (st.nd j).lines.length cl) (st.nd j).lines.length (strVals (st.nd j).lines) #[.string (S (trim s))] rfl rfl rfl (by simp [Value.oneCell']) HLL.out hsq (by omega) ?_
  intro v5 w5 hrow5 hg5 hat5
  obtain ⟨A5, c5, rfl, hc5, hm5⟩ := hrow5.slice
  have hp5 := (HBP.out.drew.grown hg5 NEP.out).at_ 2 (.pointer (some ⟨ad j, 0, none⟩)) rfl
  have hj5 := (HBJ.out.drew.grown hg5 NEJ.out).at_ 8 (.slice Al (st.nd j).lines.length cl) rfl
  have hf5 := (HBJ.out.drew.grown hg5 NEJ.out).free 8
  have HPJ5 := Lib.hid (And.intro hp5 hj5)
  have HROW5 := Lib.hid hrow5
  have HG5 := Lib.hid hg5
  have HAT5 := Lib.hid hat5
  clear hrow5 hg5 hat5 hp5
  refine (fun hS1 => HK.out _ _ hS1 ?_) ?_
  rotate_left
  · exact HPJ5.out
  clear HK
  (try simp only [Act.put, List.setIfInBounds_toArray, List.set_cons_zero, List.set_cons_succ])
  refine' wpT_take 14 (v := _) rfl (by kernel_rfl) (by kernel_rfl) (by kernel_rfl) (fun _ _ _ h => h) (by rfl) ?_ (by assumption) #[true, true, true, true, true, true, true, true, true, true, true, true, true, true, true, false, false] rfl ?_
  rotate_left
  · (intro w hSw; (try dsimp only at hSw); go_simp; first | done | (with_reducible rfl))
  (try simp only [Act.put, List.setIfInBounds_toArray, List.set_cons_zero, List.set_cons_succ])
  refine' wpT_take 15 (v := _) rfl (by kernel_rfl) (by kernel_rfl) (by kernel_rfl) (fun _ _ _ h => h) (by rfl) ?_ (by assumption) #[true, true, true, true, true, true, true, true, true, true, true, true, true, true, true, true, false] rfl ?_
  rotate_left
  · (intro w hSw; (try dsimp only at hSw); go_simp; first | done | (with_reducible rfl))
  (try simp only [Act.put, List.setIfInBounds_toArray, List.set_cons_zero, List.set_cons_succ])
  refine wpT_last rfl (by kernel_rfl) (by kernel_rfl) (fun K hK => ?_)
  have HK := Lib.hid hK
  clear hK
  go_simp
  refine HK.out _ _ ?_
  clear HK
  have hfin := line_appended (t := trim s) (vk := vkj) HHQ.out.drew hjx HBJ.out.drew HKJ.out HOK.out HOL.out HROW5.out HG5.out HAT5.out
  have E5 : Below base w (w5.setCell ⟨ad j, 8, none⟩ (.slice A5 ((st.nd j).lines.length + 1) c5)) :=
    Below.setCell (Below.grown HBQ.out.drew HG5.out hsq (fun k hk => (HLL.out.blk k hk).1)) (HHQ.out.bn j hjx) _
  have HFIN := Lib.hid hfin
  have HE5 := Lib.hid E5
  generalize w5.setCell ⟨ad j, 8, none⟩ (.slice A5 ((st.nd j).lines.length + 1) c5) = w6 at hfin E5 HFIN HE5 ⊢
  clear hfin E5 HROW5 HG5 HAT5 hj5 hf5 HPJ5 hS1 hp2 hl8
  go_wp2
  refine bodyPost_ret (results_none rfl _ _ _) rfl ?_
  exact ⟨rfl, HFIN.out, HE5.out⟩
end Go.Proofs.YtjgaobkgmheocaaDoor
