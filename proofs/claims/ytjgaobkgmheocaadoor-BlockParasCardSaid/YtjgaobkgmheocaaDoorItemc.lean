/- block.parser.item: the walk. -/
import Derived.Test.YtjgaobkgmheocaaDoorItemb
import Derived.Test.YtjgaobkgmheocaaDoorReg
namespace Go.Proofs.YtjgaobkgmheocaaDoor
open Go Go.RowKit

theorem ptrs_some (ad : Nat → Nat) {ids : List Nat} {k i : Nat} (h : ids[k]? = some i) : (ptrs ad ids)[k]? = some (ptr (ad i)) := by simp [ptrs, h]
set_option maxRecDepth 100000 in
set_option maxHeartbeats 4000000 in
theorem item_same {w : World} {base p : Nat} {ad1 : Nat → Nat} {own1 : Nat → Role} {KP : Nat → Option Obj} {st1 : PS} (H : Holds KP w base p ad1 own1 st1) (wf : Wf st1) (sign : UInt8) (inn : Nat) (ks : List Nat) (j : Nat)
    (hk : (st1.nd (inId st1 st1.row.length)).kids = ks ++ [j]) (hkind : (st1.nd j).kind = 2) (hsign : (st1.nd j).sign = sign)
    (hkl : ∀ i, (st1.nd i).kids.length ≤ 1000000000) (hrl : st1.row.length ≤ 1000000000) :
    Calls Tryd.prog 46 #[ptr p, .int .u8 sign.toNat, .int .i64 inn] w fun e w' => e = .returned (.tuple #[]) ∧ (∃ ad' own', (∀ i, i < st1.nodes.length → ad' i = ad1 i) ∧ Holds KP w' base p ad' own' (putItem st1 j inn)) ∧ Below base w w' := by
  have hx := inId_lt wf H.pos st1.row.length (Nat.le_refl _)
  have IN1 := Lib.hid (in_any H st1.row.length (Nat.le_refl _))
  generalize inId st1 st1.row.length = x at *
  have hjx : x < j ∧ j < st1.nodes.length := wf.kids x hx j (by rw [hk]; simp)
  obtain ⟨vr, hb, hr, ho⟩ := H.prs
  obtain ⟨Ar, cr, rfl, hcr, hmr⟩ := hr.slice
  have hc1 := hb.at_ 1 (.slice Ar st1.row.length cr) rfl
  have hc3 := hb.at_ 3 (.int .i64 st1.line) rfl
  obtain ⟨vlx, vkx, hbx, hlx, hkx, hox, hox'⟩ := H.nds x hx
  obtain ⟨vlj, vkj, hbj, hlj, hkj, hoj, hoj'⟩ := H.nds j hjx.2
  obtain ⟨gx, capx, rfl, _, _, hgcx, hgmx, hgex, _⟩ := hkx.at_ (by rw [hk]; simp)
  have hklen : (st1.nd x).kids.length = ks.length + 1 := by rw [hk]; simp
  have hd9 := hbx.at_ 9 (.slice (some ⟨gx, 0, none⟩) (st1.nd x).kids.length capx) rfl
  rw [hklen] at hd9
  have hdg := hgex ks.length (ptr (ad1 j)) (by rw [ptrs_get _ _ _ (by rw [hk]; simp)]; simp [hk])
  have hj0 := hbj.at_ 0 (.int .i64 (st1.nd j).kind) rfl
  have hj6 := hbj.at_ 6 (.int .u8 (st1.nd j).sign.toNat) rfl
  rw [hkind] at hj0
  rw [hsign] at hj6
  have hkl0 := hkl x
  rw [hklen] at hkl0
  have hklj := hkl j
  have HH := Lib.hid H
  have EE := Lib.hid (Below.refl base w)
  have WF := Lib.hid wf
  have HKLEN := Lib.hid (show (st1.nd x).kids.length = ks.length + 1 by rw [hk]; simp)
  have HGETJ := Lib.hid (show (st1.nd x).kids[ks.length]? = some j by rw [hk]; simp)
  unfold ptr at *
  clear hr ho hb hbx hlx hkx hox hox' hbj hlj hkj hoj hoj' hgex H wf hk hklen hkl
  go_enter Tryd.func46, Tryd.ntmps46
  go_wp2_with fail
  refine IN1.out.mono ?_
  rintro e w1 ⟨rfl, rfl⟩
  go_wp2_with fail
  clear hd9 hdg hj0 hj6 hc1 hc3
  have hlen2 : (newS st1 (itemNd st1.line inn)).nodes.length = st1.nodes.length + 1 := by simp [newS]
  obtain ⟨ad2, own2, hnew, had, H2⟩ := HH.out.new WF.out (itemNd st1.line inn) rfl rfl
  have wf2 := WF.out.new (itemNd st1.line inn) rfl
  have hjx : x < j ∧ j < st1.nodes.length := WF.out.kids x hx j (List.mem_of_getElem? HGETJ.out)
  obtain ⟨vlx, vkx, hbx, hlx, hkx, hox, hox'⟩ := H2.nds x (by rw [hlen2]; omega)
  rw [nd_new, if_neg (by omega)] at hbx hlx hkx
  obtain ⟨vlj, vkj, hbj, hlj, hkj, hoj, hoj'⟩ := H2.nds j (by rw [hlen2]; omega)
  rw [nd_new, if_neg (by omega)] at hbj hlj hkj
  obtain ⟨g, cap, rfl, hg1, hg2, hgc, hgm, hge, _⟩ := hkx.at_ (by rw [HKLEN.out]; omega)
  have hgj := hge ks.length (ptr (ad2 j)) (ptrs_some _ HGETJ.out)
  obtain ⟨Aj, cj, rfl, hcj, hmj⟩ := hkj.slice
  have hbj' := hbj
  have hl9 := hbx.at_ 9 (.slice (some ⟨g, 0, none⟩) (st1.nd x).kids.length cap) rfl
  have hl9j := hbj.at_ 9 (.slice Aj (st1.nd j).kids.length cj) rfl
  have hklen : (st1.nd x).kids.length = ks.length + 1 := HKLEN.out
  rw [hklen] at hl9
  rw [had x hx] at hl9 hbx
  rw [had j hjx.2] at hl9j hbj hgj
  unfold ptr at hgj
  have hf9j := hbj.free 9
  have hnjx : ¬ ad1 j = ad1 x := role_ne (HH.out.own_n j hjx.2) (HH.out.own_n x hx) (by intro e; injection e with e; omega)
  have hog : own2 g = .kd x := hox' g rfl
  have hojn : own2 (ad1 j) = .nd j := by rw [← had j hjx.2]; exact H2.own_n j (by rw [hlen2]; omega)
  have hoxn : own2 (ad1 x) = .nd x := by rw [← had x hx]; exact H2.own_n x (by rw [hlen2]; omega)
  have hnjg : ¬ ad1 j = g := role_ne hojn hog (by nofun)
  have hb3 := H2.prs
  obtain ⟨vr2, hbp2, hrp2, hop2⟩ := hb3
  have hopp := H2.own_p
  obtain ⟨w1a, hw1a⟩ : ∃ w1a, w1a = w.alloc (.cells (ndCells (itemNd st1.line inn) (.slice none 0 0) (.slice none 0 0)) 54) := ⟨_, rfl⟩
  have hnx : some (ad1 x) ≠ (Value.slice Aj (st1.nd j).kids.length cj).ownBlock := fun e => by have := hoj' _ e.symm; rw [hoxn] at this; cases this
  have hng : some g ≠ (Value.slice Aj (st1.nd j).kids.length cj).ownBlock := fun e => by have := hoj' _ e.symm; rw [hog] at this; injection this with this; omega
  rw [← hw1a] at H2 hbx hlx hkx hbj hlj hkj hgj hl9 hl9j hf9j hge hbp2 hrp2 hbj' hg2
  have hs2 := H2.size
  have far : ∀ o w2, (w1a.alloc o).drew.grownBy w2 (Value.slice Aj (st1.nd j).kids.length cj).ownBlock → w2.cell? ⟨ad1 x, 9, none⟩ = some (.slice (some ⟨g, 0, none⟩) (ks.length + 1) cap) ∧ w2.cell? ⟨g, ks.length, none⟩ = some (.pointer (some ⟨ad1 j, 0, none⟩)) ∧ w2.cell? ⟨ad1 j, 9, none⟩ = some (.slice Aj (st1.nd j).kids.length cj) ∧ w2.frozen? ⟨ad1 j, 9, none⟩ = false := by
    intro o w2 hg
    have q : ∀ b cs t, Blk w1a b cs t → some b ≠ (Value.slice Aj (st1.nd j).kids.length cj).ownBlock → Blk w2 b cs t := fun b cs t h hne => ((h.alloc o).drew).grown hg hne
    have nj : some (ad1 j) ≠ (Value.slice Aj (st1.nd j).kids.length cj).ownBlock := fun e => by have := hoj' _ e.symm; rw [hojn] at this; cases this
    refine ⟨?_, ?_, (q _ _ _ hbj nj).at_ 9 _ rfl, (q _ _ _ hbj nj).free 9⟩
    · have h := (q _ _ _ hbx hnx).at_ 9 (.slice (some ⟨g, 0, none⟩) (st1.nd x).kids.length cap) rfl
      rw [hklen] at h
      exact h
    · obtain ⟨_, _, cur, hbg⟩ := hkx.blk g rfl
      have h1 := (q _ _ _ hbg hng).cell ks.length
      have h2 := hbg.cell ks.length
      rw [h1, ← h2]
      exact hgj
  have HBJ' := Lib.hid hbj'
  have FAR := Lib.hid far
  have HKJ := Lib.hid hkj
  have HH2 := Lib.hid H2
  have HWF2 := Lib.hid wf2
  have HLJ := Lib.hid hlj
  have HOJ := Lib.hid hoj
  have HOJ' := Lib.hid hoj'
  have HNEW := Lib.hid hnew
  have HAD := Lib.hid had
  have HLT := Lib.hid (⟨World.block_lt_of_cell? _ _ hl9, World.block_lt_of_cell? _ _ hgj, World.block_lt_of_cell? _ _ hl9j⟩ : ad1 x < w1a.heap.size ∧ g < w1a.heap.size ∧ ad1 j < w1a.heap.size)
  have LT := HLT
  have HLEN2 := Lib.hid hlen2
  have HADJ := Lib.hid (had j hjx.2)
  have HJL := Lib.hid hjx.2
  have HW1A := Lib.hid hw1a
  have HNG := Lib.hid hng
  have E1a : Below base w w1a := by rw [hw1a]; exact EE.out.alloc (by have := HH.out.size; omega) _
  have HE1A := Lib.hid E1a
  have hsz1 : w1a.heap.size = w.heap.size + 1 := by rw [hw1a]; simp
  have HSZ1 := Lib.hid hsz1
  have hnd14 : ndCells (itemNd st1.line inn) (.slice none 0 0) (.slice none 0 0) = #[.int .i64 3, .int .i64 0, .string ⟨#[]⟩, .string ⟨#[]⟩, .int .i64 st1.line, .slice none 0 0, .int .u8 0, .int .i64 inn, .slice none 0 0, .slice none 0 0, .int .u8 0, .int .i64 0, .int .i64 0, .string ⟨#[]⟩] := rfl
  rw [hnd14] at hw1a
  have hs0 : base ≤ w1a.heap.size := hs2
  clear far hkj H2 wf2 hlj hoj hoj' hnew had hlen2 hbx hlx hkx hbj hge hbp2 hrp2 hop2 hox hox' hopp hbj' hklen E1a hsz1 hnx hng hog hojn hoxn hs2 hnd14 hw1a
  rw [show w.alloc (.cells #[.int .i64 3, .int .i64 0, .string ⟨#[]⟩, .string ⟨#[]⟩, .int .i64 st1.line, .slice none 0 0, .int .u8 0, .int .i64 inn, .slice none 0 0, .slice none 0 0, .int .u8 0, .int .i64 0, .int .i64 0, .string ⟨#[]⟩] 54) = w1a from HW1A.out.symm]
  refine wpT_start 22 (fun w' : World => w'.cell? ⟨ad1 x, 9, none⟩ = some (.slice (some ⟨g, 0, none⟩) (ks.length + 1) cap) ∧ w'.cell? ⟨g, ks.length, none⟩ = some (.pointer (some ⟨ad1 j, 0, none⟩)) ∧ w'.cell? ⟨ad1 j, 9, none⟩ = some (.slice Aj (st1.nd j).kids.length cj)) (by kernel_rfl) 23 rfl #[false, false, false, false, false, false, false, false, false, false, false, false, false, false, false, false, false, false, false, false, false, false, false] rfl ?_
  have hS0 : (fun w' : World => w'.cell? ⟨ad1 x, 9, none⟩ = some (.slice (some ⟨g, 0, none⟩) (ks.length + 1) cap) ∧ w'.cell? ⟨g, ks.length, none⟩ = some (.pointer (some ⟨ad1 j, 0, none⟩)) ∧ w'.cell? ⟨ad1 j, 9, none⟩ = some (.slice Aj (st1.nd j).kids.length cj)) (World.drew _) := ⟨(hl9 : (World.drew w1a).cell? _ = _), (hgj : (World.drew w1a).cell? _ = _), (hl9j : (World.drew w1a).cell? _ = _)⟩
  refine' wpT_take 0 (v := _) rfl (by kernel_rfl) (by kernel_rfl) (by kernel_rfl) (fun _ _ _ h => h) (by rfl) ?_ (by assumption) #[true, false, false, false, false, false, false, false, false, false, false, false, false, false, false, false, false, false, false, false, false, false, false] rfl ?_
  rotate_left
  · (intro w hSw; (try dsimp only at hSw); go_simp; first | done | (with_reducible rfl))
  (try simp only [Act.put, List.setIfInBounds_toArray, List.set_cons_zero, List.set_cons_succ])
  refine' wpT_take 1 (v := _) rfl (by kernel_rfl) (by kernel_rfl) (by kernel_rfl) (fun _ _ _ h => h) (by rfl) ?_ (by assumption) #[true, true, false, false, false, false, false, false, false, false, false, false, false, false, false, false, false, false, false, false, false, false, false] rfl ?_
  rotate_left
  · (intro w hSw; (try dsimp only at hSw); go_simp; first | done | (with_reducible rfl))
  (try simp only [Act.put, List.setIfInBounds_toArray, List.set_cons_zero, List.set_cons_succ])
  refine' wpT_take 2 (v := _) rfl (by kernel_rfl) (by kernel_rfl) (by kernel_rfl) (fun _ _ _ h => h) (by rfl) ?_ (by assumption) #[true, true, true, false, false, false, false, false, false, false, false, false, false, false, false, false, false, false, false, false, false, false, false] rfl ?_
  rotate_left
  · (intro w hSw; (try dsimp only at hSw); go_simp; first | done | (with_reducible rfl))
  (try simp only [Act.put, List.setIfInBounds_toArray, List.set_cons_zero, List.set_cons_succ])
  refine' wpT_take 3 (v := _) rfl (by kernel_rfl) (by kernel_rfl) (by kernel_rfl) (fun _ _ _ h => h) (by rfl) ?_ (by assumption) #[true, true, true, true, false, false, false, false, false, false, false, false, false, false, false, false, false, false, false, false, false, false, false] rfl ?_
  rotate_left
  · (intro w hSw; (try dsimp only at hSw); go_simp; first | done | (with_reducible rfl))
  (try simp only [Act.put, List.setIfInBounds_toArray, List.set_cons_zero, List.set_cons_succ])
  refine' wpT_take 4 (v := _) rfl (by kernel_rfl) (by kernel_rfl) (by kernel_rfl) (fun _ _ _ h => h) (by rfl) ?_ (by assumption) #[true, true, true, true, true, false, false, false, false, false, false, false, false, false, false, false, false, false, false, false, false, false, false] rfl ?_
  rotate_left
  · (intro w hSw; (try dsimp only at hSw); go_simp; first | done | (with_reducible rfl))
  (try simp only [Act.put, List.setIfInBounds_toArray, List.set_cons_zero, List.set_cons_succ])
  refine' wpT_take 5 (v := _) rfl (by kernel_rfl) (by kernel_rfl) (by kernel_rfl) (fun _ _ _ h => h) (by rfl) ?_ (by assumption) #[true, true, true, true, true, true, false, false, false, false, false, false, false, false, false, false, false, false, false, false, false, false, false] rfl ?_
  rotate_left
  · (intro w hSw; (try dsimp only at hSw); go_simp; first | done | (with_reducible rfl))
  (try simp only [Act.put, List.setIfInBounds_toArray, List.set_cons_zero, List.set_cons_succ])
  refine' wpT_take 6 (v := _) rfl (by kernel_rfl) (by kernel_rfl) (by kernel_rfl) (fun _ _ _ h => h) (by rfl) ?_ (by assumption) #[true, true, true, true, true, true, true, false, false, false, false, false, false, false, false, false, false, false, false, false, false, false, false] rfl ?_
  rotate_left
  · (intro w hSw; (try dsimp only at hSw); go_simp; first | done | (with_reducible rfl))
  (try simp only [Act.put, List.setIfInBounds_toArray, List.set_cons_zero, List.set_cons_succ])
  refine' wpT_take 7 (v := _) rfl (by kernel_rfl) (by kernel_rfl) (by kernel_rfl) (fun _ _ _ h => h) (by rfl) ?_ (by assumption) #[true, true, true, true, true, true, true, true, false, false, false, false, false, false, false, false, false, false, false, false, false, false, false] rfl ?_
  rotate_left
  · (intro w hSw; (try dsimp only at hSw); go_simp; first | done | (with_reducible rfl))
  (try simp only [Act.put, List.setIfInBounds_toArray, List.set_cons_zero, List.set_cons_succ])
  refine' wpT_take 8 (v := _) rfl (by kernel_rfl) (by kernel_rfl) (by kernel_rfl) (fun _ _ _ h => h) (by rfl) ?_ (by assumption) #[true, true, true, true, true, true, true, true, true, false, false, false, false, false, false, false, false, false, false, false, false, false, false] rfl ?_
  rotate_left
  · (intro w hSw; (try dsimp only at hSw); go_simp; first | done | (with_reducible rfl))
  (try simp only [Act.put, List.setIfInBounds_toArray, List.set_cons_zero, List.set_cons_succ])
  refine' wpT_take 9 (v := _) rfl (by kernel_rfl) (by kernel_rfl) (by kernel_rfl) (fun _ _ _ h => h) (by rfl) ?_ (by assumption) #[true, true, true, true, true, true, true, true, true, true, false, false, false, false, false, false, false, false, false, false, false, false, false] rfl ?_
  rotate_left
  · (intro w hSw; (try dsimp only at hSw); go_simp; first | done | (with_reducible rfl))
  (try simp only [Act.put, List.setIfInBounds_toArray, List.set_cons_zero, List.set_cons_succ])
  refine' wpT_take 10 (v := _) rfl (by kernel_rfl) (by kernel_rfl) (by kernel_rfl) (fun _ _ _ h => h) (by rfl) ?_ (by assumption) #[true, true, true, true, true, true, true, true, true, true, true, false, false, false, false, false, false, false, false, false, false, false, false] rfl ?_
  rotate_left
  · (intro w hSw; (try dsimp only at hSw); go_simp; first | done | (with_reducible rfl))
  (try simp only [Act.put, List.setIfInBounds_toArray, List.set_cons_zero, List.set_cons_succ])
  refine' wpT_take 11 (v := _) rfl (by kernel_rfl) (by kernel_rfl) (by kernel_rfl) (fun _ _ _ h => h) (by rfl) ?_ (by assumption) #[true, true, true, true, true, true, true, true, true, true, true, true, false, false, false, false, false, false, false, false, false, false, false] rfl ?_
  rotate_left
  · (intro w hSw; (try dsimp only at hSw); go_simp; first | done | (with_reducible rfl))
  (try simp only [Act.put, List.setIfInBounds_toArray, List.set_cons_zero, List.set_cons_succ])
  refine' wpT_take 12 (v := _) rfl (by kernel_rfl) (by kernel_rfl) (by kernel_rfl) (fun _ _ _ h => h) (by rfl) ?_ (by assumption) #[true, true, true, true, true, true, true, true, true, true, true, true, true, false, false, false, false, false, false, false, false, false, false] rfl ?_
  rotate_left
  · (intro w hSw; (try dsimp only at hSw); go_simp; first | done | (with_reducible rfl))
  (try simp only [Act.put, List.setIfInBounds_toArray, List.set_cons_zero, List.set_cons_succ])
  refine' wpT_take 13 (v := _) rfl (by kernel_rfl) (by kernel_rfl) (by kernel_rfl) (fun _ _ _ h => h) (by rfl) ?_ (by assumption) #[true, true, true, true, true, true, true, true, true, true, true, true, true, true, false, false, false, false, false, false, false, false, false] rfl ?_
  rotate_left
  · (intro w hSw; (try dsimp only at hSw); go_simp; first | done | (with_reducible rfl))
  (try simp only [Act.put, List.setIfInBounds_toArray, List.set_cons_zero, List.set_cons_succ])
  refine' wpT_take 14 (v := _) rfl (by kernel_rfl) (by kernel_rfl) (by kernel_rfl) (fun _ _ _ h => h) (by rfl) ?_ (by assumption) #[true, true, true, true, true, true, true, true, true, true, true, true, true, true, true, false, false, false, false, false, false, false, false] rfl ?_
  rotate_left
  · (intro w hSw; (try dsimp only at hSw); go_simp; first | done | (with_reducible rfl))
  (try simp only [Act.put, List.setIfInBounds_toArray, List.set_cons_zero, List.set_cons_succ])
  refine' wpT_take 15 (v := _) rfl (by kernel_rfl) (by kernel_rfl) (by kernel_rfl) (fun _ _ _ h => h) (by rfl) ?_ (by assumption) #[true, true, true, true, true, true, true, true, true, true, true, true, true, true, true, true, false, false, false, false, false, false, false] rfl ?_
  rotate_left
  · (intro w hSw; (try dsimp only at hSw); go_simp; first | done | (with_reducible rfl))
  (try simp only [Act.put, List.setIfInBounds_toArray, List.set_cons_zero, List.set_cons_succ])
  refine' wpT_take 16 (v := _) rfl (by kernel_rfl) (by kernel_rfl) (by kernel_rfl) (fun _ _ _ h => h) (by rfl) ?_ (by assumption) #[true, true, true, true, true, true, true, true, true, true, true, true, true, true, true, true, true, false, false, false, false, false, false] rfl ?_
  rotate_left
  · (intro w hSw; (try dsimp only at hSw); go_simp; first | done | (with_reducible rfl))
  (try simp only [Act.put, List.setIfInBounds_toArray, List.set_cons_zero, List.set_cons_succ])
  refine' wpT_take 17 (v := _) rfl (by kernel_rfl) (by kernel_rfl) (by kernel_rfl) (fun _ _ _ h => h) (by rfl) ?_ (by assumption) #[true, true, true, true, true, true, true, true, true, true, true, true, true, true, true, true, true, true, false, false, false, false, false] rfl ?_
  rotate_left
  · (intro w hSw; (try dsimp only at hSw); go_simp; first | done | (with_reducible rfl))
  (try simp only [Act.put, List.setIfInBounds_toArray, List.set_cons_zero, List.set_cons_succ])
  refine wpT_one 18 rfl (by decide) (by kernel_rfl) #[true, true, true, true, true, true, true, true, true, true, true, true, true, true, true, true, true, true, true, false, false, false, false] rfl (fun K hK => ?_)
  have HK := Lib.hid hK
  clear hK
  go_simp
  refine (fun hS1 => HK.out _ _ hS1 ?_) ?_
  rotate_left
  · exact And.intro ((World.cell?_alloc_lt w1a _ ⟨ad1 x, 9, none⟩ LT.out.1).trans hl9) (And.intro ((World.cell?_alloc_lt w1a _ ⟨g, ks.length, none⟩ LT.out.2.1).trans hgj) ((World.cell?_alloc_lt w1a _ ⟨ad1 j, 9, none⟩ LT.out.2.2).trans hl9j))
  clear HK
  (try simp only [Act.put, List.setIfInBounds_toArray, List.set_cons_zero, List.set_cons_succ])
  refine wpT_one 19 rfl (by decide) (by kernel_rfl) #[true, true, true, true, true, true, true, true, true, true, true, true, true, true, true, true, true, true, true, true, false, false, false] rfl (fun K hK => ?_)
  have HK := Lib.hid hK
  clear hK
  refine step_app_blk _ w1a.heap.size rfl (.tmp 84) (.tmp 86) 52 rfl base 51 _ 1 8 Tryd.underlying52 infoPtr rfl (by omega) (by omega) (.slice Aj (st1.nd j).kids.length cj) (st1.nd j).kids.length (ptrs ad2 (st1.nd j).kids) #[.pointer (some ⟨w.heap.size, 0, none⟩)] rfl rfl rfl (by simp [Value.oneCell']) ((Blk.new w1a _ _).drew) (HKJ.out.alloc _) (by simp; omega) (by omega) ?_
  intro v2 w2 hrow2 hg2 hat2
  obtain ⟨A2, c2, rfl, hc2', hm2⟩ := hrow2.slice
  have hq9 := (FAR.out _ _ hg2).2.2.1
  have hfq9 := (FAR.out _ _ hg2).2.2.2
  have hqs := FAR.out _ _ hg2
  have HQS := Lib.hid hqs
  have HROW2 := Lib.hid hrow2
  have HAT2 := Lib.hid hat2
  have HG2 := Lib.hid hg2
  clear hrow2 hat2 hqs hg2
  refine (fun hS1 => HK.out _ _ hS1 ?_) ?_
  rotate_left
  · exact And.intro HQS.out.1 (And.intro HQS.out.2.1 HQS.out.2.2.1)
  clear HK
  (try simp only [Act.put, List.setIfInBounds_toArray, List.set_cons_zero, List.set_cons_succ])
  refine' wpT_take 20 (v := _) rfl (by kernel_rfl) (by kernel_rfl) (by kernel_rfl) (fun _ _ _ h => h) (by rfl) ?_ (by assumption) #[true, true, true, true, true, true, true, true, true, true, true, true, true, true, true, true, true, true, true, true, true, false, false] rfl ?_
  rotate_left
  · (intro w hSw; (try dsimp only at hSw); go_simp; first | done | (with_reducible rfl))
  (try simp only [Act.put, List.setIfInBounds_toArray, List.set_cons_zero, List.set_cons_succ])
  refine' wpT_take 21 (v := _) rfl (by kernel_rfl) (by kernel_rfl) (by kernel_rfl) (fun _ _ _ h => h) (by rfl) ?_ (by assumption) #[true, true, true, true, true, true, true, true, true, true, true, true, true, true, true, true, true, true, true, true, true, true, false] rfl ?_
  rotate_left
  · (intro w hSw; (try dsimp only at hSw); go_simp; first | done | (with_reducible rfl))
  (try simp only [Act.put, List.setIfInBounds_toArray, List.set_cons_zero, List.set_cons_succ])
  refine wpT_last rfl (by kernel_rfl) (by kernel_rfl) (fun K hK => ?_)
  have HK := Lib.hid hK
  clear hK
  go_simp
  refine HK.out _ _ ?_
  clear HK
  have hndj : (newS st1 (itemNd st1.line inn)).nd j = st1.nd j := by rw [nd_new, if_neg (Nat.ne_of_lt HJL.out)]
  have hfin : ∃ own', Holds KP (w2.setCell ⟨ad1 j, 9, none⟩ (.slice A2 ((st1.nd j).kids.length + 1) c2)) base p ad2 own' (kidS (newS st1 (itemNd st1.line inn)) j st1.nodes.length) := by
    have hjlt := HJL.out
    rw [← HADJ.out]
    refine kid_appended (vl := vlj) (vk := .slice Aj (st1.nd j).kids.length cj) ((HH2.out.alloc _).drew) (by rw [HLEN2.out]; omega) (by rw [hndj]; exact (HBJ'.out.alloc _).drew) (by rw [hndj]; exact HLJ.out.alloc _) HOJ.out HOJ'.out (by rw [hndj, HNEW.out]; exact HROW2.out) HG2.out HAT2.out
  have E3 : Below base w (w2.setCell ⟨ad1 j, 9, none⟩ (.slice A2 ((st1.nd j).kids.length + 1) c2)) := by
    refine Below.setCell (Below.grown ((HE1A.out.alloc hs0 _).drew) HG2.out ?_ ?_) (HH.out.bn j HJL.out) _
    · have := hs0
      show base ≤ (World.alloc _ _).heap.size
      simp
      omega
    · intro k hk
      exact (HKJ.out.blk k hk).1
  generalize w2.setCell ⟨ad1 j, 9, none⟩ (.slice A2 ((st1.nd j).kids.length + 1) c2) = w3 at hfin E3 ⊢
  obtain ⟨own3, H3⟩ := hfin
  clear HROW2 HAT2 HG2 HQS hq9 hfq9 hc2' hm2 FAR HKJ HH2 HBJ' HLJ HOJ HOJ' HADJ HW1A HNG HE1A hS1 hl9 hgj hl9j hf9j HLT LT HSZ1
  obtain ⟨vr3, hb3, hr3, ho3⟩ := H3.prs
  have hrow3 : (kidS (newS st1 (itemNd st1.line inn)) j st1.nodes.length).row = st1.row := rfl
  rw [hrow3] at hr3
  obtain ⟨A3, c3, rfl, hc3, hm3⟩ := hr3.slice
  have hp1 := hb3.at_ 1 (.slice A3 st1.row.length c3) rfl
  have hp2 := hb3.at_ 2 (leafV ad2 (kidS (newS st1 (itemNd st1.line inn)) j st1.nodes.length).leaf) rfl
  have hpf2 := hb3.free 2
  have H4 := H3.setLeaf none
  have hb4 := hb3.set 2 (.pointer none)
  have hop3 := H3.own_p
  have hr4 := hr3.set (p := ⟨p, 2, none⟩) (fun k hk => role_ne (ho3 k hk) hop3 (by nofun)) (.pointer none)
  have hs4 := H4.size
  have E4 := E3.setCell (p := ⟨p, 2, none⟩) H3.bp (.pointer none)
  have far4 : ∀ w5, (w3.setCell ⟨p, 2, none⟩ (.pointer none)).grownBy w5 (Value.slice A3 st1.row.length c3).ownBlock → w5.cell? ⟨p, 1, none⟩ = some (.slice A3 st1.row.length c3) ∧ w5.frozen? ⟨p, 1, none⟩ = false := by
    intro w5 hg
    have q := hb4.grown hg (fun e => role_ne hop3 (ho3 _ e.symm) (by nofun) rfl)
    exact ⟨q.at_ 1 (.slice A3 st1.row.length c3) rfl, q.free 1⟩
  have HH4 := Lib.hid H4
  have HB4 := Lib.hid hb4
  have HR4 := Lib.hid hr4
  have HE4 := Lib.hid E4
  have HO3 := Lib.hid ho3
  have FAR4 := Lib.hid far4
  have HROW3 := Lib.hid hrow3
  have hbp3 := H3.bp
  clear hb3 hr3 ho3 H3 H4 hb4 hr4 E3 E4 hop3 far4 hrow3 hndj
  go_wp2_with (at_builtin; go_loud (refine app_one (w3.setCell ⟨p, 2, none⟩ (.pointer none)) rfl (.tmp 97) (.tmp 99) 52 rfl base 51 _ 1 8 Tryd.underlying52 infoPtr rfl (by omega) (by omega) (.slice A3 st1.row.length c3) st1.row.length (ptrs ad2 st1.row) #[.pointer (some ⟨w.heap.size, 0, none⟩)] rfl (by show Value.slice (some ⟨w3.heap.size, 0, none⟩) 1 1 = Value.slice (some ⟨(w3.setCell ⟨p, 2, none⟩ (.pointer none)).heap.size, 0, none⟩) 1 1; simp) rfl (by simp [Value.oneCell']) HR4.out hs4 (by omega) ?_); intro v5 w5 hrow5 hg5 hat5; obtain ⟨A5, c5, rfl, hc5, hm5⟩ := hrow5.slice; have hf9 := (FAR4.out w5 hg5).2; have hq9 := (FAR4.out w5 hg5).1; have HROW5 := Lib.hid hrow5; have HG5 := Lib.hid hg5; have HAT5 := Lib.hid hat5; clear hrow5 hg5 hat5)
  go_end0
  refine ⟨rfl, ?_, Below.setCell (Below.grown HE4.out HG5.out hs4 (fun k hk => (HR4.out.blk k hk).1)) hbp3 _⟩
  have hfin5 := row_appended (i := st1.nodes.length) (st := leafS (kidS (newS st1 (itemNd st1.line inn)) j st1.nodes.length) none) (vr := .slice A3 st1.row.length c3) HH4.out HB4.out HO3.out (by rw [HNEW.out]; exact HROW5.out) HG5.out HAT5.out
  obtain ⟨own5, H5⟩ := hfin5
  exact ⟨ad2, HAD.out, own5, H5⟩
end Go.Proofs.YtjgaobkgmheocaaDoor
