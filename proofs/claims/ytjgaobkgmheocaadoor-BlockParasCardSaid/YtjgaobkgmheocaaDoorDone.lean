/- block.done. -/
import Derived.Test.YtjgaobkgmheocaaDoorTree
import Derived.Deep.CutBlock
import Derived.Deep.CutRange
namespace Go.Proofs.YtjgaobkgmheocaaDoor
open Go Go.RowKit

def zeroBlk : Array Value := #[.int .i64 0, .int .i64 0, .string ⟨#[]⟩, .string ⟨#[]⟩, .int .i64 0, .slice none 0 0]
/-- Blocks from B + 2 on that are not the slice's. -/
def DD (B : Nat) (v : Value) (k : Nat) : Prop := B + 2 ≤ k ∧ v.ownBlock ≠ some k
/-- A kid's block has been appended. -/
theorem done_row {wo wb w5 : World} {B m : Nat} {vq v : Value} {xs : List Value} {ts : Nat → Tree} {cs : Array Value} {k lv : Nat} {t inf : List UInt8} {ln : Nat}
    (hrow : Row wo (B + 2) 31 6 vq m xs) (hts : TreesAt wo (DD B vq) m xs ts) (htr : TreeAt wb (fun k => wo.drew.heap.size ≤ k) (ts m) cs) (hrow5 : Row w5 (B + 2) 31 6 v (m + 1) (xs ++ cs.toList)) (hg : wb.grownBy w5 vq.ownBlock)
    (hat : v.ownBlock = vq.ownBlock ∨ ∃ g, v.ownBlock = some g ∧ wb.heap.size ≤ g) (hbb : Below wo.drew.heap.size wo.drew wb) (hwo : B + 2 ≤ wo.heap.size) (hblk : Blk w5 (B + 1) (blkCells k lv t inf ln vq) 31) (hz : Blk w5 B zeroBlk 31) :
    Blk (w5.setCell ⟨B + 1, 5, none⟩ v) (B + 1) (blkCells k lv t inf ln v) 31 ∧ Blk (w5.setCell ⟨B + 1, 5, none⟩ v) B zeroBlk 31 ∧ Row (w5.setCell ⟨B + 1, 5, none⟩ v) (B + 2) 31 6 v (m + 1) (xs ++ cs.toList) ∧
      TreesAt (w5.setCell ⟨B + 1, 5, none⟩ v) (DD B v) (m + 1) (xs ++ cs.toList) ts := by
  have hsz : wo.heap.size ≤ wb.heap.size := hbb.size
  have h6 : ∀ k, B + 2 ≤ k → k < wb.heap.size → some k ≠ vq.ownBlock → (w5.setCell ⟨B + 1, 5, none⟩ v).heap[k]? = wb.heap[k]? := fun k h1 h2 h3 =>
    (Below.heap_setCell _ _ _ _ (by show k ≠ B + 1; omega)).trans (hg.block k h2 h3)
  refine ⟨Blk.cast (hblk.set 5 v) rfl, hz.set_ne (by show B ≠ B + 1; omega) v, hrow5.set (fun k hk => by have := (hrow5.blk k hk).1; show k ≠ B + 1; omega) v, ?_⟩
  refine TreesAt.snoc (hts.move fun k hk hlt => ⟨(h6 k hk.1 (by omega) (fun e => hk.2 e.symm)).trans (hbb.block k hlt), hk.1, ?g1⟩) (htr.move fun k hk hlt => ⟨h6 k (Nat.le_trans hwo hk) hlt (fun e => ?g2), Nat.le_trans hwo hk, ?g3⟩)
  case g1 =>
    rcases hat with h | ⟨g, h, hge⟩
    · rw [h]; exact hk.2
    · rw [h]; intro e; injection e with e; omega
  case g2 =>
    have h1 := (hrow.blk k e.symm).2.1
    have h2 : wo.heap.size ≤ k := hk
    omega
  case g3 =>
    have h2 : wo.heap.size ≤ k := hk
    rcases hat with h | ⟨g, h, hge⟩
    · rw [h]; intro e; have := (hrow.blk k e).2.1; omega
    · rw [h]; intro e; injection e with e; omega
theorem TreesAt.congr {w : World} {D : Nat → Prop} {m : Nat} {xs : List Value} {ts ts' : Nat → Tree} (h : TreesAt w D m xs ts) (e : ∀ j, j < m → ts' j = ts j) : TreesAt w D m xs ts' :=
  ⟨h.1, fun j hj => by rw [e j hj]; exact h.2 j hj⟩
theorem done_end {wo w6 : World} {B n cq : Nat} {Aq : Option Addr} {xs : List Value} {kids : List Nat} {f : Nat} {st : PS} {k lv : Nat} {t inf : List UInt8} {ln : Nat} (hrow : Row wo (B + 2) 31 6 (.slice Aq n cq) n xs)
    (hts : TreesAt wo (DD B (.slice Aq n cq)) n xs (fun j => treeN st f (kids.getD j 0))) (hn : n = kids.length) (hm : ∀ k, B + 2 ≤ k → w6.heap[k]? = wo.heap[k]?) :
    TreeAt w6 (fun k => B ≤ k) (.node k lv t inf ln (kids.map (treeN st f))) (blkCells k lv t inf ln (.slice Aq n n)) := by
  have hc := hrow.clip rfl
  have hl : (kids.map (treeN st f)).length = n := by rw [List.length_map, hn]
  have h2 := (hts.congr (ts' := fun j => (kids.map (treeN st f)).getD j (.node 0 0 [] [] 0 [])) (fun j hj => by
    have hj' : j < kids.length := by omega
    simp [List.getD_eq_getElem?_getD, List.getElem?_eq_getElem hj'])).move (w' := w6) (D' := fun k => B ≤ k) (fun k hk _ => ⟨hm k hk.1, by have := hk.1; omega⟩)
  rw [← hl] at h2
  refine TreeAt.of (xs := xs) (b := B + 2) (by rw [hl]; exact hc.move fun k hk => hm k (hc.blk k hk).1) (fun g hg => by have := (hc.blk g hg).1; omega) h2
set_option maxRecDepth 100000 in
set_option maxHeartbeats 4000000 in
theorem done_any : ∀ (f : Nat) (w : World) (base p : Nat) (ad : Nat → Nat) (own : Nat → Role) (KP : Nat → Option Obj) (st : PS) (_ : Holds KP w base p ad own st) (_ : Wf st) (_ : ∀ i, (joinL (st.nd i).lines [10]).length ≤ 140737488355328) (_ : ∀ i, (st.nd i).lines.length ≤ 140737488355328) (_ : ∀ i, (st.nd i).kids.length ≤ 1000000000)
    (i : Nat) (_ : i < st.nodes.length) (_ : st.nodes.length ≤ i + f),
    Calls Tryd.prog 18 #[ptr (ad i)] w fun e w' => ∃ cs, e = .returned (.agg cs) ∧ TreeAt w' (fun k => w.heap.size ≤ k) (treeN st f i) cs ∧ Below w.heap.size w w' := by
  intro f
  induction f with
  | zero => intro w base p ad own KP st _ _ _ _ _ i hi hf; omega
  | succ f ih =>
    intro w base p ad own KP st H wf htx hln hkd i hi hf
    have IH := Lib.hid ih
    have HH := Lib.hid H
    have HWF := Lib.hid wf
    have HTX := Lib.hid htx
    have HLN := Lib.hid hln
    have HKD := Lib.hid hkd
    obtain ⟨vl, vk, hb, hl, hk, hol, hok⟩ := H.nds i hi
    obtain ⟨Al, cl, rfl, hcl, hml⟩ := hl.slice
    obtain ⟨Ak, ck, rfl, hck, hmk⟩ := hk.slice
    have HB := Lib.hid hb
    have HL := Lib.hid hl
    have HK := Lib.hid hk
    have hc0 := hb.at_ 0 (.int .i64 (st.nd i).kind) rfl
    have hc1 := hb.at_ 1 (.int .i64 (st.nd i).level) rfl
    have hc2 := hb.at_ 2 (.string (S (st.nd i).text)) rfl
    have hc3 := hb.at_ 3 (.string (S (st.nd i).info)) rfl
    have hc4 := hb.at_ 4 (.int .i64 (st.nd i).line) rfl
    have hc5 := hb.at_ 5 (.slice none 0 0) rfl
    have hlt := hb.lt
    have hkd0 := hkd i
    unfold ptr
    clear H wf htx hln hkd ih hb hl hk hol hok
    go_enter Tryd.func18, Tryd.ntmps18
    go_upto_region 1 with fail
    go_cut [3] from 4 (fun q wr => q = .pointer (some ⟨w.heap.size + 1, 0, none⟩) ∧ Blk wr (w.heap.size + 1) (blkCells (st.nd i).kind (st.nd i).level (st.nd i).text (st.nd i).info (st.nd i).line (.slice none 0 0)) 31 ∧ Blk wr w.heap.size zeroBlk 31 ∧ Below w.heap.size w wr)
    case first =>
      go_wp2
      go_meet
      case rel =>
        refine ⟨rfl, ?_, (Blk.new w zeroBlk 31).alloc _, ((Below.refl _ _).alloc (Nat.le_refl _) _).alloc (by simp) _⟩
        have h := Blk.new (w.alloc (.cells zeroBlk 31)) (blkCells (st.nd i).kind (st.nd i).level (st.nd i).text (st.nd i).info (st.nd i).line (.slice none 0 0)) 31
        rw [World.size_alloc] at h
        exact h
    case rest =>
      obtain ⟨rfl, hblk, hz, hbel⟩ := hcut
      obtain ⟨w1, rfl⟩ : ∃ x : World, x = wc := ⟨_, rfl⟩
      clear hc0 hc1 hc2 hc3 hc4 hc5 hlt
      have HBLK1 := Lib.hid hblk
      have HZ1 := Lib.hid hz
      have HB1 := Lib.hid hbel
      have hk0 := hblk.at_ 0 (.int .i64 (st.nd i).kind) rfl
      clear hblk hz hbel
      go_upto_block 0 with fail
      go_cut [] from 4 (fun wr => Blk wr (w.heap.size + 1) (blkCells (st.nd i).kind (st.nd i).level (textOf (st.nd i)) (st.nd i).info (st.nd i).line (.slice none 0 0)) 31 ∧ Blk wr w.heap.size zeroBlk 31 ∧ Below w.heap.size w wr)
      case first =>
        have hn8 := (HB.out.below HB1.out).at_ 8 (.slice Al (st.nd i).lines.length cl) rfl
        by_cases h4 : (st.nd i).kind = 4
        · have HT4 := Lib.hid (show textOf (st.nd i) = Lib.join (st.nd i).lines [10] by unfold textOf; rw [if_pos h4])
          have hq4 : ((((st.nd i).kind : Nat) : Int) == 4) = true := by rw [beq_iff_eq]; omega
          have SJ := Lib.hid (show Calls Tryd.prog 34 #[.slice Al (st.nd i).lines.length cl, .string ⟨#[10]⟩] w1 _ from sjoin_any base _ (st.nd i).lines [10] w1 (HL.out.below HB1.out) (Nat.le_trans (join_le _ _) (HTX.out i)) (HLN.out i))
          clear h4
          go_wp2_with fail
          refine SJ.out.mono ?_
          rintro e w2 ⟨rfl, hb2⟩
          have HBLK2 := Lib.hid (HBLK1.out.below hb2)
          have HZ2 := Lib.hid (HZ1.out.below hb2)
          have hp2 := HBLK2.out.at_ 2 (.string (S (st.nd i).text)) rfl
          have hf2 := HBLK2.out.free 2
          have HB2 := Lib.hid (HB1.out.trans (hb2.mono HB1.out.size))
          clear hb2
          go_wp2
          go_meet
          case rel => exact ⟨by rw [HT4.out]; exact Blk.cast (HBLK2.out.set 2 _) rfl, HZ2.out.set_ne (by show w.heap.size ≠ w.heap.size + 1; omega) _, HB2.out.setCell (by show w.heap.size ≤ w.heap.size + 1; omega) _⟩
        · have hq4 : ((((st.nd i).kind : Nat) : Int) == 4) = false := by rw [beq_eq_false_iff_ne]; omega
          by_cases h7 : (st.nd i).kind = 7
          · have HT4 := Lib.hid (show textOf (st.nd i) = joinL (st.nd i).lines [10] by unfold textOf; rw [if_neg h4, if_pos h7])
            have hq7 : ((((st.nd i).kind : Nat) : Int) == 7) = true := by rw [beq_iff_eq]; omega
            have SJ := Lib.hid (show Calls Tryd.prog 35 #[.slice Al (st.nd i).lines.length cl, .string ⟨#[10]⟩] w1 _ from join_any base _ (st.nd i).lines [10] w1 (HL.out.below HB1.out) (HTX.out i))
            clear h4 h7
            go_wp2_with fail
            refine SJ.out.mono ?_
            rintro e w2 ⟨v2, rfl, hba, hb2⟩
            have HBLK2 := Lib.hid (HBLK1.out.below hb2)
            have HZ2 := Lib.hid (HZ1.out.below hb2)
            have hp2 := HBLK2.out.at_ 2 (.string (S (st.nd i).text)) rfl
            have hf2 := HBLK2.out.free 2
            have HB2 := Lib.hid (HB1.out.trans (hb2.mono HB1.out.size))
            have kc : (convert 23 9 v2).run Tryd.prog w2 = .ok (.string (S (joinL (st.nd i).lines [10]))) w2 := conv_str hba _ _ _ Tryd.underlying23 Tryd.underlying5 Tryd.underlying9
            clear hb2 hba
            go_wp2
            go_meet
            case rel => exact ⟨by rw [HT4.out]; exact Blk.cast (HBLK2.out.set 2 _) rfl, HZ2.out.set_ne (by show w.heap.size ≠ w.heap.size + 1; omega) _, HB2.out.setCell (by show w.heap.size ≤ w.heap.size + 1; omega) _⟩
          · have HT4 := Lib.hid (show textOf (st.nd i) = (st.nd i).text by unfold textOf; rw [if_neg h4, if_neg h7])
            have hq7 : ((((st.nd i).kind : Nat) : Int) == 7) = false := by rw [beq_eq_false_iff_ne]; omega
            clear h4 h7
            go_wp2
            go_meet
            case rel => exact ⟨by rw [HT4.out]; exact HBLK1.out, HZ1.out, HB1.out⟩
      case rest =>
        obtain ⟨hblk, hz, hbel⟩ := hcut
        obtain ⟨w2, rfl⟩ : ∃ x : World, x = wc := ⟨_, rfl⟩
        clear hk0
        have hn9 := (HB.out.below hbel).at_ 9 (.slice Ak (st.nd i).kids.length ck) rfl
        have HBLK2 := Lib.hid hblk
        have HZ2 := Lib.hid hz
        have HB2 := Lib.hid hbel
        have HS2 := Lib.hid (show w.heap.size + 2 ≤ w2.heap.size by have := hblk.lt; omega)
        have hkl := hkd0
        unfold maxLen at hmk
        clear hblk hz hbel
        go_wp2
        go_loopw [34] (fun a wr => ∃ (m : Nat) (xs : List Value) (vq : Value), a = .int .i64 (m : Int) ∧ m ≤ (st.nd i).kids.length ∧
            Blk wr (w.heap.size + 1) (blkCells (st.nd i).kind (st.nd i).level (textOf (st.nd i)) (st.nd i).info (st.nd i).line vq) 31 ∧ Blk wr w.heap.size zeroBlk 31 ∧ Row wr (w.heap.size + 2) 31 6 vq m xs ∧
            TreesAt wr (DD w.heap.size vq) m xs (fun j => treeN st f ((st.nd i).kids.getD j 0)) ∧ Below w.heap.size w wr)
          (fun a _ => (st.nd i).kids.length - (intOf a).toNat)
        case atStart => exact ⟨0, [], .slice none 0 0, rfl, by omega, HBLK2.out, HZ2.out, Row.nil _ _ _ _, TreesAt.nil _ _ _, HB2.out⟩
        case round =>
          obtain ⟨m, xs, vq, rfl, hm, hblk, hz, hrow, hts, hbel⟩ := hrel
          obtain ⟨wo, rfl⟩ : ∃ x : World, x = wr := ⟨_, rfl⟩
          obtain ⟨Aq, cq, rfl, hcq, hmq⟩ := hrow.slice
          have HBLK := Lib.hid hblk
          have HZ := Lib.hid hz
          have HROW := Lib.hid hrow
          have HTS := Lib.hid hts
          have HBEL := Lib.hid hbel
          have hc5 := hblk.at_ 5 (.slice Aq m cq) rfl
          have HSO := Lib.hid (show w.heap.size + 2 ≤ wo.heap.size by have := hblk.lt; omega)
          clear hblk hz hrow hts hbel
          by_cases hlt : m < (st.nd i).kids.length
          · obtain ⟨g, cap, hv, hg1, hg2, hcc, hcm, hce, _⟩ := HK.out.at_ (by omega)
            injection hv with hA _ hC
            subst hA hC
            obtain ⟨x, hx⟩ : ∃ x, x = (st.nd i).kids[m] := ⟨_, rfl⟩
            have hxm : x ∈ (st.nd i).kids := by rw [hx]; exact List.getElem_mem _
            have hxb := HWF.out.kids i hi x hxm
            have hcell := hce m (ptr (ad x)) (by rw [ptrs_get _ _ _ hlt, hx])
            have hcw := (HBEL.out.cell (p := ⟨g, m, none⟩) hg2).trans hcell
            unfold ptr at hcw
            have HX := Lib.hid (show (st.nd i).kids.getD m 0 = x by rw [List.getD_eq_getElem?_getD, List.getElem?_eq_getElem hlt, hx]; rfl)
            have dn := IH.out wo.drew base p ad own KP st ((HH.out.below HBEL.out).drew) HWF.out HTX.out HLN.out HKD.out x hxb.2 (by omega)
            unfold ptr at dn
            have DN := Lib.hid dn
            have HCAP := Lib.hid (show (m + 1) * 80 ≤ 140737488355328 by omega)
            have hlt' : (m : Int) < ((st.nd i).kids.length : Int) := by omega
            clear hce hcell hx hxm hxb dn
            go_wp2_with fail
            refine wpT_start 7 (fun w' : World => w'.cell? ⟨w.heap.size + 1, 5, none⟩ = some (.slice Aq m cq)) (by kernel_rfl) 8 rfl #[false, false, false, false, false, false, false, false] rfl ?_
            have hS0 : (fun w' : World => w'.cell? ⟨w.heap.size + 1, 5, none⟩ = some (.slice Aq m cq)) (World.drew _) := (hc5 : (World.drew wo).cell? _ = _)
            refine' wpT_take 0 (v := _) rfl (by kernel_rfl) (by kernel_rfl) (by kernel_rfl) (fun _ _ _ h => h) (by rfl) ?_ (by assumption) #[true, false, false, false, false, false, false, false] rfl ?_
            rotate_left
            · (intro w hSw; (try dsimp only at hSw); go_simp; first | done | (with_reducible rfl))
            (try simp only [Act.put, List.setIfInBounds_toArray, List.set_cons_zero, List.set_cons_succ])
            refine' wpT_take 1 (v := _) rfl (by kernel_rfl) (by kernel_rfl) (by kernel_rfl) (fun _ _ _ h => h) (by rfl) ?_ (by assumption) #[true, true, false, false, false, false, false, false] rfl ?_
            rotate_left
            · (intro w hSw; (try dsimp only at hSw); go_simp; first | done | (with_reducible rfl))
            (try simp only [Act.put, List.setIfInBounds_toArray, List.set_cons_zero, List.set_cons_succ])
            refine' wpT_take 2 (v := _) rfl (by kernel_rfl) (by kernel_rfl) (by kernel_rfl) (fun _ _ _ h => h) (by rfl) ?_ (by assumption) #[true, true, true, false, false, false, false, false] rfl ?_
            rotate_left
            · (intro w hSw; (try dsimp only at hSw); go_simp; first | done | (with_reducible rfl))
            (try simp only [Act.put, List.setIfInBounds_toArray, List.set_cons_zero, List.set_cons_succ])
            refine wpT_one 3 rfl (by decide) (by kernel_rfl) #[true, true, true, true, false, false, false, false] rfl (fun K hK => ?_)
            have HK := Lib.hid hK
            clear hK
            go_simp
            refine DN.out.mono ?_
            rintro e wb ⟨cs, rfl, htree, hbb⟩
            obtain ⟨At, nt, rfl, ht1, ht2⟩ := htree.form
            have HT := Lib.hid htree
            have HBB := Lib.hid hbb
            have HBLKB := Lib.hid (HBLK.out.drew.below hbb)
            have HZB := Lib.hid (HZ.out.drew.below hbb)
            have HROWB := Lib.hid ((HROW.out.move (w' := wo.drew) (fun _ _ => rfl)).below hbb)
            have HC5 := Lib.hid (HBLKB.out.at_ 5 (.slice Aq m cq) rfl)
            have hsb : w.heap.size + 2 ≤ wb.heap.size := Nat.le_trans HSO.out hbb.size
            unfold blkCells
            clear htree hbb
            refine (fun hS1 => HK.out _ _ hS1 ?_) ?_
            rotate_left
            · exact HC5.out
            clear HK
            (try simp only [Act.put, List.setIfInBounds_toArray, List.set_cons_zero, List.set_cons_succ])
            refine wpT_one 4 rfl (by decide) (by kernel_rfl) #[true, true, true, true, true, false, false, false] rfl (fun K hK => ?_)
            have HK := Lib.hid hK
            clear hK
            go_simp
            refine (fun hS1 => HK.out _ _ hS1 ?_) ?_
            rotate_left
            · exact (World.cell?_alloc_lt wb _ ⟨w.heap.size + 1, 5, none⟩ (by show w.heap.size + 1 < _; omega)).trans HC5.out
            clear HK
            (try simp only [Act.put, List.setIfInBounds_toArray, List.set_cons_zero, List.set_cons_succ])
            refine wpT_one 5 rfl (by decide) (by kernel_rfl) #[true, true, true, true, true, true, false, false] rfl (fun K hK => ?_)
            have HK := Lib.hid hK
            clear hK
            refine step_app_one wb rfl (.tmp 39) (.tmp 42) 29 rfl (w.heap.size + 2) 31 _ 6 80 Tryd.underlying29 infoBlock rfl (by omega) (by omega) (.slice Aq m cq) m xs (blkCells (treeN st f x).kind (treeN st f x).level (treeN st f x).text (treeN st f x).info (treeN st f x).line (.slice At (treeN st f x).kids.length nt)) rfl rfl rfl (by simp [blkCells, Value.oneCell']) HROWB.out hsb HCAP.out ?_
            intro v5 w5 hrow5 hg5 hat5
            obtain ⟨A5, c5, rfl, hcc5, hm5⟩ := hrow5.slice
            have hne5 : some (w.heap.size + 1) ≠ (Value.slice Aq m cq).ownBlock := fun e => by have := (HROWB.out.blk _ e.symm).1; omega
            have hne6 : some w.heap.size ≠ (Value.slice Aq m cq).ownBlock := fun e => by have := (HROWB.out.blk _ e.symm).1; omega
            have HBLK5 := Lib.hid (HBLKB.out.grown hg5 hne5)
            have HZ5 := Lib.hid (HZB.out.grown hg5 hne6)
            have hf5 := HBLK5.out.free 5
            have HC55 := Lib.hid (HBLK5.out.at_ 5 (.slice Aq m cq) rfl)
            have hc55 := HC55.out
            have HROW5 := Lib.hid hrow5
            have HG5 := Lib.hid hg5
            have HAT5 := Lib.hid hat5
            clear hrow5 hg5 hat5 hne5 hne6
            refine (fun hS1 => HK.out _ _ hS1 ?_) ?_
            rotate_left
            · exact HC55.out
            clear HK
            (try simp only [Act.put, List.setIfInBounds_toArray, List.set_cons_zero, List.set_cons_succ])
            refine' wpT_take 6 (v := _) rfl (by kernel_rfl) (by kernel_rfl) (by kernel_rfl) (fun _ _ _ h => h) (by rfl) ?_ (by assumption) #[true, true, true, true, true, true, true, false] rfl ?_
            rotate_left
            · (intro w hSw; (try dsimp only at hSw); go_simp; first | done | (with_reducible rfl))
            (try simp only [Act.put, List.setIfInBounds_toArray, List.set_cons_zero, List.set_cons_succ])
            refine wpT_last rfl (by kernel_rfl) (by kernel_rfl) (fun K hK => ?_)
            have HK := Lib.hid hK
            clear hK
            go_simp
            refine HK.out _ _ ?_
            clear HK
            have HNEW := Lib.hid (done_row HROW.out HTS.out (by show TreeAt wb _ (treeN st f ((st.nd i).kids.getD m 0)) _; rw [HX.out]; exact HT.out) HROW5.out HG5.out HAT5.out HBB.out HSO.out HBLK5.out HZ5.out)
            have HB6 := Lib.hid (show Below w.heap.size w (w5.setCell ⟨w.heap.size + 1, 5, none⟩ (.slice A5 (m + 1) c5)) from Below.setCell (Below.grown (HBEL.out.drew.trans (HBB.out.mono (by have := HSO.out; show _ ≤ wo.heap.size; omega))) HG5.out (by omega) (fun k hk => by have := (HROWB.out.blk k hk).1; omega)) (by show w.heap.size ≤ w.heap.size + 1; omega) _)
            generalize w5.setCell ⟨w.heap.size + 1, 5, none⟩ (.slice A5 (m + 1) c5) = w6 at HNEW HB6 ⊢
            clear HROW5 HG5 HAT5 hf5 hc55 HC55 hS1 hc5 HC5
            go_wp2
            obtain ⟨n1, n2, n3, n4⟩ := HNEW.out
            go_roundw
            case rel => exact ⟨m + 1, _, .slice A5 (m + 1) c5, by go_num, by omega, n1, n2, n3, n4, HB6.out⟩
            case measure => simp [intOf]; omega
          · obtain rfl : m = (st.nd i).kids.length := by omega
            have hge' : ¬ (((st.nd i).kids.length : Nat) : Int) < ((st.nd i).kids.length : Int) := by omega
            have hc0 := HBLK.out.at_ 0 (.int .i64 (st.nd i).kind) rfl
            have hc1 := HBLK.out.at_ 1 (.int .i64 (st.nd i).level) rfl
            have hc2 := HBLK.out.at_ 2 (.string (S (textOf (st.nd i)))) rfl
            have hc3 := HBLK.out.at_ 3 (.string (S (st.nd i).info)) rfl
            have hc4 := HBLK.out.at_ 4 (.int .i64 (st.nd i).line) rfl
            have hf5 := HBLK.out.free 5
            have hz0 := HZ.out.at_ 0 (.int .i64 0) rfl
            have hz1 := HZ.out.at_ 1 (.int .i64 0) rfl
            have hz2 := HZ.out.at_ 2 (.string ⟨#[]⟩) rfl
            have hz3 := HZ.out.at_ 3 (.string ⟨#[]⟩) rfl
            have hz4 := HZ.out.at_ 4 (.int .i64 0) rfl
            have hz5 := HZ.out.at_ 5 (.slice none 0 0) rfl
            have hzf := HZ.out.free
            have hne : ¬ w.heap.size = w.heap.size + 1 := by omega
            have hne' : ¬ w.heap.size + 1 = w.heap.size := by omega
            go_wp2_with (go_at_call 36; refine (clip_blocks _ _ _ _ hcq hmq).mono ?_; rintro e w' ⟨rfl, rfl⟩)
            have hB : Blk _ w.heap.size _ 31 := ((((((((HZ.out.set_ne (p := ⟨w.heap.size + 1, 5, none⟩) hne (.slice Aq (st.nd i).kids.length (st.nd i).kids.length)).set 0 (.int .i64 (st.nd i).kind)).set 1 (.int .i64 (st.nd i).level)).set 2 (.string (S (textOf (st.nd i))))).set 3 (.string (S (st.nd i).info))).set 4 (.int .i64 (st.nd i).line)).set 5 (.slice Aq (st.nd i).kids.length (st.nd i).kids.length)))
            have hm6 : ∀ k, w.heap.size + 2 ≤ k → (((((((wo.setCell ⟨w.heap.size + 1, 5, none⟩ (.slice Aq (st.nd i).kids.length (st.nd i).kids.length)).setCell ⟨w.heap.size, 0, none⟩ (.int .i64 (st.nd i).kind)).setCell ⟨w.heap.size, 1, none⟩ (.int .i64 (st.nd i).level)).setCell ⟨w.heap.size, 2, none⟩ (.string (S (textOf (st.nd i))))).setCell ⟨w.heap.size, 3, none⟩ (.string (S (st.nd i).info))).setCell ⟨w.heap.size, 4, none⟩ (.int .i64 (st.nd i).line)).setCell ⟨w.heap.size, 5, none⟩ (.slice Aq (st.nd i).kids.length (st.nd i).kids.length)).heap[k]? = wo.heap[k]? := by
              intro k hk
              have e1 : k ≠ w.heap.size := by omega
              have e2 : k ≠ w.heap.size + 1 := by omega
              exact (Below.heap_setCell _ _ _ _ e1).trans ((Below.heap_setCell _ _ _ _ e1).trans ((Below.heap_setCell _ _ _ _ e1).trans ((Below.heap_setCell _ _ _ _ e1).trans ((Below.heap_setCell _ _ _ _ e1).trans ((Below.heap_setCell _ _ _ _ e1).trans (Below.heap_setCell _ _ _ _ e2))))))
            have hE := done_end (k := (st.nd i).kind) (lv := (st.nd i).level) (t := textOf (st.nd i)) (inf := (st.nd i).info) (ln := (st.nd i).line) HROW.out HTS.out rfl hm6
            have h0 : w.heap.size ≤ w.heap.size + 1 := by omega
            have h1 : w.heap.size ≤ w.heap.size := by omega
            exact ret_cell Tryd.results18 hB rfl Tryd.underlying31 rfl (by kernel_rfl) rfl ⟨_, rfl, hE, (((((((HBEL.out.setCell h0 _).setCell h1 _).setCell h1 _).setCell h1 _).setCell h1 _).setCell h1 _).setCell h1 _)⟩
end Go.Proofs.YtjgaobkgmheocaaDoor
