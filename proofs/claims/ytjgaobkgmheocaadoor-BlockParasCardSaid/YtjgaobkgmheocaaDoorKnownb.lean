/- The law's own runs: the walk. -/
import Derived.Test.YtjgaobkgmheocaaDoorKnown
namespace Go.Proofs.YtjgaobkgmheocaaDoor
open Go Go.RowKit

theorem field_kids (a b c d e : Value) (A : Option Addr) (m n : Nat) (w : World) : (Instr.field 31 (.agg #[a, b, c, d, e, .slice A m n]) 5).run Tryd.prog w = .ok (.slice A m n) w := by kernel_rfl
set_option maxRecDepth 100000 in
set_option maxHeartbeats 4000000 in
theorem known_any (w : World) : Calls Tryd.prog 10 #[] w fun e w' => e = .returned (.bool true) ∧ Below w.heap.size w w' := by
  have PA := Lib.hid (fun (v : Value) (w : World) (h : BytesAt w v docA) => parse_A ▸ parse_any v docA w h)
  have PB := Lib.hid (fun (v : Value) (w : World) (h : BytesAt w v docB) => parse_B ▸ parse_any v docB w h)
  have PN := Lib.hid (fun (v : Value) (w : World) (h : BytesAt w v []) => parse_nil ▸ parse_any v [] w h)
  have PF := Lib.hid (fun (v : Value) (w : World) (h : BytesAt w v docF) => fences_F ▸ fences_any v docF w h)
  have kc := fun (w : World) (C : Array Value) (n c : Nat) => Lib.run_convert_bytes_const (P := Tryd.prog) w 23 5 C n c Tryd.underlying23 Tryd.underlying5
  go_enter Tryd.func10, Tryd.ntmps10
  go_upto_region 1 with fail
  go_cut [1] from 5 to 7 (fun p wr => ∃ b, p = .pointer (some ⟨b, 0, none⟩) ∧ CellsAt wr b 0 treeA ∧ Below w.heap.size w wr)
  case first =>
    go_wp2_with fail
    refine (PA.out _ _ (BytesAt.of_lit _ docA _ _ 15 rfl rfl (by decide))).mono ?_
    rintro e wa ⟨cs, rfl, ht, hb⟩
    have HT := Lib.hid ht
    have HB := Lib.hid (((Below.refl w.heap.size w).alloc (Nat.le_refl _) _).trans (hb.mono (by simp)))
    obtain ⟨A, n, rfl, h1, h2⟩ := ht.form
    have HC := Lib.hid (CellsAt.of (b := wa.heap.size) (ht.keep ((Below.refl wa.heap.size wa).alloc (Nat.le_refl _) _)) (Blk.new wa _ 31))
    have HB2 := Lib.hid (HB.out.alloc HB.out.size (.cells (blkCells treeA.kind treeA.level treeA.text treeA.info treeA.line (.slice A treeA.kids.length n)) 31))
    clear ht hb
    unfold blkCells
    go_wp2
    go_meet
    case rel => exact ⟨_, rfl, HC.out, HB2.out⟩
  case rest =>
    obtain ⟨ba, rfl, hca, hba⟩ := hcut
    obtain ⟨w1, rfl⟩ : ∃ x : World, x = wc := ⟨_, rfl⟩
    have HCA := Lib.hid hca
    have HBA := Lib.hid hba
    clear hca hba
    go_upto_region 2 with fail
    go_cut [2] from 5 to 10 (fun p wr => ∃ b, p = .pointer (some ⟨b, 0, none⟩) ∧ CellsAt wr b 0 treeB ∧ Below w1.heap.size w1 wr)
    case first =>
      go_wp2_with fail
      refine (PB.out _ _ (BytesAt.of_lit _ docB _ _ 19 rfl rfl (by decide))).mono ?_
      rintro e wa ⟨cs, rfl, ht, hb⟩
      have HT := Lib.hid ht
      have HB := Lib.hid (((Below.refl w1.heap.size w1).alloc (Nat.le_refl _) _).trans (hb.mono (by simp)))
      obtain ⟨A, n, rfl, h1, h2⟩ := ht.form
      have HC := Lib.hid (CellsAt.of (b := wa.heap.size) (ht.keep ((Below.refl wa.heap.size wa).alloc (Nat.le_refl _) _)) (Blk.new wa _ 31))
      have HB2 := Lib.hid (HB.out.alloc HB.out.size (.cells (blkCells treeB.kind treeB.level treeB.text treeB.info treeB.line (.slice A treeB.kids.length n)) 31))
      clear ht hb
      unfold blkCells
      go_wp2
      go_meet
      case rel => exact ⟨_, rfl, HC.out, HB2.out⟩
    case rest =>
      obtain ⟨bb, rfl, hcb, hbb⟩ := hcut
      obtain ⟨w2, rfl⟩ : ∃ x : World, x = wc := ⟨_, rfl⟩
      have HCB := Lib.hid hcb
      have HBB := Lib.hid hbb
      clear hcb hbb
      go_upto_region 3 with fail
      go_cut [3] from 5 to 13 (fun p wr => Row wr w2.heap.size 39 8 p 2 (placeVals placesF) ∧ Below w2.heap.size w2 wr)
      case first =>
        go_wp2_with fail
        refine (PF.out _ _ (BytesAt.of_lit _ docF _ _ 25 rfl rfl (by decide))).mono ?_
        rintro e wa ⟨v, rfl, ht, hb⟩
        have HT := Lib.hid (ht.lower (b := w2.heap.size) (by simp))
        have HB := Lib.hid (((Below.refl w2.heap.size w2).alloc (Nat.le_refl _) _).trans (hb.mono (by simp)))
        clear ht hb
        go_wp2
        go_meet
        case rel => exact ⟨HT.out, HB.out⟩
      case rest =>
        obtain ⟨hr, hbf⟩ := hcut
        obtain ⟨w3, rfl⟩ : ∃ x : World, x = wc := ⟨_, rfl⟩
        obtain ⟨gf, nf, rfl, _, _, hf1, hf2, hfc, _⟩ := hr.at_ (by omega)
        clear kc
        have ca := (HCA.out.below HBB.out).below hbf
        have cb := HCB.out.below hbf
        obtain ⟨g1, n1, a0, a1, a2, _, ak⟩ := ca.kids (by show 0 < 2; omega)
        have ka0 := ak 0 (by show 0 < 2; omega)
        have ka1 := ak 1 (by show 1 < 2; omega)
        obtain ⟨g2, n2, b0, b1, b2, _, bk⟩ := ka0.kids (by show 0 < 1; omega)
        have kb0 := bk 0 (by show 0 < 1; omega)
        obtain ⟨g3, n3, c0, c1, c2, _, ck⟩ := ka1.kids (by show 0 < 2; omega)
        have kc1 := ck 1 (by show 1 < 2; omega)
        obtain ⟨h1, m1, d0, d1, d2, _, dk⟩ := cb.kids (by show 0 < 2; omega)
        have kd0 := dk 0 (by show 0 < 2; omega)
        have kd1 := dk 1 (by show 1 < 2; omega)
        obtain ⟨h2, m2, e0, e1, e2, _, ek⟩ := kd0.kids (by show 0 < 1; omega)
        have ke0 := ek 0 (by show 0 < 1; omega)
        obtain ⟨h3, m3, f0, f1, f2, _, fk⟩ := ke0.kids (by show 0 < 2; omega)
        have kf1 := fk 1 (by show 1 < 2; omega)
        have x1 : w3.cell? ⟨ba, 5, none⟩ = some (.slice (some ⟨g1, 0, none⟩) 2 n1) := a0
        have x2 : w3.cell? ⟨g1, 5, none⟩ = some (.slice (some ⟨g2, 0, none⟩) 1 n2) := b0
        have x3 : w3.cell? ⟨g1, 11, none⟩ = some (.slice (some ⟨g3, 0, none⟩) 2 n3) := c0
        have x4 : w3.cell? ⟨g2, 2, none⟩ = some (.string ⟨#[97, 10, 98]⟩) := kb0.fields.2.2.1
        have x5 : w3.cell? ⟨g1, 6, none⟩ = some (.int .i64 2) := ka1.fields.1
        have x6 : w3.cell? ⟨g3, 10, none⟩ = some (.int .i64 4) := kc1.fields.2.2.2.2.1
        have y1 : w3.cell? ⟨bb, 5, none⟩ = some (.slice (some ⟨h1, 0, none⟩) 2 m1) := d0
        have y2 : w3.cell? ⟨h1, 5, none⟩ = some (.slice (some ⟨h2, 0, none⟩) 1 m2) := e0
        have y3 : w3.cell? ⟨h2, 5, none⟩ = some (.slice (some ⟨h3, 0, none⟩) 2 m3) := f0
        have y4 : w3.cell? ⟨h3, 6, none⟩ = some (.int .i64 7) := kf1.fields.1
        have y5 : w3.cell? ⟨h3, 8, none⟩ = some (.string ⟨#[98, 10]⟩) := kf1.fields.2.2.1
        have y6 : w3.cell? ⟨h3, 9, none⟩ = some (.string ⟨#[120]⟩) := kf1.fields.2.2.2.1
        have y7 : w3.cell? ⟨h1, 6, none⟩ = some (.int .i64 4) := kd1.fields.1
        have z0 : w3.cell? ⟨gf, 0, none⟩ = some (.int .i64 1) := hfc 0 _ rfl
        have z5 : w3.cell? ⟨gf, 5, none⟩ = some (.int .i64 2) := hfc 5 _ rfl
        have z6 : w3.cell? ⟨gf, 6, none⟩ = some (.int .i64 3) := hfc 6 _ rfl
        have z7 : w3.cell? ⟨gf, 7, none⟩ = some (.bool true) := hfc 7 _ rfl
        have z14 : w3.cell? ⟨gf, 14, none⟩ = some (.int .i64 6) := hfc 14 _ rfl
        have z15 : w3.cell? ⟨gf, 15, none⟩ = some (.bool false) := hfc 15 _ rfl
        have q1 : 2 ≤ n1 := a1
        have q2 : 1 ≤ n2 := b1
        have q3 : 2 ≤ n3 := c1
        have q4 : 2 ≤ m1 := d1
        have q5 : 1 ≤ m2 := e1
        have q6 : 2 ≤ m3 := f1
        have HBW := Lib.hid (((HBA.out.trans (HBB.out.mono HBA.out.size)).trans (hbf.mono (Nat.le_trans HBA.out.size HBB.out.size))))
        clear ca cb a0 a1 a2 ak ka0 ka1 b0 b1 b2 bk kb0 c0 c1 c2 ck kc1 d0 d1 d2 dk kd0 kd1 e0 e1 e2 ek ke0 f0 f1 f2 fk kf1 hr hbf hfc
        go_wp2_with fail
        refine (PN.out _ _ (BytesAt.nil _)).mono ?_
        rintro e wn ⟨cs, rfl, ht, hbn⟩
        obtain ⟨At, nt, rfl, _, _⟩ := ht.form
        have HE := Lib.hid (HBW.out.trans (hbn.mono HBW.out.size))
        clear ht hbn
        have kf := fun a b c d e => field_kids a b c d e At 0 nt wn
        unfold blkCells Tree.kids
        go_wp2
        go_ret
        exact ⟨rfl, HE.out⟩
end Go.Proofs.YtjgaobkgmheocaaDoor
