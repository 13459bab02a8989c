/- line.Texts, block.cut. -/
import Derived.Test.YtjgaobkgmheocaaDoorText
namespace Go.Proofs.YtjgaobkgmheocaaDoor
open Go Go.RowKit

theorem linesVals_get (L : List (Nat × Nat × Nat)) : ∀ (k : Nat) (h : k < L.length), (linesVals L)[k * 3]? = some (.int .i64 L[k].1) ∧ (linesVals L)[k * 3 + 1]? = some (.int .i64 L[k].2.1) ∧ (linesVals L)[k * 3 + 2]? = some (.int .i64 L[k].2.2) := by
  induction L with
  | nil => intro k h; simp at h
  | cons x r ih =>
    intro k h
    have e : linesVals (x :: r) = .int .i64 x.1 :: .int .i64 x.2.1 :: .int .i64 x.2.2 :: linesVals r := rfl
    rw [e]
    cases k with
    | zero => simp
    | succ k =>
      have := ih k (by simpa using h)
      simp only [Nat.succ_mul, List.getElem_cons_succ]
      simpa using this
theorem splitN_mem (l : List UInt8) : ∀ f k x, x ∈ splitN l f k → x.1 < l.length ∧ x.1 ≤ x.2.1 ∧ x.2.1 ≤ l.length ∧ x.2.1 ≤ x.2.2 ∧ x.2.2 ≤ l.length := by
  intro f
  induction f with
  | zero => intro k x hx; simp [splitN] at hx
  | succ f ih =>
    intro k x hx
    simp only [splitN] at hx
    split at hx
    · rename_i hk
      rcases List.mem_cons.1 hx with rfl | hx
      · have h1 := lineEnd_ge l k
        have h2 := lineEnd_le l k (by omega)
        exact ⟨hk, h1, h2, lineNext_ge _ _, lineNext_le _ _ h2⟩
      · exact ih _ x hx
    · simp at hx
theorem splitL_len (l : List UInt8) : (splitL l).length ≤ l.length := splitN_len _ _ _
theorem textsL_length (l : List UInt8) : (textsL l).length = (splitL l).length := by simp [textsL]
def strVals (l : List (List UInt8)) : List Value := l.map fun s => .string (S s)
theorem clip_strs (w : World) (A : Option Addr) (n c : Nat) (hn : n ≤ c) (hc : c ≤ maxLen) :
    Calls Tryd.prog 23 #[.slice A n c] w fun e w' => e = .returned (.slice A n n) ∧ w = w' := by
  unfold maxLen at hc
  go_enter Tryd.func23, Tryd.ntmps23
  go_wp2
  go_ret
  exact ⟨rfl, rfl⟩
theorem infoStr : (Tryd.prog.info? 9).map (fun i => (i.zero, i.size, i.bytes)) = some (some (.string ⟨#[]⟩), 1, 16) := by kernel_rfl
set_option maxRecDepth 100000 in
set_option maxHeartbeats 2000000 in
theorem texts_any (v : Value) (l : List UInt8) (w : World) (hv : BytesAt w v l) (hl : l.length ≤ 4294967296) :
    Calls Tryd.prog 14 #[v] w fun e w' => ∃ v', e = .returned v' ∧ Row w' w.heap.size 9 1 v' (textsL l).length (strVals (textsL l)) ∧ Below w.heap.size w w' := by
  have spl := fun W hv => split_any v l W hv hl
  have SPL := Lib.hid spl
  obtain ⟨A, c, hvv, hc, hm, hcell⟩ := id hv
  have HV := Lib.hid hv
  clear spl hv
  subst hvv
  have hsl := splitL_len l
  have htl := textsL_length l
  have hmem := splitN_mem l l.length 0
  have HMEM := Lib.hid hmem
  have HTL := Lib.hid htl
  clear hmem htl
  go_enter Tryd.func14, Tryd.ntmps14
  go_wp2_with fail
  refine (SPL.out _ HV.out).mono ?_
  rintro e w1 ⟨v1, rfl, hrow1, hb1⟩
  have hs1 := hb1.size
  obtain ⟨A1, c1, rfl, hc1, hm1⟩ := hrow1.slice
  have HROW1 := Lib.hid hrow1
  have HB1 := Lib.hid hb1
  clear hrow1 hb1
  go_wp2
  go_loopw [3, 9] (fun o a wr => ∃ (k : Nat), a = .int .i64 (k : Int) ∧ k ≤ (splitL l).length ∧ Row wr w1.heap.size 9 1 o k (strVals ((textsL l).take k)) ∧ Below w1.heap.size w1 wr)
    (fun _ a _ => (splitL l).length - (intOf a).toNat)
  case atStart => exact ⟨0, rfl, by omega, Row.nil _ _ _ _, Below.refl _ _⟩
  case round =>
    obtain ⟨k, rfl, hk, hrow, hbel⟩ := hrel
    have hbs := hbel.size
    obtain ⟨A', c', rfl, hc', hm'⟩ := hrow.slice
    have HROW := Lib.hid hrow
    have HBEL := Lib.hid hbel
    clear hrow hbel
    by_cases hlt : k < (splitL l).length
    · obtain ⟨g1, cap1, hv1, hg1, hg2, hcc, hcm, hce, hfr⟩ := HROW1.out.at_ (by omega)
      injection hv1 with hA1 _ hc1'
      subst hA1 hc1'
      obtain ⟨x, hx⟩ : ∃ x, x = (splitL l)[k] := ⟨_, rfl⟩
      obtain ⟨hx1, hx2, hx3, _, _⟩ := HMEM.out x (by rw [hx]; exact List.getElem_mem _)
      obtain ⟨hq0, hq1, hq2⟩ := linesVals_get (splitL l) k hlt
      rw [← hx] at hq0 hq1 hq2
      have hd0 := (HBEL.out.cell (p := ⟨g1, k * 3, none⟩) hg2).trans (hce _ _ hq0)
      have hd1 := (HBEL.out.cell (p := ⟨g1, k * 3 + 1, none⟩) hg2).trans (hce _ _ hq1)
      have hd2 := (HBEL.out.cell (p := ⟨g1, k * 3 + 2, none⟩) hg2).trans (hce _ _ hq2)
      clear hce hfr hq0 hq1 hq2
      obtain ⟨b, off, rfl, hb⟩ := hcell (by omega)
      have hbb : b < w.heap.size := World.block_lt_of_cell? w _ (hb x.1 (by omega))
      have htx : (textsL l).take (k + 1) = (textsL l).take k ++ [(l.take x.2.1).drop x.1] := by
        rw [List.take_succ_eq_append_getElem (by rw [HTL.out]; exact hlt)]
        simp [textsL, hx]
      have HTX := Lib.hid htx
      clear htx hx hcell
      obtain ⟨xa, xe, xn⟩ := x
      dsimp only at *
      obtain ⟨wo, rfl⟩ : ∃ wo : World, wo = wr := ⟨_, rfl⟩
      have kc : ∀ o, (convert 23 9 (.slice (some ⟨b, off + xa, none⟩) (xe - xa) (c - xa))).run Tryd.prog (wo.alloc o) = .ok (.string (S ((l.take xe).drop xa))) (wo.alloc o) := by
        intro o
        have hlen : ((l.take xe).drop xa).length = xe - xa := by rw [List.length_drop, List.length_take]; omega
        have hba : BytesAt (wo.alloc o) (.slice (some ⟨b, off + xa, none⟩) (xe - xa) (c - xa)) ((l.take xe).drop xa) := by
          refine ⟨_, _, by rw [hlen], by rw [hlen]; omega, by omega, fun _ => ⟨b, off + xa, rfl, fun j hj => ?_⟩⟩
          rw [hlen] at hj
          have h1 := hb (xa + j) (by omega)
          have h2 := (HB1.out.cell (p := ⟨b, off + (xa + j), none⟩) hbb).trans h1
          have h3 := (HBEL.out.cell (p := ⟨b, off + (xa + j), none⟩) (by show b < _; omega)).trans h2
          have h4 := (World.cell?_alloc_lt (w := wo) (a := ⟨b, off + (xa + j), none⟩) (o := o) (by show b < _; omega)).trans h3
          rw [show off + xa + j = off + (xa + j) by omega, h4]
          simp
        exact conv_str hba _ _ _ Tryd.underlying23 Tryd.underlying5 Tryd.underlying9
      have hxi : (xa : Int) ≤ (xe : Int) := by omega
      have hxj : (xe : Int) ≤ (c : Int) := by omega
      clear hb
      go_wp2_with (at_builtin; (refine app_one (wo.alloc (.cells #[.int .i64 (xa : Int), .int .i64 (xe : Int), .int .i64 (xn : Int)] 67)) rfl (.tmp 13) (.tmp 21) 43 rfl w1.heap.size 9 _ 1 16 Tryd.underlying43 infoStr rfl (by omega) (by omega) (.slice A' k c') k (strVals ((textsL l).take k)) #[.string (S ((l.take xe).drop xa))] rfl (by rw [World.size_alloc]; rfl) rfl (by simp [Value.oneCell']) (HROW.out.alloc _) (by simp; omega) (by omega) ?_); intro v2 w2 hrow2 hg2' hat2)
      have HROW2 := Lib.hid hrow2
      have HBEL2 := Lib.hid ((HBEL.out.alloc (by omega) _).grown hg2' (by simp; omega) (fun k hk => (HROW.out.blk k hk).1))
      clear hrow2 hg2' hat2 kc
      go_wp2
      go_roundw
      case rel => exact ⟨k + 1, by go_num, by omega, by rw [HTX.out]; simpa [strVals] using HROW2.out, HBEL2.out⟩
      case measure => simp [intOf]; omega
    · obtain rfl : k = (splitL l).length := by omega
      go_wp2_with (go_at_call 23; refine (clip_strs _ _ _ _ hc' hm').mono ?_; rintro e w' ⟨rfl, rfl⟩)
      go_ret
      have hr := HROW.out.clip rfl
      rw [← HTL.out, List.take_length] at hr
      exact ⟨_, rfl, by rw [← HTL.out]; exact hr.lower hs1, below_next HB1.out HBEL.out⟩
theorem cut_any (v : Value) (l : List UInt8) (w : World) (hv : BytesAt w v l) :
    Calls Tryd.prog 15 #[v] w fun e w' => ∃ v', e = .returned v' ∧ BytesAt w v' (l.take 65536) ∧ w = w' := by
  obtain ⟨A, c, rfl, hc, hm, h0⟩ := hv
  have hres : ∀ n : Nat, n = min l.length 65536 → BytesAt w (.slice A n c) (l.take 65536) := by
    intro n hn
    have hlen : (l.take 65536).length = n := by rw [List.length_take]; omega
    refine ⟨A, c, by rw [hlen], by omega, hm, fun hp => ?_⟩
    obtain ⟨b, off, hA, hk⟩ := h0 (by omega)
    refine ⟨b, off, hA, fun k h => ?_⟩
    rw [hk k (by omega)]
    simp
  have HRES := Lib.hid hres
  clear hres h0
  by_cases hb : l.length ≤ 65536
  · have hm1 : min (l.length : Int) 65536 = (l.length : Int) := by omega
    go_enter Tryd.func15, Tryd.ntmps15
    go_wp2
    go_ret
    exact ⟨_, rfl, HRES.out _ (by omega), rfl⟩
  · have hm1 : min (l.length : Int) 65536 = 65536 := by omega
    go_enter Tryd.func15, Tryd.ntmps15
    go_wp2
    go_ret
    exact ⟨_, rfl, HRES.out 65536 (by omega), rfl⟩
end Go.Proofs.YtjgaobkgmheocaaDoor
