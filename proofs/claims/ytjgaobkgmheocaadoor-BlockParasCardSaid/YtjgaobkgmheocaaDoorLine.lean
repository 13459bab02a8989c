/- Contracts of package line. -/
import Derived.Test.YtjgaobkgmheocaaDoorCols
import Derived.Test.YtjgaobkgmheocaaDoorRow
import Derived.Test.YtjgaobkgmheocaaDoorSplit
namespace Go.Proofs.YtjgaobkgmheocaaDoor
open Go Go.RowKit

/-- A slice of bytes that is read. -/
def BytesAt (w : World) (v : Value) (l : List UInt8) : Prop :=
  ∃ A c, v = .slice A l.length c ∧ l.length ≤ c ∧ c ≤ 9223372036854775807 ∧ (0 < l.length → ∃ b off, A = some ⟨b, off, none⟩ ∧ ∀ k (h : k < l.length), w.cell? ⟨b, off + k, none⟩ = some (.int .u8 (l[k].toNat)))
theorem BytesAt.below {w w1 : World} {v : Value} {l : List UInt8} (h : BytesAt w v l) (hb : Below w.heap.size w w1) : BytesAt w1 v l := by
  obtain ⟨A, c, hv, hc, hm, h0⟩ := h
  refine ⟨A, c, hv, hc, hm, fun hl => ?_⟩
  obtain ⟨b, off, hA, hk⟩ := h0 hl
  exact ⟨b, off, hA, fun k h => (hb.cell (World.block_lt_of_cell? w _ (hk k h))).trans (hk k h)⟩
theorem clip_line (w : World) (A : Option Addr) (n c : Nat) (hn : n ≤ c) (hc : c ≤ maxLen) :
    Calls Tryd.prog 37 #[.slice A n c] w fun e w' => e = .returned (.slice A n n) ∧ w = w' := by
  unfold maxLen at hc
  go_enter Tryd.func37, Tryd.ntmps37
  go_wp2
  go_ret
  exact ⟨rfl, rfl⟩
theorem infoLine : (Tryd.prog.info? 67).map (fun i => (i.zero, i.size, i.bytes)) = some (some (.agg #[.int .i64 0, .int .i64 0, .int .i64 0]), 3, 24) := by kernel_rfl
theorem byte_ne (c : UInt8) (n : Nat) (h : n < 256) : ((c.toNat : Int) != (n : Int)) = (c != UInt8.ofNat n) := by
  unfold bne
  rw [byte_eq c n h]
set_option maxRecDepth 100000 in
set_option maxHeartbeats 2000000 in
theorem split_any (v : Value) (l : List UInt8) (w : World) (hv : BytesAt w v l) (hl : l.length ≤ 4294967296) :
    Calls Tryd.prog 22 #[v] w fun e w' => ∃ v', e = .returned v' ∧ Row w' w.heap.size 67 3 v' (splitL l).length (linesVals (splitL l)) ∧ Below w.heap.size w w' := by
  obtain ⟨A, c, rfl, hc, hm, hcell⟩ := hv
  go_enter Tryd.func22, Tryd.ntmps22
  go_wp2
  go_loopw [3, 4] (fun o a wr => ∃ (k f : Nat) (done : List (Nat × Nat × Nat)), a = .int .i64 (k : Int) ∧ k ≤ l.length ∧ l.length ≤ k + f ∧ splitL l = done ++ splitN l f k ∧ done.length ≤ k ∧ Row wr w.heap.size 67 3 o done.length (linesVals done) ∧ Below w.heap.size w wr)
    (fun _ a _ => l.length - (intOf a).toNat)
  case atStart => exact ⟨0, l.length, [], rfl, by omega, by omega, rfl, by simp, Row.nil _ _ _ _, Below.refl _ _⟩
  case round =>
    obtain ⟨k, f, done, rfl, hk, hf, hsp, hdl, hrow, hbel⟩ := hrel
    have HSP := Lib.hid hsp
    have HROW := Lib.hid hrow
    have HBEL := Lib.hid hbel
    have hbs := hbel.size
    clear hsp hrow hbel
    obtain ⟨A', c', rfl, hc', hm'⟩ := HROW.out.slice
    by_cases hlt : k < l.length
    · obtain ⟨b, off, rfl, hb⟩ := hcell (by omega)
      have hbw : ∀ j (h : j < l.length), wr.cell? ⟨b, off + j, none⟩ = some (.int .u8 (l[j].toNat)) := fun j h => (HBEL.out.cell (World.block_lt_of_cell? w _ (hb j h))).trans (hb j h)
      have HB := Lib.hid hbw
      have hge := lineEnd_ge l k
      have hle := lineEnd_le l k hk
      have hpre := lineEnd_pre l k
      have HPRE := Lib.hid hpre
      have hatE := lineEnd_at l k
      have HAT := Lib.hid hatE
      obtain ⟨f, rfl⟩ : ∃ f', f = f' + 1 := ⟨f - 1, by omega⟩
      have hng := next_gt l k hlt
      have hnl := lineNext_le l (lineEnd l k) hle
      have hstep : splitL l = (done ++ [(k, lineEnd l k, lineNext l (lineEnd l k))]) ++ splitN l f (lineNext l (lineEnd l k)) := by
        rw [HSP.out]
        simp only [splitN]
        rw [if_pos hlt]
        simp
      have HSTEP := Lib.hid hstep
      clear hbw hb hcell hpre hatE hstep
      obtain ⟨wo, rfl⟩ : ∃ wo : World, wo = wr := ⟨_, rfl⟩
      generalize lineEnd l k = E at *
      go_wp2
      go_loop [5] (fun a => ∃ j : Nat, k ≤ j ∧ j ≤ E ∧ a = .int .i64 (j : Int)) (fun a => E - (intOf a).toNat)
      case atStart => exact ⟨k, by omega, hge, rfl⟩
      case round =>
        obtain ⟨j, hj1, hj2, rfl⟩ := hrel
        by_cases hje : j < E
        · have hjl : j < l.length := by omega
          have hc1 := HB.out j hjl
          have hp := HPRE.out j hj1 hje hjl
          have e1 : (((l[j]).toNat : Int) != 10) = true := by rw [show (((l[j]).toNat : Int) != 10) = (l[j] != 10) from byte_ne _ 10 (by omega)]; simpa using hp.1
          have e2 : (((l[j]).toNat : Int) != 13) = true := by rw [show (((l[j]).toNat : Int) != 13) = (l[j] != 13) from byte_ne _ 13 (by omega)]; simpa using hp.2
          clear hp
          go_wp2
          go_round
          case rel => exact ⟨j + 1, by omega, by omega, by go_num⟩
          case measure => simp [intOf]; omega
        · obtain rfl : j = E := by omega
          by_cases hjl : j < l.length
          · have hc1 := HB.out j hjl
            have hmin : min ((j : Int) + 1) (l.length : Int) = (j : Int) + 1 := by omega
            rcases HAT.out hjl with h10 | h13
            · have hnx : lineNext l j = j + 1 := by unfold lineNext; rw [if_pos hjl, if_neg]; rw [List.getElem?_eq_getElem hjl, h10]; simp
              rw [hnx] at hng hnl
              have HNX := Lib.hid hnx
              have e1 : (((l[j]).toNat : Int) != 10) = false := by rw [h10]; rfl
              have e3 : (((l[j]).toNat : Int) == 13) = false := by rw [h10]; rfl
              clear hnx h10
              go_wp2_with (at_builtin; refine app_one wo rfl (.tmp 63) (.tmp 68) 64 rfl w.heap.size 67 _ 3 24 Tryd.underlying64 infoLine rfl (by omega) (by omega) (.slice A' done.length c') done.length (linesVals done) #[.int .i64 (k : Int), .int .i64 (j : Int), .int .i64 ((j : Int) + 1)] rfl rfl rfl (by simp [Value.oneCell']) HROW.out (by omega) (by omega) ?_; intro v1 w1 hrow1 hg1 hat1)
              have HROW1 := Lib.hid hrow1
              have HBEL1 := Lib.hid (HBEL.out.grown hg1 (by omega) (fun k hk => (HROW.out.blk k hk).1))
              clear hrow1 hg1 hat1
              go_wp2
              go_roundw
              case rel => exact ⟨(j + 1), f, done ++ [(k, j, (j + 1))], by go_num, by omega, by omega, by rw [HSTEP.out, HNX.out], by simp; omega, by rw [linesVals_snoc]; simpa [lineVals] using HROW1.out, HBEL1.out⟩
              case measure => simp [intOf]; omega
            · have e1 : (((l[j]).toNat : Int) != 10) = true := by rw [h13]; rfl
              have e2 : (((l[j]).toNat : Int) != 13) = false := by rw [h13]; rfl
              have e3 : (((l[j]).toNat : Int) == 13) = true := by rw [h13]; rfl
              by_cases hj1 : j + 1 < l.length
              · have hc2 := HB.out (j + 1) hj1
                by_cases h2 : l[j + 1] = 10
                · have hnx : lineNext l j = j + 2 := by unfold lineNext; rw [if_pos hjl, if_pos]; rw [List.getElem?_eq_getElem hjl, List.getElem?_eq_getElem hj1, h13, h2]; simp
                  rw [hnx] at hng hnl
                  have HNX := Lib.hid hnx
                  have e4 : (((l[j + 1]).toNat : Int) == 10) = true := by rw [h2]; rfl
                  clear hnx h13 h2
                  go_wp2_with (at_builtin; refine app_one wo rfl (.tmp 63) (.tmp 68) 64 rfl w.heap.size 67 _ 3 24 Tryd.underlying64 infoLine rfl (by omega) (by omega) (.slice A' done.length c') done.length (linesVals done) #[.int .i64 (k : Int), .int .i64 (j : Int), .int .i64 ((j : Int) + 1 + 1)] rfl rfl rfl (by simp [Value.oneCell']) HROW.out (by omega) (by omega) ?_; intro v1 w1 hrow1 hg1 hat1)
                  have HROW1 := Lib.hid hrow1
                  have HBEL1 := Lib.hid (HBEL.out.grown hg1 (by omega) (fun k hk => (HROW.out.blk k hk).1))
                  clear hrow1 hg1 hat1
                  go_wp2
                  go_roundw
                  case rel => exact ⟨(j + 2), f, done ++ [(k, j, (j + 2))], by go_num, by omega, by omega, by rw [HSTEP.out, HNX.out], by simp; omega, by rw [linesVals_snoc]; have h := HROW1.out; rw [show ((j : Int) + 1 + 1) = ((j + 2 : Nat) : Int) by omega] at h; simpa [lineVals] using h, HBEL1.out⟩
                  case measure => simp [intOf]; omega
                · have hnx : lineNext l j = j + 1 := by unfold lineNext; rw [if_pos hjl, if_neg]; rw [List.getElem?_eq_getElem hjl, List.getElem?_eq_getElem hj1]; simp [h2]
                  rw [hnx] at hng hnl
                  have HNX := Lib.hid hnx
                  have e4 : (((l[j + 1]).toNat : Int) == 10) = false := by rw [show (((l[j + 1]).toNat : Int) == 10) = (l[j + 1] == 10) from byte_eq _ 10 (by omega)]; simpa using h2
                  clear hnx h13 h2
                  go_wp2_with (at_builtin; refine app_one wo rfl (.tmp 63) (.tmp 68) 64 rfl w.heap.size 67 _ 3 24 Tryd.underlying64 infoLine rfl (by omega) (by omega) (.slice A' done.length c') done.length (linesVals done) #[.int .i64 (k : Int), .int .i64 (j : Int), .int .i64 ((j : Int) + 1)] rfl rfl rfl (by simp [Value.oneCell']) HROW.out (by omega) (by omega) ?_; intro v1 w1 hrow1 hg1 hat1)
                  have HROW1 := Lib.hid hrow1
                  have HBEL1 := Lib.hid (HBEL.out.grown hg1 (by omega) (fun k hk => (HROW.out.blk k hk).1))
                  clear hrow1 hg1 hat1
                  go_wp2
                  go_roundw
                  case rel => exact ⟨(j + 1), f, done ++ [(k, j, (j + 1))], by go_num, by omega, by omega, by rw [HSTEP.out, HNX.out], by simp; omega, by rw [linesVals_snoc]; simpa [lineVals] using HROW1.out, HBEL1.out⟩
                  case measure => simp [intOf]; omega
              · have hnx : lineNext l j = j + 1 := by unfold lineNext; rw [if_pos hjl, if_neg]; rw [List.getElem?_eq_none (by omega : l.length ≤ j + 1)]; simp
                rw [hnx] at hng hnl
                have HNX := Lib.hid hnx
                clear hnx h13
                go_wp2_with (at_builtin; refine app_one wo rfl (.tmp 63) (.tmp 68) 64 rfl w.heap.size 67 _ 3 24 Tryd.underlying64 infoLine rfl (by omega) (by omega) (.slice A' done.length c') done.length (linesVals done) #[.int .i64 (k : Int), .int .i64 (j : Int), .int .i64 ((j : Int) + 1)] rfl rfl rfl (by simp [Value.oneCell']) HROW.out (by omega) (by omega) ?_; intro v1 w1 hrow1 hg1 hat1)
                have HROW1 := Lib.hid hrow1
                have HBEL1 := Lib.hid (HBEL.out.grown hg1 (by omega) (fun k hk => (HROW.out.blk k hk).1))
                clear hrow1 hg1 hat1
                go_wp2
                go_roundw
                case rel => exact ⟨(j + 1), f, done ++ [(k, j, (j + 1))], by go_num, by omega, by omega, by rw [HSTEP.out, HNX.out], by simp; omega, by rw [linesVals_snoc]; simpa [lineVals] using HROW1.out, HBEL1.out⟩
                case measure => simp [intOf]; omega
          · have hmin : min ((j : Int) + 1) (l.length : Int) = (l.length : Int) := by omega
            obtain rfl : j = l.length := by omega
            have hnx : lineNext l l.length = l.length := by unfold lineNext; rw [if_neg (by omega)]
            rw [hnx] at hng hnl
            have HNX := Lib.hid hnx
            clear hnx
            go_wp2_with (at_builtin; refine app_one wo rfl (.tmp 63) (.tmp 68) 64 rfl w.heap.size 67 _ 3 24 Tryd.underlying64 infoLine rfl (by omega) (by omega) (.slice A' done.length c') done.length (linesVals done) #[.int .i64 (k : Int), .int .i64 (l.length : Int), .int .i64 (l.length : Int)] rfl rfl rfl (by simp [Value.oneCell']) HROW.out (by omega) (by omega) ?_; intro v1 w1 hrow1 hg1 hat1)
            have HROW1 := Lib.hid hrow1
            have HBEL1 := Lib.hid (HBEL.out.grown hg1 (by omega) (fun k hk => (HROW.out.blk k hk).1))
            clear hrow1 hg1 hat1
            go_wp2
            go_roundw
            case rel => exact ⟨l.length, f, done ++ [(k, l.length, l.length)], by go_num, by omega, by omega, by rw [HSTEP.out, HNX.out], by simp; omega, by rw [linesVals_snoc]; simpa [lineVals] using HROW1.out, HBEL1.out⟩
            case measure => simp [intOf]; omega
    · have hk' : k = l.length := by omega
      subst hk'
      have hsl : splitL l = done := by rw [HSP.out]; cases f <;> simp [splitN]
      have HSL := Lib.hid hsl
      clear hsl
      go_wp2_with (go_at_call 37; refine (clip_line _ _ _ _ hc' hm').mono ?_; rintro e w' ⟨rfl, rfl⟩)
      go_ret
      exact ⟨_, rfl, by rw [HSL.out]; exact HROW.out.clip rfl, HBEL.out⟩
end Go.Proofs.YtjgaobkgmheocaaDoor
