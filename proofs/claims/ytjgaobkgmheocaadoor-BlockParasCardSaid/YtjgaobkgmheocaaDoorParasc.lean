/- The law BlockParas: the walk. -/
import Derived.Test.YtjgaobkgmheocaaDoorParasb
namespace Go.Proofs.YtjgaobkgmheocaaDoor
open Go Go.RowKit

/-- A slice of uint16s that is read. -/
def U16At (w : World) (v : Value) (l : List Nat) : Prop :=
  ∃ A c, v = .slice A l.length c ∧ l.length ≤ c ∧ c ≤ 9223372036854775807 ∧ (∀ z, z ∈ l → z < 65536) ∧ (0 < l.length → ∃ b off, A = some ⟨b, off, none⟩ ∧ ∀ k (h : k < l.length), w.cell? ⟨b, off + k, none⟩ = some (.int .u16 (l[k] : Nat)))
theorem encode_letter (z : Nat) : Utf8.encode (97 + (z : Int) % 26) = S [UInt8.ofNat (97 + z % 26)] := by
  have h : ∀ m : Nat, m < 26 → Utf8.encode (97 + (m : Int)) = S [UInt8.ofNat (97 + m)] := by decide +kernel
  have := h (z % 26) (Nat.mod_lt _ (by omega))
  rw [show (97 : Int) + (z : Int) % 26 = 97 + ((z % 26 : Nat) : Int) by omega]
  exact this
theorem conv_letter (z : Nat) (w : World) : (convert 21 9 (.int .i32 (97 + (z : Int) % 26))).run Tryd.prog w = .ok (.string (S [UInt8.ofNat (97 + z % 26)])) w := by
  rw [run_convert_int_string w 21 9 .i32 _ (by rw [Tryd.underlying21]; rfl) Tryd.underlying9, encode_letter]
theorem take_map_snoc (zs : List Nat) (m : Nat) (h : m < zs.length) : (zs.take (m + 1)).map wordL = (zs.take m).map wordL ++ [wordL zs[m]] := by
  rw [List.take_succ_eq_append_getElem h, List.map_append]; rfl
/-- The law's text so far. -/
def textP (L : List (List UInt8)) (m : Nat) : List UInt8 := if m = L.length then Lib.join L [10] else joinL (L.take m) [10]
theorem textP_lt (L : List (List UInt8)) (m : Nat) (h : m < L.length) : textP L m = joinL (L.take m) [10] := if_neg (by omega)
theorem textP_zero (L : List (List UInt8)) (h : 0 < L.length) : textP L 0 = [] := by rw [textP_lt L 0 h]; rfl
theorem textP_all (L : List (List UInt8)) : textP L L.length = Lib.join L [10] := if_pos rfl
theorem S_three (a x : List UInt8) : S a ++ (S x ++ ⟨#[10]⟩) = S (a ++ x ++ [10]) := by rw [show (⟨#[10]⟩ : ByteArray) = S [10] from rfl, S_append, S_append, List.append_assoc]
theorem S_three' (a x : List UInt8) : S a ++ S x ++ ⟨#[10]⟩ = S (a ++ x ++ [10]) := by rw [show (⟨#[10]⟩ : ByteArray) = S [10] from rfl, S_append, S_append]
theorem textP_last (L : List (List UInt8)) (m : Nat) (h : m < L.length) (h2 : ¬ m + 1 < L.length) : textP L (m + 1) = joinL (L.take m) [10] ++ L[m] := by
  have hm : m + 1 = L.length := by omega
  unfold textP
  rw [if_pos hm, ← join_snoc]
  congr 1
  rw [← List.take_succ_eq_append_getElem h, List.take_of_length_le (by omega)]
set_option maxRecDepth 100000 in
set_option maxHeartbeats 8000000 in
theorem paras_any (v : Value) (zs : List Nat) (w : World) (hv : U16At w v zs) : Calls Tryd.prog 4 #[v] w fun e w' => e = .returned (.bool true) ∧ Below w.heap.size w w' := by
  obtain ⟨A, c, rfl, hc, hm, hz, h0⟩ := hv
  have H0 := Lib.hid h0
  have HZ := Lib.hid hz
  clear h0 hz
  go_enter Tryd.func4, Tryd.ntmps4
  go_upto_block 0 with fail
  go_cut [3] from 4 to 34 (fun l wr => Row wr w.heap.size 9 1 l ((zs.take 10).map wordL).length (strVals ((zs.take 10).map wordL)) ∧ Below w.heap.size w wr)
  case first =>
    go_wp2
    go_loopw [3, 4] (fun l i wr => ∃ m : Nat, m ≤ zs.length ∧ m ≤ 10 ∧ i = .int .i64 (m : Int) ∧ Row wr w.heap.size 9 1 l m (strVals ((zs.take m).map wordL)) ∧ Below w.heap.size w wr)
      (fun _ i _ => 10 - (intOf i).toNat)
    case atStart => exact ⟨0, by omega, by omega, rfl, Row.nil _ _ _ _, Below.refl _ _⟩
    case round =>
      obtain ⟨m, hm1, hm2, rfl, hrow, hbel⟩ := hrel
      obtain ⟨wo, rfl⟩ : ∃ x : World, x = wr := ⟨_, rfl⟩
      obtain ⟨A1, c1, rfl, hc1, hm1'⟩ := hrow.slice
      have HROW := Lib.hid hrow
      have HBEL := Lib.hid hbel
      have hbs := hbel.size
      clear hrow hbel
      by_cases hlt : m < zs.length ∧ m < 10
      · obtain ⟨hlt1, hlt2⟩ := hlt
        obtain ⟨b, off, rfl, hk⟩ := H0.out (by omega)
        have hcell := (HBEL.out.cell (p := ⟨b, off + m, none⟩) (World.block_lt_of_cell? _ _ (hk m hlt1))).trans (hk m hlt1)
        have hzb := HZ.out zs[m] (List.getElem_mem _)
        have HSN := Lib.hid (take_map_snoc zs m hlt1)
        generalize zs[m] = z at *
        have kc := fun w => conv_letter z w
        have hww : (⟨#[119]⟩ : ByteArray) ++ S [UInt8.ofNat (97 + z % 26)] = S (wordL z) := by rw [show (⟨#[119]⟩ : ByteArray) = S [119] from rfl, S_append]; rfl
        have t1 := IntWalk.rem_in (z : Int) 26 (by omega)
        have t2 := IntWalk.u16_in (97 + (z : Int) % 26) (by omega)
        have t3 := IntWalk.i32_in (97 + (z : Int) % 26) (by omega)
        have hs1 : (S [UInt8.ofNat (97 + z % 26)]).size ≤ 1 := by rw [S_size]; exact Nat.le_refl _
        have hx1 : (m : Int) < (zs.length : Int) := by omega
        have hx2 : (m : Int) < 10 := by omega
        have hd1 : decide ((m : Int) < (zs.length : Int)) = true := decide_eq_true hx1
        have hd2 : decide ((m : Int) < 10) = true := decide_eq_true hx2
        generalize UInt8.ofNat (97 + z % 26) = cz at *
        clear hk
        go_wp2_with (at_builtin; refine app_one wo rfl (.tmp 23) (.tmp 33) 43 rfl w.heap.size 9 _ 1 16 Tryd.underlying43 infoStr rfl (by omega) (by omega) (.slice A1 m c1) m (strVals ((zs.take m).map wordL)) #[.string (S (wordL z))] rfl rfl rfl (by simp [Value.oneCell']) HROW.out hbs (by omega) ?_; intro v2 w2 hrow2 hg2 hat2)
        have HROW2 := Lib.hid hrow2
        have HB2 := Lib.hid (HBEL.out.grown hg2 hbs (fun k hk => (HROW.out.blk k hk).1))
        clear hrow2 hg2 hat2
        go_wp2
        exact ⟨⟨m + 1, by omega, by omega, by go_num, by rw [HSN.out, strVals_snoc]; exact HROW2.out, HB2.out⟩, by simp [intOf]; omega⟩
      · have hml : zs.take m = zs.take 10 := by
          by_cases h : m < zs.length
          · rw [show m = 10 by omega]
          · rw [List.take_of_length_le (by omega), List.take_of_length_le (by omega)]
        have hmm : m = ((zs.take 10).map wordL).length := by rw [← hml, List.length_map, List.length_take]; omega
        have HFIN := Lib.hid (show Row wo w.heap.size 9 1 (.slice A1 m c1) ((zs.take 10).map wordL).length (strVals ((zs.take 10).map wordL)) by
          have h := HROW.out
          rw [hml] at h
          rw [← hmm]
          exact h)
        clear hml hmm
        by_cases hA : m < zs.length
        · have hA1 : (m : Int) < (zs.length : Int) := by omega
          have hA2 : ¬ (m : Int) < 10 := by omega
          have hA3 : decide ((m : Int) < (zs.length : Int)) = true := decide_eq_true hA1
          have hA4 : decide ((m : Int) < 10) = false := decide_eq_false hA2
          go_wp2
          go_meet
          case rel => exact ⟨HFIN.out, HBEL.out⟩
        · have hA1 : ¬ (m : Int) < (zs.length : Int) := by omega
          have hA3 : decide ((m : Int) < (zs.length : Int)) = false := decide_eq_false hA1
          go_wp2
          go_meet
          case rel => exact ⟨HFIN.out, HBEL.out⟩
  case rest =>
    obtain ⟨hr, hbel⟩ := hcut
    obtain ⟨w1, rfl⟩ : ∃ x : World, x = wc := ⟨_, rfl⟩
    obtain ⟨A1, c1, rfl, hc1, hm1⟩ := hr.slice
    have HR := Lib.hid hr
    have HB1 := Lib.hid hbel
    have hbs := hbel.size
    have hkl : ((zs.take 10).map wordL).length ≤ 10 := by rw [List.length_map, List.length_take]; omega
    have HWL := Lib.hid (show strVals (wordsL zs) = strVals ((zs.take 10).map wordL) ++ [.string ⟨#[101, 110, 100]⟩] by unfold wordsL; rw [strVals_snoc]; rfl)
    have HWN := Lib.hid (show (wordsL zs).length = ((zs.take 10).map wordL).length + 1 by unfold wordsL; rw [List.length_append]; rfl)
    obtain ⟨hlaw, hj44⟩ := wordsL_law zs
    have HLAW := Lib.hid hlaw
    clear hr hbel hlaw
    generalize wordsL zs = L at *
    generalize (zs.take 10).map wordL = Q at *
    go_upto_block 2 with (at_builtin; refine app_one w1 rfl (.tmp 35) (.tmp 36) 43 rfl w.heap.size 9 _ 1 16 Tryd.underlying43 infoStr rfl (by omega) (by omega) (.slice A1 Q.length c1) Q.length (strVals Q) #[.string ⟨#[101, 110, 100]⟩] rfl rfl rfl (by simp [Value.oneCell']) HR.out hbs (by omega) ?_; intro v2 w2 hrow2 hg2 hat2; obtain ⟨A2, c2, rfl, hc2, hm2⟩ := hrow2.slice; have HROW2 := Lib.hid hrow2; have HB2 := Lib.hid (HB1.out.grown hg2 hbs (fun k hk => (HR.out.blk k hk).1)); clear hrow2 hg2 hat2)
    have hwn := HWN.out
    have HRL := Lib.hid (show Row w2 w.heap.size 9 1 (.slice A2 (Q.length + 1) c2) L.length (strVals L) by rw [HWL.out, HWN.out]; exact HROW2.out)
    have hl11 : L.length ≤ 11 := by omega
    have hl0 : 0 < L.length := by omega
    have HLL := Lib.hid hl11
    clear hwn
    go_cut [5, 6] from 7 to 59 (fun a t wr => a = .string (S (joinL L [10])) ∧ t = .string (S (Lib.join L [10])) ∧ w2 = wr)
    case first =>
      have hql : ((Q.length : Int) + 1) = (L.length : Int) := by have := HWN.out; omega
      go_wp2
      go_loop [5, 6, 40] (fun a t i => ∃ m : Nat, m ≤ L.length ∧ i = .int .i64 (m : Int) ∧ a = .string (S (joinL (L.take m) [10])) ∧ t = .string (S (textP L m)))
        (fun _ _ i => L.length - (intOf i).toNat)
      case atStart => exact ⟨0, by omega, rfl, rfl, by rw [textP_zero L hl0]; rfl⟩
      case round =>
        obtain ⟨m, hm, rfl, rfl, rfl⟩ := hrel
        by_cases hlt : m < L.length
        · obtain ⟨g, cap, hv, hg1, hg2, hcc, hcm, hce, _⟩ := HRL.out.at_ (by omega)
          injection hv with hA _ hC
          subst hA hC
          have hcell := hce m _ (strVals_get L m hlt)
          have HT := Lib.hid (textP_lt L m hlt)
          have HJ := Lib.hid (joinL_snoc L [10] m hlt)
          have hj1 := joinL_le L [10] (m + 1)
          have hj2 := congrArg List.length HJ.out
          simp only [List.length_append, List.length_cons, List.length_nil] at hj2
          rw [HT.out]
          have hz1 : (S (joinL (L.take m) [10])).size ≤ 44 := by rw [S_size]; omega
          have hz2 : (S L[m]).size ≤ 44 := by rw [S_size]; omega
          have hz3 : (S L[m] ++ ⟨#[10]⟩).size ≤ 45 := by rw [show (⟨#[10]⟩ : ByteArray) = S [10] from rfl, S_append, S_size, List.length_append]; simp only [List.length_cons, List.length_nil]; omega
          have hz4 : (S (joinL (L.take m) [10]) ++ S L[m]).size ≤ 88 := by rw [S_append, S_size, List.length_append]; omega
          have hlt' : (m : Int) < (L.length : Int) := by omega
          clear hce hj1 hj2
          by_cases hl : m + 1 < L.length
          · have hl1 : (m : Int) + 1 < (L.length : Int) := by omega
            have HN1 := Lib.hid (textP_lt L (m + 1) hl)
            go_wp2
            exact ⟨⟨m + 1, by omega, by go_num, by rw [HJ.out, S_three], by rw [HN1.out, HJ.out, S_three']⟩, by simp [intOf]; omega⟩
          · have hl1 : ¬ (m : Int) + 1 < (L.length : Int) := by omega
            have HN1 := Lib.hid (textP_last L m hlt hl)
            go_wp2
            exact ⟨⟨m + 1, by omega, by go_num, by rw [HJ.out, S_three], by rw [HN1.out, S_append]⟩, by simp [intOf]; omega⟩
        · have hme : m = L.length := by omega
          have hge : ¬ (m : Int) < (L.length : Int) := by omega
          have HA := Lib.hid (show joinL (L.take m) [10] = joinL L [10] by rw [hme, List.take_length])
          have HT := Lib.hid (show textP L m = Lib.join L [10] by rw [hme, textP_all])
          clear hme
          go_wp2
          go_meet
          case rel => exact ⟨by rw [HA.out], by rw [HT.out], rfl⟩
    case rest =>
      obtain ⟨rfl, rfl, rfl⟩ := hcut
      obtain ⟨DB, hDB⟩ : ∃ D, D = joinL L [10] ++ [32, 32, 32, 10] ++ joinL L [10] := ⟨_, rfl⟩
      obtain ⟨DC, hDC⟩ : ∃ D, D = [62, 32] ++ joinL L [10] := ⟨_, rfl⟩
      obtain ⟨DD, hDD⟩ : ∃ D, D = joinL L [10] ++ [35, 32, 104, 10] ++ joinL L [10] := ⟨_, rfl⟩
      have HLAW2 := Lib.hid (show ParaTrees L (parseT (joinL L [10])) (parseT DB) (parseT DC) (parseT DD) by rw [hDB, hDC, hDD]; exact HLAW.out)
      have HDB := Lib.hid hDB
      have HDC := Lib.hid hDC
      have HDD := Lib.hid hDD
      have hlB : DB.length ≤ 100 := by rw [hDB]; simp only [List.length_append, List.length_cons, List.length_nil]; omega
      have hlC : DC.length ≤ 100 := by rw [hDC]; simp only [List.length_append, List.length_cons, List.length_nil]; omega
      have hlD : DD.length ≤ 100 := by rw [hDD]; simp only [List.length_append, List.length_cons, List.length_nil]; omega
      clear hDB hDC hDD
      have kcv := fun (W : World) (l : List UInt8) => Lib.run_convert_string_bytes (P := Tryd.prog) W _ _ _ (S l) Tryd.underlying9 Tryd.underlying23 Tryd.underlying5
      go_upto_region 16 with fail
      go_cut [9] from 60 to 62 (fun p wr => ∃ b, p = .pointer (some ⟨b, 0, none⟩) ∧ CellsAt wr b 0 (parseT (joinL L [10])) ∧ Below w2.heap.size w2 wr)
      case first =>
        have kc := kcv w2 (joinL L [10])
        have hba := bytes_at w2 (joinL L [10]) (by unfold maxLen; omega)
        have hbb := bytes_below w2 5 (S (joinL L [10]))
        rw [S_size] at kc hba
        clear kcv
        generalize Lib.bytesWorld w2 5 (S (joinL L [10])) = wy at *
        have PP := Lib.hid (parse_any _ (joinL L [10]) wy hba)
        have HBY := Lib.hid hbb
        clear hba hbb
        go_wp2_with fail
        refine PP.out.mono ?_
        rintro e wa ⟨cs, rfl, ht, hb⟩
        have HB := Lib.hid (HBY.out.trans (hb.mono HBY.out.size))
        obtain ⟨A', n', rfl, h1, h2⟩ := ht.form
        have HC := Lib.hid (CellsAt.of (b := wa.heap.size) (ht.keep ((Below.refl wa.heap.size wa).alloc (Nat.le_refl _) _)) (Blk.new wa _ 31))
        have HBF := Lib.hid (HB.out.alloc HB.out.size (.cells (blkCells (parseT (joinL L [10])).kind (parseT (joinL L [10])).level (parseT (joinL L [10])).text (parseT (joinL L [10])).info (parseT (joinL L [10])).line (.slice A' (parseT (joinL L [10])).kids.length n')) 31))
        clear ht hb
        unfold blkCells
        go_wp2
        go_meet
        case rel => exact ⟨_, rfl, HC.out, HBF.out⟩
      case rest =>
        obtain ⟨ba, rfl, hct, hbt⟩ := hcut
        obtain ⟨wa, rfl⟩ : ∃ x : World, x = wc := ⟨_, rfl⟩
        have HCa := Lib.hid hct
        have HPa := Lib.hid hbt
        have HWa := Lib.hid (HB2.out.trans (hbt.mono HB2.out.size))
        clear hct hbt
        go_upto_region 17 with fail
        go_cut [10] from 63 to 68 (fun p wr => ∃ b, p = .pointer (some ⟨b, 0, none⟩) ∧ CellsAt wr b 0 (parseT DB) ∧ Below wa.heap.size wa wr)
        case first =>
          have hq1 : (S (joinL L [10]) ++ ⟨#[32, 32, 32, 10]⟩).size ≤ 48 := by rw [show (⟨#[32, 32, 32, 10]⟩ : ByteArray) = S [32, 32, 32, 10] from rfl, S_append, S_size, List.length_append]; simp only [List.length_cons, List.length_nil]; omega
          have hq2 : (S (joinL L [10])).size ≤ 44 := by rw [S_size]; exact hj44
          have hq3 : S (joinL L [10]) ++ ⟨#[32, 32, 32, 10]⟩ ++ S (joinL L [10]) = S DB := by rw [HDB.out, show (⟨#[32, 32, 32, 10]⟩ : ByteArray) = S [32, 32, 32, 10] from rfl, S_append, S_append]
          have kc := kcv wa DB
          have hba := bytes_at wa DB (by unfold maxLen; omega)
          have hbb := bytes_below wa 5 (S DB)
          rw [S_size] at kc hba
          clear kcv
          generalize Lib.bytesWorld wa 5 (S DB) = wy at *
          have PP := Lib.hid (parse_any _ DB wy hba)
          have HBY := Lib.hid hbb
          clear hba hbb
          go_wp2_with fail
          refine PP.out.mono ?_
          rintro e wa ⟨cs, rfl, ht, hb⟩
          have HB := Lib.hid (HBY.out.trans (hb.mono HBY.out.size))
          obtain ⟨A', n', rfl, h1, h2⟩ := ht.form
          have HC := Lib.hid (CellsAt.of (b := wa.heap.size) (ht.keep ((Below.refl wa.heap.size wa).alloc (Nat.le_refl _) _)) (Blk.new wa _ 31))
          have HBF := Lib.hid (HB.out.alloc HB.out.size (.cells (blkCells (parseT DB).kind (parseT DB).level (parseT DB).text (parseT DB).info (parseT DB).line (.slice A' (parseT DB).kids.length n')) 31))
          clear ht hb
          unfold blkCells
          go_wp2
          go_meet
          case rel => exact ⟨_, rfl, HC.out, HBF.out⟩
        case rest =>
          obtain ⟨bb, rfl, hct, hbt⟩ := hcut
          obtain ⟨wb, rfl⟩ : ∃ x : World, x = wc := ⟨_, rfl⟩
          have HCb := Lib.hid hct
          have HPb := Lib.hid hbt
          have HWb := Lib.hid (HWa.out.trans (hbt.mono HWa.out.size))
          clear hct hbt
          go_upto_region 18 with fail
          go_cut [11] from 69 to 72 (fun p wr => ∃ b, p = .pointer (some ⟨b, 0, none⟩) ∧ CellsAt wr b 0 (parseT DC) ∧ Below wb.heap.size wb wr)
          case first =>
            have hq2 : (S (joinL L [10])).size ≤ 44 := by rw [S_size]; exact hj44
            have hq3 : (⟨#[62, 32]⟩ : ByteArray) ++ S (joinL L [10]) = S DC := by rw [HDC.out, show (⟨#[62, 32]⟩ : ByteArray) = S [62, 32] from rfl, S_append]
            have kc := kcv wb DC
            have hba := bytes_at wb DC (by unfold maxLen; omega)
            have hbb := bytes_below wb 5 (S DC)
            rw [S_size] at kc hba
            clear kcv
            generalize Lib.bytesWorld wb 5 (S DC) = wy at *
            have PP := Lib.hid (parse_any _ DC wy hba)
            have HBY := Lib.hid hbb
            clear hba hbb
            go_wp2_with fail
            refine PP.out.mono ?_
            rintro e wa ⟨cs, rfl, ht, hb⟩
            have HB := Lib.hid (HBY.out.trans (hb.mono HBY.out.size))
            obtain ⟨A', n', rfl, h1, h2⟩ := ht.form
            have HC := Lib.hid (CellsAt.of (b := wa.heap.size) (ht.keep ((Below.refl wa.heap.size wa).alloc (Nat.le_refl _) _)) (Blk.new wa _ 31))
            have HBF := Lib.hid (HB.out.alloc HB.out.size (.cells (blkCells (parseT DC).kind (parseT DC).level (parseT DC).text (parseT DC).info (parseT DC).line (.slice A' (parseT DC).kids.length n')) 31))
            clear ht hb
            unfold blkCells
            go_wp2
            go_meet
            case rel => exact ⟨_, rfl, HC.out, HBF.out⟩
          case rest =>
            obtain ⟨bc, rfl, hct, hbt⟩ := hcut
            obtain ⟨wc, rfl⟩ : ∃ x : World, x = wc := ⟨_, rfl⟩
            have HCc := Lib.hid hct
            have HPc := Lib.hid hbt
            have HWc := Lib.hid (HWb.out.trans (hbt.mono HWb.out.size))
            clear hct hbt
            go_upto_region 19 with fail
            go_cut [12] from 73 to 78 (fun p wr => ∃ b, p = .pointer (some ⟨b, 0, none⟩) ∧ CellsAt wr b 0 (parseT DD) ∧ Below wc.heap.size wc wr)
            case first =>
              have hq1 : (S (joinL L [10]) ++ ⟨#[35, 32, 104, 10]⟩).size ≤ 48 := by rw [show (⟨#[35, 32, 104, 10]⟩ : ByteArray) = S [35, 32, 104, 10] from rfl, S_append, S_size, List.length_append]; simp only [List.length_cons, List.length_nil]; omega
              have hq2 : (S (joinL L [10])).size ≤ 44 := by rw [S_size]; exact hj44
              have hq3 : S (joinL L [10]) ++ ⟨#[35, 32, 104, 10]⟩ ++ S (joinL L [10]) = S DD := by rw [HDD.out, show (⟨#[35, 32, 104, 10]⟩ : ByteArray) = S [35, 32, 104, 10] from rfl, S_append, S_append]
              have kc := kcv wc DD
              have hba := bytes_at wc DD (by unfold maxLen; omega)
              have hbb := bytes_below wc 5 (S DD)
              rw [S_size] at kc hba
              clear kcv
              generalize Lib.bytesWorld wc 5 (S DD) = wy at *
              have PP := Lib.hid (parse_any _ DD wy hba)
              have HBY := Lib.hid hbb
              clear hba hbb
              go_wp2_with fail
              refine PP.out.mono ?_
              rintro e wa ⟨cs, rfl, ht, hb⟩
              have HB := Lib.hid (HBY.out.trans (hb.mono HBY.out.size))
              obtain ⟨A', n', rfl, h1, h2⟩ := ht.form
              have HC := Lib.hid (CellsAt.of (b := wa.heap.size) (ht.keep ((Below.refl wa.heap.size wa).alloc (Nat.le_refl _) _)) (Blk.new wa _ 31))
              have HBF := Lib.hid (HB.out.alloc HB.out.size (.cells (blkCells (parseT DD).kind (parseT DD).level (parseT DD).text (parseT DD).info (parseT DD).line (.slice A' (parseT DD).kids.length n')) 31))
              clear ht hb
              unfold blkCells
              go_wp2
              go_meet
              case rel => exact ⟨_, rfl, HC.out, HBF.out⟩
            case rest =>
              obtain ⟨bd, rfl, hct, hbt⟩ := hcut
              obtain ⟨wd, rfl⟩ : ∃ x : World, x = wc := ⟨_, rfl⟩
              have HCd := Lib.hid hct
              have HPd := Lib.hid hbt
              have HWd := Lib.hid (HWc.out.trans (hbt.mono HWc.out.size))
              clear hct hbt
              have PT := HLAW2.out
              have ca := ((HCa.out.below HPb.out).below HPc.out).below HPd.out
              have cb := (HCb.out.below HPc.out).below HPd.out
              have cc := HCc.out.below HPd.out
              have cd := HCd.out
              have hj11 := HLL.out
              generalize parseT (joinL L [10]) = TA at *
              generalize parseT DB = TB at *
              generalize parseT DC = TC at *
              generalize parseT DD = TD at *
              obtain ⟨ga, na, x1, x2, x3, _, xk⟩ := ca.kids (by rw [PT.a1]; omega)
              have xa := (xk 0 (by rw [PT.a1]; omega)).fields.2.2.1
              rw [PT.a1] at x1 x2
              rw [PT.a2 (by rw [PT.a1]; omega)] at xa
              obtain ⟨gb, nb, y1, y2, y3, _, yk⟩ := cb.kids (by rw [PT.b1]; omega)
              have yf := (yk 1 (by rw [PT.b1]; omega)).fields
              have yt := yf.2.2.1
              have yl := yf.2.2.2.2.1
              rw [PT.b1] at y1 y2
              rw [PT.b2 (by rw [PT.b1]; omega)] at yt
              rw [PT.b3 (by rw [PT.b1]; omega)] at yl
              obtain ⟨gc, nc, z1, z2, z3, _, zk⟩ := cc.kids (by rw [PT.c1]; omega)
              have zc := zk 0 (by rw [PT.c1]; omega)
              obtain ⟨gq, nq, q1, q2, q3, _, qk⟩ := zc.kids (by rw [PT.c2 (by rw [PT.c1]; omega)]; omega)
              have qt := (qk 0 (by rw [PT.c2 (by rw [PT.c1]; omega)]; omega)).fields.2.2.1
              rw [PT.c3 (by rw [PT.c1]; omega) (by rw [PT.c2 (by rw [PT.c1]; omega)]; omega)] at qt
              rw [PT.c2 (by rw [PT.c1]; omega)] at q1 q2
              rw [PT.c1] at z1 z2
              obtain ⟨gd, nd, d1, d2, d3, _, dk⟩ := cd.kids (by rw [PT.d1]; omega)
              have dkd := (dk 1 (by rw [PT.d1]; omega)).fields.1
              have dt := (dk 2 (by rw [PT.d1]; omega)).fields.2.2.1
              rw [PT.d2 (by rw [PT.d1]; omega)] at dkd
              rw [PT.d3 (by rw [PT.d1]; omega)] at dt
              rw [PT.d1] at d1 d2
              have e1 : wd.cell? ⟨ba, 5, none⟩ = some (.slice (some ⟨ga, 0, none⟩) 1 na) := x1
              have e2 : wd.cell? ⟨ga, 2, none⟩ = some (.string (S (Lib.join L [10]))) := xa
              have e3 : wd.cell? ⟨bb, 5, none⟩ = some (.slice (some ⟨gb, 0, none⟩) 2 nb) := y1
              have e4 : wd.cell? ⟨gb, 8, none⟩ = some (.string (S (Lib.join L [10]))) := yt
              have e5 : wd.cell? ⟨gb, 10, none⟩ = some (.int .i64 ((L.length + 1 : Nat) : Int)) := yl
              have e6 : wd.cell? ⟨bc, 5, none⟩ = some (.slice (some ⟨gc, 0, none⟩) 1 nc) := z1
              have e7 : wd.cell? ⟨gc, 5, none⟩ = some (.slice (some ⟨gq, 0, none⟩) 1 nq) := q1
              have e8 : wd.cell? ⟨gq, 2, none⟩ = some (.string (S (Lib.join L [10]))) := qt
              have e9 : wd.cell? ⟨bd, 5, none⟩ = some (.slice (some ⟨gd, 0, none⟩) 3 nd) := d1
              have f1 : wd.cell? ⟨gd, 6, none⟩ = some (.int .i64 5) := dkd
              have f2 : wd.cell? ⟨gd, 14, none⟩ = some (.string (S (Lib.join L [10]))) := dt
              have hql : ((Q.length : Int) + 1) = (L.length : Int) := by have := HWN.out; omega
              have heq : (((L.length + 1 : Nat) : Int) == (L.length : Int) + 1) = true := by rw [beq_iff_eq]; omega
              clear PT ca cb cc cd x1 x3 xk xa y1 y3 yk yf yt yl z1 z3 zk zc q1 q3 qk qt d1 d3 dk dkd dt kcv
              generalize S (Lib.join L [10]) = X at *
              go_wp2_with fail
              refine (known_any _).mono ?_
              rintro e wk ⟨rfl, hbk⟩
              have HE := Lib.hid (HWd.out.trans (hbk.mono HWd.out.size))
              clear hbk
              go_wp2
              go_ret
              exact ⟨rfl, HE.out⟩
end Go.Proofs.YtjgaobkgmheocaaDoor
