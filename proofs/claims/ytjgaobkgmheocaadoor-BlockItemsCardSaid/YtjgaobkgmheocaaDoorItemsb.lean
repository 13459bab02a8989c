/- The law BlockItems: the walk. -/
import Derived.Test.YtjgaobkgmheocaaDoorItems
import Derived.Test.YtjgaobkgmheocaaDoorKnownb
namespace Go.Proofs.YtjgaobkgmheocaaDoor
open Go Go.RowKit

theorem itemsDoc_take (l : List UInt8) (m : Nat) (h : m < l.length) : itemsDoc (l.take (m + 1)) = itemsDoc (l.take m) ++ [sgn l[m], 32, 119, 10] ++ (if l[m].toNat / 8 % 2 = 1 then [10] else []) := by
  rw [List.take_succ_eq_append_getElem h, itemsDoc_snoc]
theorem countI_take (l : List UInt8) (m : Nat) (h : m < l.length) : countI (l.take (m + 1)) (0, 0) = (if sgn l[m] = (countI (l.take m) (0, 0)).2 then (countI (l.take m) (0, 0)).1 else (countI (l.take m) (0, 0)).1 + 1, sgn l[m]) := by
  rw [List.take_succ_eq_append_getElem h, countI_snoc]
def kidSum (l : List Tree) (q : Nat) : Nat := ((l.take q).map fun t => t.kids.length).sum
theorem kidSum_succ (l : List Tree) (q : Nat) (h : q < l.length) : kidSum l (q + 1) = kidSum l q + l[q].kids.length := by
  unfold kidSum
  rw [List.take_succ_eq_append_getElem h, List.map_append, List.sum_append]
  simp
theorem kidSum_all (l : List Tree) : kidSum l l.length = (l.map fun t => t.kids.length).sum := by unfold kidSum; rw [List.take_length]
theorem kidSum_le (l : List Tree) (q : Nat) : kidSum l q ≤ (l.map fun t => t.kids.length).sum := by
  unfold kidSum
  have h : (l.map fun t => t.kids.length).sum = ((l.take q).map fun t => t.kids.length).sum + ((l.drop q).map fun t => t.kids.length).sum := by
    rw [← List.sum_append, ← List.map_append, List.take_append_drop]
  omega
theorem countI_le (a : List UInt8) : ∀ x, (countI a x).1 ≤ x.1 + a.length := by
  induction a with
  | nil => intro x; exact Nat.le_refl _
  | cons b r ih =>
    intro x
    have h := ih (if sgn b = x.2 then x.1 else x.1 + 1, sgn b)
    simp only [List.length_cons]
    unfold countI
    have : (if sgn b = x.2 then x.1 else x.1 + 1) ≤ x.1 + 1 := by split <;> omega
    omega
theorem and8 (k : UInt8) : bits .and .u8 (k.toNat : Int) 8 = if k.toNat / 8 % 2 = 1 then 8 else 0 := by
  have h : ∀ n : Nat, n < 256 → bits .and .u8 (n : Int) 8 = if n / 8 % 2 = 1 then 8 else 0 := by decide +kernel
  exact h k.toNat k.toNat_lt
theorem index_sgn0 (w : World) : (Instr.index 9 (.string ⟨#[45, 42, 43]⟩) (.int .u8 0)).run Tryd.prog w = .ok (.int .u8 45) w := by kernel_rfl
theorem index_sgn1 (w : World) : (Instr.index 9 (.string ⟨#[45, 42, 43]⟩) (.int .u8 1)).run Tryd.prog w = .ok (.int .u8 42) w := by kernel_rfl
theorem index_sgn2 (w : World) : (Instr.index 9 (.string ⟨#[45, 42, 43]⟩) (.int .u8 2)).run Tryd.prog w = .ok (.int .u8 43) w := by kernel_rfl
theorem index_sgn (k : UInt8) (w : World) : (Instr.index 9 (.string ⟨#[45, 42, 43]⟩) (.int .u8 ((k.toNat : Int) % 3))).run Tryd.prog w = .ok (.int .u8 (sgn k).toNat) w := by
  have h : k.toNat % 3 = 0 ∨ k.toNat % 3 = 1 ∨ k.toNat % 3 = 2 := by omega
  rcases h with h | h | h
  · have e : sgn k = 45 := by unfold sgn; rw [if_pos h]
    rw [show (k.toNat : Int) % 3 = 0 by omega, e]; exact index_sgn0 w
  · have e : sgn k = 42 := by unfold sgn; rw [if_neg (by omega), if_pos h]
    rw [show (k.toNat : Int) % 3 = 1 by omega, e]; exact index_sgn1 w
  · have e : sgn k = 43 := by unfold sgn; rw [if_neg (by omega), if_neg (by omega)]
    rw [show (k.toNat : Int) % 3 = 2 by omega, e]; exact index_sgn2 w
set_option maxRecDepth 100000 in
set_option maxHeartbeats 4000000 in
theorem items_any (v : Value) (l : List UInt8) (w : World) (hv : BytesAt w v l) : Calls Tryd.prog 5 #[v] w fun e w' => e = .returned (.bool true) ∧ Below w.heap.size w w' := by
  obtain ⟨A, c, rfl, hc, hm, h0⟩ := id hv
  have HV := Lib.hid hv
  have H0 := Lib.hid h0
  clear hv h0
  go_enter Tryd.func5, Tryd.ntmps5
  go_wp2
  go_loopw [3, 4, 5, 6, 7] (fun s li it la i wr => ∃ m : Nat, m ≤ l.length ∧ m ≤ 20 ∧ i = .int .i64 (m : Int) ∧ it = .int .i64 (m : Int) ∧ s = .string (S (itemsDoc (l.take m))) ∧ li = .int .i64 ((countI (l.take m) (0, 0)).1 : Int) ∧ la = .int .u8 ((countI (l.take m) (0, 0)).2.toNat : Int) ∧ Below w.heap.size w wr)
    (fun _ _ _ _ i _ => 20 - (intOf i).toNat)
  case atStart => exact ⟨0, by omega, by omega, rfl, rfl, rfl, rfl, rfl, Below.refl _ _⟩
  case round =>
    obtain ⟨m, hm1, hm2, rfl, rfl, rfl, rfl, rfl, hbel⟩ := hrel
    obtain ⟨wo, rfl⟩ : ∃ x : World, x = wr := ⟨_, rfl⟩
    have HBEL := Lib.hid hbel
    clear hbel
    by_cases hlt : m < l.length ∧ m < 20
    · obtain ⟨hlt1, hlt2⟩ := hlt
      obtain ⟨b, off, rfl, hk⟩ := H0.out (by omega)
      have hcell := (HBEL.out.cell (p := ⟨b, off + m, none⟩) (World.block_lt_of_cell? _ _ (hk m hlt1))).trans (hk m hlt1)
      have hblt : b < wo.heap.size := World.block_lt_of_cell? _ _ hcell
      have HDOC := Lib.hid (itemsDoc_take l m hlt1)
      have HCNT := Lib.hid (countI_take l m hlt1)
      have hcl := countI_le (l.take m) (0, 0)
      rw [List.length_take] at hcl
      have hb0 : l[m].toNat < 256 := l[m].toNat_lt
      have hix := fun w => index_sgn l[m] w
      have h8 := and8 l[m]
      have hx1 : (m : Int) < (l.length : Int) := by omega
      have hx2 : (m : Int) < 20 := by omega
      have hd1 : decide ((m : Int) < (l.length : Int)) = true := decide_eq_true hx1
      have hd2 : decide ((m : Int) < 20) = true := decide_eq_true hx2
      have kc : (convert 23 9 (.slice (some ⟨wo.heap.size, 0, none⟩) 1 1)).run Tryd.prog (wo.alloc (.cells #[.int .u8 (sgn l[m]).toNat] 5)) = .ok (.string (S [sgn l[m]])) (wo.alloc (.cells #[.int .u8 (sgn l[m]).toNat] 5)) :=
        conv_str (BytesAt.of_lit wo [sgn l[m]] #[.int .u8 (sgn l[m]).toNat] (0, 0) 1 rfl rfl (by rw [List.length_singleton]; omega)) _ _ _ Tryd.underlying23 Tryd.underlying5 Tryd.underlying9
      have HSZ := Lib.hid HBEL.out.size
      clear hk
      generalize sgn l[m] = sg at *
      have hss : ∀ (d : List UInt8), S d ++ (S [sg] ++ ⟨#[32, 119, 10]⟩) = S (d ++ [sg, 32, 119, 10]) := fun d => by
        rw [show (⟨#[32, 119, 10]⟩ : ByteArray) = S [32, 119, 10] from rfl, S_append, S_append]; rfl
      have hs10 : ∀ (d : List UInt8), S d ++ ⟨#[10]⟩ = S (d ++ [10]) := fun d => by
        rw [show (⟨#[10]⟩ : ByteArray) = S [10] from rfl, S_append]
      have hdl := itemsDoc_len (l.take m)
      rw [List.length_take] at hdl
      have hsz0 : (S (itemsDoc (l.take m))).size ≤ 100 := by rw [S_size]; omega
      have hsz1 : (S (itemsDoc (l.take m)) ++ (S [sg] ++ ⟨#[32, 119, 10]⟩)).size ≤ 104 := by rw [hss, S_size, List.length_append]; simp only [List.length_cons, List.length_nil]; omega
      have hsz2 : (S [sg] ++ ⟨#[32, 119, 10]⟩).size ≤ 4 := by rw [show (⟨#[32, 119, 10]⟩ : ByteArray) = S [32, 119, 10] from rfl, S_append, S_size]; exact Nat.le_refl _
      have hsz3 : (S [sg]).size ≤ 1 := by rw [S_size]; exact Nat.le_refl _
      have HSS := Lib.hid hss
      have HS10 := Lib.hid hs10
      clear hss hs10
      by_cases hs : sg = (countI (l.take m) (0, 0)).2 <;> by_cases hb8 : l[m].toNat / 8 % 2 = 1
      · have HB := Lib.hid hb8
        have HS := Lib.hid hs
        rw [if_pos hb8] at h8
        have hne : ((sg.toNat : Int) != ((countI (l.take m) (0, 0)).2.toNat : Int)) = false := by rw [hs]; simp
        clear hs hb8
        go_wp2
        exact ⟨⟨m + 1, by omega, by omega, by go_num, by go_num, by rw [HDOC.out, if_pos HB.out]; rw [HSS.out, HS10.out], by rw [HCNT.out]; dsimp only; rw [if_pos HS.out], by rw [HCNT.out], (HBEL.out.alloc HSZ.out _)⟩, by simp [intOf]; omega⟩
      · have HB := Lib.hid hb8
        have HS := Lib.hid hs
        rw [if_neg hb8] at h8
        have hne : ((sg.toNat : Int) != ((countI (l.take m) (0, 0)).2.toNat : Int)) = false := by rw [hs]; simp
        clear hs hb8
        go_wp2
        exact ⟨⟨m + 1, by omega, by omega, by go_num, by go_num, by rw [HDOC.out, if_neg HB.out]; rw [List.append_nil, ← HSS.out], by rw [HCNT.out]; dsimp only; rw [if_pos HS.out], by rw [HCNT.out], (HBEL.out.alloc HSZ.out _)⟩, by simp [intOf]; omega⟩
      · have HB := Lib.hid hb8
        have HS := Lib.hid hs
        rw [if_pos hb8] at h8
        have hne : ((sg.toNat : Int) != ((countI (l.take m) (0, 0)).2.toNat : Int)) = true := by
          rw [bne_iff_ne]
          intro e
          exact hs (UInt8.toNat_inj.1 (by omega))
        clear hs hb8
        go_wp2
        exact ⟨⟨m + 1, by omega, by omega, by go_num, by go_num, by rw [HDOC.out, if_pos HB.out]; rw [HSS.out, HS10.out], by rw [HCNT.out]; dsimp only; rw [if_neg HS.out]; go_num, by rw [HCNT.out], (HBEL.out.alloc HSZ.out _)⟩, by simp [intOf]; omega⟩
      · have HB := Lib.hid hb8
        have HS := Lib.hid hs
        rw [if_neg hb8] at h8
        have hne : ((sg.toNat : Int) != ((countI (l.take m) (0, 0)).2.toNat : Int)) = true := by
          rw [bne_iff_ne]
          intro e
          exact hs (UInt8.toNat_inj.1 (by omega))
        clear hs hb8
        go_wp2
        exact ⟨⟨m + 1, by omega, by omega, by go_num, by go_num, by rw [HDOC.out, if_neg HB.out]; rw [List.append_nil, ← HSS.out], by rw [HCNT.out]; dsimp only; rw [if_neg HS.out]; go_num, by rw [HCNT.out], (HBEL.out.alloc HSZ.out _)⟩, by simp [intOf]; omega⟩
    · have hng : ¬ ((m : Int) < (l.length : Int) ∧ (m : Int) < 20) := fun h => hlt ⟨by omega, by omega⟩
      have hml : l.take m = l.take 20 := by
        by_cases h : m < l.length
        · rw [show m = 20 by omega]
        · rw [List.take_of_length_le (by omega), List.take_of_length_le (by omega)]
      have hlen : (l.take 20).length = m := by rw [← hml, List.length_take]; omega
      have LAW := Lib.hid (items_law (l.take 20) (by omega))
      rw [hlen] at LAW
      rw [hml]
      have HDL := Lib.hid (itemsDoc_len (l.take 20))
      have hcl := countI_le (l.take 20) (0, 0)
      have HLEN := Lib.hid hlen
      clear hml
      rw [hlen] at hcl
      clear hlen
      generalize l.take 20 = ks at *
      have hdl : (itemsDoc ks).length ≤ 100 := by have := HDL.out; rw [HLEN.out] at this; omega
      have kcv := fun w => Lib.run_convert_string_bytes (P := Tryd.prog) w _ _ _ (S (itemsDoc ks)) Tryd.underlying9 Tryd.underlying23 Tryd.underlying5
      have HSZ := Lib.hid HBEL.out.size
      by_cases hA : m < l.length
      · have hA1 : (m : Int) < (l.length : Int) := by omega
        have hA2 : ¬ (m : Int) < 20 := by omega
        have hA3 : decide ((m : Int) < (l.length : Int)) = true := decide_eq_true hA1
        have hA4 : decide ((m : Int) < 20) = false := decide_eq_false hA2
        go_upto_region 15 with fail
        go_cut [9] from 51 to 53 (fun p wr => ∃ b, p = .pointer (some ⟨b, 0, none⟩) ∧ CellsAt wr b 0 (parseT (itemsDoc ks)) ∧ Below w.heap.size w wr)
        case first =>
          have kc := kcv wo
          have hba := bytes_at wo (itemsDoc ks) (by unfold maxLen; omega)
          have hbb := bytes_below wo 5 (S (itemsDoc ks))
          rw [S_size] at kc hba
          clear kcv
          generalize Lib.bytesWorld wo 5 (S (itemsDoc ks)) = wy at *
          have PP := Lib.hid (parse_any _ (itemsDoc ks) wy hba)
          have HBY := Lib.hid (HBEL.out.trans (hbb.mono HSZ.out))
          clear hba hbb
          go_wp2_with fail
          refine PP.out.mono ?_
          rintro e wa ⟨cs, rfl, ht, hb⟩
          have HB := Lib.hid (HBY.out.trans (hb.mono HBY.out.size))
          obtain ⟨A', n', rfl, h1, h2⟩ := ht.form
          have HC := Lib.hid (CellsAt.of (b := wa.heap.size) (ht.keep ((Below.refl wa.heap.size wa).alloc (Nat.le_refl _) _)) (Blk.new wa _ 31))
          have HB2 := Lib.hid (HB.out.alloc HB.out.size (.cells (blkCells (parseT (itemsDoc ks)).kind (parseT (itemsDoc ks)).level (parseT (itemsDoc ks)).text (parseT (itemsDoc ks)).info (parseT (itemsDoc ks)).line (.slice A' (parseT (itemsDoc ks)).kids.length n')) 31))
          clear ht hb
          unfold blkCells
          go_wp2
          go_meet
          case rel => exact ⟨_, rfl, HC.out, HB2.out⟩
        case rest =>
          obtain ⟨bt, rfl, hct, hbt⟩ := hcut
          obtain ⟨w1, rfl⟩ : ∃ x : World, x = wc := ⟨_, rfl⟩
          have HCT := Lib.hid hct
          have HBT := Lib.hid hbt
          clear hbt kcv
          generalize parseT (itemsDoc ks) = T at *
          obtain ⟨hlk, hkind, hsum⟩ := LAW.out
          have HLK := Lib.hid hlk
          have HKIND := Lib.hid hkind
          have HSUM := Lib.hid hsum
          have hkl20 : T.kids.length ≤ 20 := by rw [hlk]; omega
          clear hlk hkind hsum hlt hng
          obtain ⟨A1, n1, hs5, hs6, hs7⟩ : ∃ A1 n1, w1.cell? ⟨bt, 5, none⟩ = some (.slice A1 T.kids.length n1) ∧ T.kids.length ≤ n1 ∧ n1 ≤ maxLen := by
            obtain ⟨_, _, _, _, _, A1, n1, h5, h6, h7⟩ := hct.fields
            rw [Nat.zero_add] at h5
            exact ⟨A1, n1, h5, h6, h7⟩
          have HS5 := Lib.hid hs5
          have hn1 := hs7
          unfold maxLen at hn1
          clear hct hs7
          go_wp2
          go_loopw [10, 57] (fun n i wr => ∃ q : Nat, i = .int .i64 (q : Int) ∧ q ≤ T.kids.length ∧ n = .int .i64 ((kidSum T.kids q : Nat) : Int) ∧ Below w1.heap.size w1 wr)
            (fun _ i _ => T.kids.length - (intOf i).toNat)
          case atStart => exact ⟨0, rfl, by omega, rfl, Below.refl _ _⟩
          case round =>
            obtain ⟨q, rfl, hq, rfl, hbel⟩ := hrel
            obtain ⟨wq, rfl⟩ : ∃ x : World, x = wr := ⟨_, rfl⟩
            have HBQ := Lib.hid hbel
            clear hbel
            by_cases hql : q < T.kids.length
            · obtain ⟨g, n, hg5, hg1, hg2, _, hk⟩ := (HCT.out.below HBQ.out).kids (by omega)
              have e5 := (HBQ.out.cell (p := ⟨bt, 5, none⟩) HCT.out.lt).trans HS5.out
              rw [Nat.zero_add, e5] at hg5
              injection hg5 with hg5
              injection hg5 with hA _ hC
              subst hA hC
              obtain ⟨f0, f1, f2, f3, f4, A2, n2, f5, f6, f7⟩ := (hk q hql).fields
              have hkd := HKIND.out T.kids[q] (List.getElem_mem _)
              rw [hkd] at f0
              have hsl := kidSum_succ T.kids q hql
              have hbd := kidSum_le T.kids (q + 1)
              rw [HSUM.out] at hbd
              have hbd2 : kidSum T.kids q + T.kids[q].kids.length ≤ 20 := by omega
              have HSL := Lib.hid hsl
              have HSQ := Lib.hid HBQ.out.size
              have hlt' : (q : Int) < (T.kids.length : Int) := by omega
              unfold maxLen at f7
              clear hk hsl hkd e5 hbd
              go_wp2
              exact ⟨⟨q + 1, by go_num, by omega, by rw [HSL.out]; go_num, (HBQ.out.alloc HSQ.out _)⟩, by simp [intOf]; omega⟩
            · have hqe : q = T.kids.length := by omega
              have hge : ¬ (q : Int) < (T.kids.length : Int) := by omega
              have hsm : kidSum T.kids q = m := by
                rw [hqe, kidSum_all, HSUM.out]
              have hc1 : ((T.kids.length : Int) == ((countI ks (0, 0)).1 : Int)) = true := by rw [beq_iff_eq]; have := HLK.out; omega
              have hc2 : (((kidSum T.kids q : Nat) : Int) == (m : Int)) = true := by rw [beq_iff_eq]; omega
              have e5 := (HBQ.out.cell (p := ⟨bt, 5, none⟩) HCT.out.lt).trans HS5.out
              have HBW := Lib.hid (HBT.out.trans (HBQ.out.mono HBT.out.size))
              clear hsm hqe
              go_wp2_with fail
              refine (known_any _).mono ?_
              rintro e wk ⟨rfl, hbk⟩
              have HE := Lib.hid (HBW.out.trans (hbk.mono HBW.out.size))
              clear hbk
              go_wp2
              go_ret
              exact ⟨rfl, HE.out⟩
      · have hA1 : ¬ (m : Int) < (l.length : Int) := by omega
        have hA3 : decide ((m : Int) < (l.length : Int)) = false := decide_eq_false hA1
        go_upto_region 15 with fail
        go_cut [9] from 51 to 53 (fun p wr => ∃ b, p = .pointer (some ⟨b, 0, none⟩) ∧ CellsAt wr b 0 (parseT (itemsDoc ks)) ∧ Below w.heap.size w wr)
        case first =>
          have kc := kcv wo
          have hba := bytes_at wo (itemsDoc ks) (by unfold maxLen; omega)
          have hbb := bytes_below wo 5 (S (itemsDoc ks))
          rw [S_size] at kc hba
          clear kcv
          generalize Lib.bytesWorld wo 5 (S (itemsDoc ks)) = wy at *
          have PP := Lib.hid (parse_any _ (itemsDoc ks) wy hba)
          have HBY := Lib.hid (HBEL.out.trans (hbb.mono HSZ.out))
          clear hba hbb
          go_wp2_with fail
          refine PP.out.mono ?_
          rintro e wa ⟨cs, rfl, ht, hb⟩
          have HB := Lib.hid (HBY.out.trans (hb.mono HBY.out.size))
          obtain ⟨A', n', rfl, h1, h2⟩ := ht.form
          have HC := Lib.hid (CellsAt.of (b := wa.heap.size) (ht.keep ((Below.refl wa.heap.size wa).alloc (Nat.le_refl _) _)) (Blk.new wa _ 31))
          have HB2 := Lib.hid (HB.out.alloc HB.out.size (.cells (blkCells (parseT (itemsDoc ks)).kind (parseT (itemsDoc ks)).level (parseT (itemsDoc ks)).text (parseT (itemsDoc ks)).info (parseT (itemsDoc ks)).line (.slice A' (parseT (itemsDoc ks)).kids.length n')) 31))
          clear ht hb
          unfold blkCells
          go_wp2
          go_meet
          case rel => exact ⟨_, rfl, HC.out, HB2.out⟩
        case rest =>
          obtain ⟨bt, rfl, hct, hbt⟩ := hcut
          obtain ⟨w1, rfl⟩ : ∃ x : World, x = wc := ⟨_, rfl⟩
          have HCT := Lib.hid hct
          have HBT := Lib.hid hbt
          clear hbt kcv
          generalize parseT (itemsDoc ks) = T at *
          obtain ⟨hlk, hkind, hsum⟩ := LAW.out
          have HLK := Lib.hid hlk
          have HKIND := Lib.hid hkind
          have HSUM := Lib.hid hsum
          have hkl20 : T.kids.length ≤ 20 := by rw [hlk]; omega
          clear hlk hkind hsum hlt hng
          obtain ⟨A1, n1, hs5, hs6, hs7⟩ : ∃ A1 n1, w1.cell? ⟨bt, 5, none⟩ = some (.slice A1 T.kids.length n1) ∧ T.kids.length ≤ n1 ∧ n1 ≤ maxLen := by
            obtain ⟨_, _, _, _, _, A1, n1, h5, h6, h7⟩ := hct.fields
            rw [Nat.zero_add] at h5
            exact ⟨A1, n1, h5, h6, h7⟩
          have HS5 := Lib.hid hs5
          have hn1 := hs7
          unfold maxLen at hn1
          clear hct hs7
          go_wp2
          go_loopw [10, 57] (fun n i wr => ∃ q : Nat, i = .int .i64 (q : Int) ∧ q ≤ T.kids.length ∧ n = .int .i64 ((kidSum T.kids q : Nat) : Int) ∧ Below w1.heap.size w1 wr)
            (fun _ i _ => T.kids.length - (intOf i).toNat)
          case atStart => exact ⟨0, rfl, by omega, rfl, Below.refl _ _⟩
          case round =>
            obtain ⟨q, rfl, hq, rfl, hbel⟩ := hrel
            obtain ⟨wq, rfl⟩ : ∃ x : World, x = wr := ⟨_, rfl⟩
            have HBQ := Lib.hid hbel
            clear hbel
            by_cases hql : q < T.kids.length
            · obtain ⟨g, n, hg5, hg1, hg2, _, hk⟩ := (HCT.out.below HBQ.out).kids (by omega)
              have e5 := (HBQ.out.cell (p := ⟨bt, 5, none⟩) HCT.out.lt).trans HS5.out
              rw [Nat.zero_add, e5] at hg5
              injection hg5 with hg5
              injection hg5 with hA _ hC
              subst hA hC
              obtain ⟨f0, f1, f2, f3, f4, A2, n2, f5, f6, f7⟩ := (hk q hql).fields
              have hkd := HKIND.out T.kids[q] (List.getElem_mem _)
              rw [hkd] at f0
              have hsl := kidSum_succ T.kids q hql
              have hbd := kidSum_le T.kids (q + 1)
              rw [HSUM.out] at hbd
              have hbd2 : kidSum T.kids q + T.kids[q].kids.length ≤ 20 := by omega
              have HSL := Lib.hid hsl
              have HSQ := Lib.hid HBQ.out.size
              have hlt' : (q : Int) < (T.kids.length : Int) := by omega
              unfold maxLen at f7
              clear hk hsl hkd e5 hbd
              go_wp2
              exact ⟨⟨q + 1, by go_num, by omega, by rw [HSL.out]; go_num, (HBQ.out.alloc HSQ.out _)⟩, by simp [intOf]; omega⟩
            · have hqe : q = T.kids.length := by omega
              have hge : ¬ (q : Int) < (T.kids.length : Int) := by omega
              have hsm : kidSum T.kids q = m := by
                rw [hqe, kidSum_all, HSUM.out]
              have hc1 : ((T.kids.length : Int) == ((countI ks (0, 0)).1 : Int)) = true := by rw [beq_iff_eq]; have := HLK.out; omega
              have hc2 : (((kidSum T.kids q : Nat) : Int) == (m : Int)) = true := by rw [beq_iff_eq]; omega
              have e5 := (HBQ.out.cell (p := ⟨bt, 5, none⟩) HCT.out.lt).trans HS5.out
              have HBW := Lib.hid (HBT.out.trans (HBQ.out.mono HBT.out.size))
              clear hsm hqe
              go_wp2_with fail
              refine (known_any _).mono ?_
              rintro e wk ⟨rfl, hbk⟩
              have HE := Lib.hid (HBW.out.trans (hbk.mono HBW.out.size))
              clear hbk
              go_wp2
              go_ret
              exact ⟨rfl, HE.out⟩
end Go.Proofs.YtjgaobkgmheocaaDoor
