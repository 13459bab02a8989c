/- block.takes. -/
import Derived.Test.YtjgaobkgmheocaaDoorPrs
namespace Go.Proofs.YtjgaobkgmheocaaDoor
open Go Go.RowKit

def takesV (n : Nd) (s : List UInt8) : Option (List UInt8) :=
  if n.kind = 1 then quote s
  else if empty s then some s
  else if (indent s).1 < n.inn then none
  else some (strip s n.inn)
set_option maxRecDepth 100000 in
set_option maxHeartbeats 1000000 in
theorem takes_any {w : World} {base p : Nat} {ad : Nat → Nat} {own : Nat → Role} {KP : Nat → Option Obj} {st : PS} (H : Holds KP w base p ad own st) (i : Nat) (hi : i < st.nodes.length) (s : List UInt8) (hs : s.length ≤ 140737488355328) (hin : (st.nd i).inn ≤ 1000000000) :
    Calls Tryd.prog 24 #[ptr (ad i), .string (S s)] w fun e w' => e = .returned (.tuple #[.string (S ((takesV (st.nd i) s).getD [])), .bool (takesV (st.nd i) s).isSome]) ∧ Below w.heap.size w w' := by
  obtain ⟨vl, vk, hb, _⟩ := H.nds i hi
  have hk0 := hb.at_ 0 (.int .i64 (st.nd i).kind) rfl
  have hk7 := hb.at_ 7 (.int .i64 (st.nd i).inn) rfl
  have HB := Lib.hid hb
  have QT := Lib.hid (quote_any s w hs)
  have EM := Lib.hid (empty_any s w hs)
  have IN := Lib.hid (fun w => indent_any s w hs)
  have ST := Lib.hid (fun w => strip_any s (st.nd i).inn w hs (by omega) (by omega))
  clear hb H
  unfold ptr
  by_cases h1 : (st.nd i).kind = 1
  · have hv : takesV (st.nd i) s = quote s := by unfold takesV; rw [if_pos h1]
    rw [h1] at hk0
    have HV := Lib.hid hv
    clear hv h1
    go_enter Tryd.func24, Tryd.ntmps24
    go_wp2_with fail
    refine QT.out.mono ?_
    rintro e w1 ⟨rfl, hb1⟩
    go_wp2
    go_ret2
    exact ⟨by rw [HV.out]; rfl, hb1⟩
  · have hk1 : ((((st.nd i).kind : Nat) : Int) == 1) = false := by rw [beq_eq_false_iff_ne]; omega
    have HV := Lib.hid (show takesV (st.nd i) s = if empty s then some s else if (indent s).1 < (st.nd i).inn then none else some (strip s (st.nd i).inn) by unfold takesV; rw [if_neg h1])
    go_enter Tryd.func24, Tryd.ntmps24
    go_wp2_with fail
    refine EM.out.mono ?_
    rintro e w1 ⟨rfl, rfl⟩
    cases he : empty s with
    | true =>
      have HE := Lib.hid he
      clear he
      go_wp2
      go_ret2
      exact ⟨by rw [HV.out, if_pos HE.out]; rfl, Below.refl _ _⟩
    | false =>
      have HE := Lib.hid he
      clear he
      go_wp2_with fail
      refine (IN.out _).mono ?_
      rintro e w1 ⟨rfl, rfl⟩
      by_cases hlt : (indent s).1 < (st.nd i).inn
      · have hlt' : ((indent s).1 : Int) < ((st.nd i).inn : Int) := by omega
        go_wp2
        go_ret2
        exact ⟨by rw [HV.out, if_neg (by rw [HE.out]; nofun), if_pos hlt]; rfl, Below.refl _ _⟩
      · have hlt' : ¬ ((indent s).1 : Int) < ((st.nd i).inn : Int) := by omega
        go_wp2_with fail
        refine (ST.out _).mono ?_
        rintro e w1 ⟨rfl, hb1⟩
        go_wp2
        go_ret2
        exact ⟨by rw [HV.out, if_neg (by rw [HE.out]; nofun), if_neg hlt]; rfl, hb1⟩
end Go.Proofs.YtjgaobkgmheocaaDoor
