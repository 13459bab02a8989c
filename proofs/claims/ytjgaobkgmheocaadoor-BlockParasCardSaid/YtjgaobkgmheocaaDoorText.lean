/- runes.Text: bytes as a text of runes. -/
import Derived.Test.YtjgaobkgmheocaaDoorLine
import Derived.Laws.BytesArg
import Derived.Lib.OthersKept
import Derived.BigCall
namespace Go.Proofs.YtjgaobkgmheocaaDoor
open Go Go.RowKit

theorem strOf_bytes (l : List UInt8) : strOfNums (l.map fun b => (b.toNat : Int)) = S l := by
  unfold strOfNums S
  rw [List.map_map]
  congr 2
  rw [List.map_congr_left (g := id)]
  · simp
  · intro b _
    simp
/-- string(b) of a slice of bytes that is read. -/
theorem conv_str {P : Program} {w : World} {v : Value} {l : List UInt8} (h : BytesAt w v l) (src dst e : TypeId) (hs : P.underlying src = some (.slice e)) (he : P.underlying e = some (.int .u8)) (hd : P.underlying dst = some .string) :
    (convert src dst v).run P w = .ok (.string (S l)) w := by
  obtain ⟨A, c, rfl, hc, hm, h0⟩ := h
  by_cases hl : 0 < l.length
  · obtain ⟨b, off, rfl, hk⟩ := h0 hl
    rw [← strOf_bytes]
    refine run_convert_bytes_arg w src e hs he b off l.length c (l.map fun b => (b.toNat : Int)) (by simp) (fun i hi => ?_) dst hd
    rw [hk i hi]
    simp [List.getD_eq_getElem?_getD, List.getElem?_eq_getElem hi]
  · have hl0 : l = [] := List.eq_nil_of_length_eq_zero (by omega)
    subst hl0
    cases A with
    | none => exact run_convert_bytes_nil w src e hs he 0 c dst hd
    | some a =>
      rw [run_convert_bytes_string w src dst e _ _ _ hs he hd]
      exact run_bytesToString w a 0 c [] (by simp [loadCells, loadCellsFrom])

def fixR (r : Nat) : Nat := if r = 0 then 65533 else r
def textFrom (s : ByteArray) : Nat → Nat → List UInt8
  | 0, _ => []
  | f + 1, pos => if pos < s.size then Lib.encodeRune (fixR (Utf8.decode s pos).1) ++ textFrom s f (pos + (Utf8.decode s pos).2) else []
def textR (l : List UInt8) : List UInt8 := textFrom (S l) l.length 0
theorem width_pos (s : ByteArray) (pos : Nat) (h : pos < s.size) : 1 ≤ (Utf8.decode s pos).2 := by
  by_cases ha : (s[pos]'h).toNat < 128
  · rw [decode_ascii s pos h ha]
    exact Nat.le_refl _
  · exact (decode_high s pos h (by omega)).2
theorem textFrom_end (s : ByteArray) (f pos : Nat) (h : ¬ pos < s.size) : textFrom s f pos = [] := by
  cases f with
  | zero => rfl
  | succ f => simp [textFrom, h]
theorem enc_le (r : Nat) : (Lib.encodeRune r).length ≤ 4 := by
  have h := Lib.runeCells_le (r : Int)
  rw [Lib.runeCells_length] at h
  exact h.2
theorem textFrom_le (s : ByteArray) : ∀ f pos, (textFrom s f pos).length ≤ 4 * f := by
  intro f
  induction f with
  | zero => intro pos; simp [textFrom]
  | succ f ih =>
    intro pos
    simp only [textFrom]
    split
    · rw [List.length_append]
      have h1 := enc_le (fixR (Utf8.decode s pos).1)
      have h2 := ih (pos + (Utf8.decode s pos).2)
      omega
    · simp
theorem textR_le (l : List UInt8) : (textR l).length ≤ 4 * l.length := textFrom_le _ _ _
set_option maxHeartbeats 4000000 in
set_option maxRecDepth 1000000 in
theorem text_any (v : Value) (l : List UInt8) (w : World) (hv : BytesAt w v l) (hl : l.length ≤ 17592186044416) :
    Calls Tryd.prog 17 #[v] w fun e w' => e = .returned (.string (S (textR l))) ∧ Below w.heap.size w w' := by
  have hs : (S l).size ≤ 17592186044416 := by rw [S_size]; exact hl
  have hR : textR l = textFrom (S l) (S l).size 0 := by rw [S_size]; rfl
  have kc : ∀ o : Obj, (convert 23 9 v).run Tryd.prog (w.alloc o) = .ok (.string (S l)) (w.alloc o) := fun o =>
    conv_str (hv.below ((Below.refl _ _).alloc (Nat.le_refl _) _)) _ _ _ Tryd.underlying23 Tryd.underlying5 Tryd.underlying9
  rw [hR]
  clear hR hv
  generalize S l = s at *
  go_enter Tryd.func17, Tryd.ntmps17
  go_wp2
  go_loopw [] (fun wr => ∃ (pos fuel : Nat) (acc : List UInt8), Lib.IsBuilderF 80 5 w.heap.size w.heap.size (Lib.byteCells acc) wr ∧ wr.heap[w.heap.size + 1]? = some (.stringIter s pos) ∧ Below w.heap.size w wr ∧ acc ++ textFrom s fuel pos = textFrom s s.size 0 ∧ s.size ≤ pos + fuel ∧ acc.length ≤ 4 * pos) (fun wr => s.size - wr.iterPos (w.heap.size + 1))
  case atStart =>
    refine ⟨0, s.size, [], (Lib.IsBuilderF.of (Lib.fresh_isBuilder 80 5 w)).alloc _, ?_, ((Below.refl _ w).alloc (Nat.le_refl _) _).alloc (by simp) _, rfl, by omega, by simp⟩
    have := World.iter_heap (w.alloc (.cells #[.pointer none, .slice none 0 0] 80)) s 0
    simpa using this
  case round =>
    obtain ⟨pos, fuel, acc, hI, hit, hbw, hacc, hfu, hal⟩ := hrel
    have hsz : w.heap.size + 1 < wr.heap.size := (Array.getElem?_eq_some_iff.1 hit).1
    clear kc
    by_cases hp : pos < s.size
    · have hnx : ∀ ty, (Instr.next (.pointer (some ⟨w.heap.size + 1, 0, none⟩)) true ty).run Tryd.prog wr = _ := fun ty => Lib.run_next_any_at wr (w.heap.size + 1) s pos ty hit hp
      have hwd := width_pos s pos hp
      have hd1 := decode_le s pos
      have hI2 := hI.iterAt hit (pos + (Utf8.decode s pos).2)
      have hit2 := Lib.iterAt_heap wr (w.heap.size + 1) s pos (pos + (Utf8.decode s pos).2) hit
      have hbw2 := Lib.below_iterAt hbw (k := w.heap.size + 1) (by omega) s (pos + (Utf8.decode s pos).2)
      have hsz2 : w.heap.size ≤ (wr.iterAt (w.heap.size + 1) s (pos + (Utf8.decode s pos).2)).heap.size := by rw [Lib.iterAt_size]; omega
      obtain ⟨f, rfl⟩ : ∃ f, fuel = f + 1 := ⟨fuel - 1, by omega⟩
      by_cases h0 : (Utf8.decode s pos).1 = 0
      · go_wp2_with (go_at_call 32; refine (writeRune_any w.heap.size w.heap.size _ 65533 (by omega) (by omega) _ hI2 (by rw [Lib.byteCells_length]; omega) hsz2).mono ?_)
        rintro e W1 ⟨rfl, h1, b1, k1⟩
        go_wp2
        go_roundw
        case rel =>
          refine ⟨pos + (Utf8.decode s pos).2, f, acc ++ Lib.encodeRune 65533, ?_, k1.iter hit2 (by omega), hbw2.trans b1, ?_, by omega, by rw [List.length_append]; have : (Lib.encodeRune (65533 : Int)).length ≤ 4 := enc_le 65533; omega⟩
          · rw [Lib.byteCells_append, Lib.byteCells_encodeRune]; exact Or.inr h1
          · rw [← hacc]; simp [textFrom, hp, h0, fixR]
        case measure =>
          simp only [World.iterPos, k1.iter hit2 (by omega), hit]
          omega
      · go_wp2_with (go_at_call 32; refine (writeRune_any w.heap.size w.heap.size _ _ (by omega) (by omega) _ hI2 (by rw [Lib.byteCells_length]; omega) hsz2).mono ?_)
        rintro e W1 ⟨rfl, h1, b1, k1⟩
        go_wp2
        go_roundw
        case rel =>
          have hl4 := enc_le (Utf8.decode s pos).1
          refine ⟨pos + (Utf8.decode s pos).2, f, acc ++ Lib.encodeRune (Utf8.decode s pos).1, ?_, k1.iter hit2 (by omega), hbw2.trans b1, ?_, by omega, by simp; omega⟩
          · rw [Lib.byteCells_append, Lib.byteCells_encodeRune]; exact Or.inr h1
          · rw [← hacc]; simp [textFrom, hp, h0, fixR]
        case measure =>
          simp only [World.iterPos, k1.iter hit2 (by omega), hit]
          omega
    · have hnx : ∀ ty, (Instr.next (.pointer (some ⟨w.heap.size + 1, 0, none⟩)) true ty).run Tryd.prog wr = _ := fun ty => Lib.run_next_end_at wr (w.heap.size + 1) s pos ty hit hp
      go_wp2_with (go_at_call 33; refine (Tryd.Builder_String_any_k w.heap.size w.heap.size acc _ hI (by omega)).mono ?_)
      rintro e W1 ⟨rfl, _, b1, _⟩
      go_wp2
      go_ret
      rw [textFrom_end s fuel pos hp, List.append_nil] at hacc
      subst hacc
      exact ⟨rfl, hbw.trans b1⟩
end Go.Proofs.YtjgaobkgmheocaaDoor
