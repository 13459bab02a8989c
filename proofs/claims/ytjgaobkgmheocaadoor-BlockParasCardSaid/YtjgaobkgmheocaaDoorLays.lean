/- Layings of library contracts by hand (those that the shelf's command left out), and the forms used here. -/
import Derived.Test.YtjgaobkgmheocaaDoorShelf
import Derived.Test.YtjgaobkgmheocaaDoorStr
import Derived.Shelf.Strings.SlTrimAscii
namespace Go.Proofs
open Go.Shelf
def Tryd.h168_ren : Go.Shelf.Ren := ⟨fun | 168 => 32 | 240 => 52 | 242 => 53 | 276 => 71 | 278 => 72 | n => n, fun | 0 => 0 | 3 => 3 | 4 => 4 | 5 => 5 | 9 => 9 | 20 => 20 | 21 => 21 | 37 => 23 | 46 => 110 | 51 => 125 | 70 => 78 | 72 => 80 | 75 => 82 | 80 => 48 | 164 => 123 | n => n, fun | n => n⟩
theorem Tryd.h168 : Go.Proofs.Lays.n168 Tryd.prog Tryd.h168_ren := {
  mixed := by kernel_rfl
  f168 := Tryd.func32.trans (congrArg some (by kernel_rfl))
  f240 := Tryd.func52.trans (congrArg some (by kernel_rfl))
  f242 := Tryd.func53.trans (congrArg some (by kernel_rfl))
  f276 := Tryd.func71.trans (congrArg some (by kernel_rfl))
  f278 := Tryd.func72.trans (congrArg some (by kernel_rfl))
  t0 := Tryd.underlying0
  a0 := Tryd.isAgg0
  z0 := Tryd.sizeOf0
  v0 := Tryd.zeroValue0
  t3 := Tryd.underlying3
  a3 := Tryd.isAgg3
  z3 := Tryd.sizeOf3
  v3 := Tryd.zeroValue3
  t4 := Tryd.underlying4
  a4 := Tryd.isAgg4
  z4 := Tryd.sizeOf4
  v4 := Tryd.zeroValue4
  t5 := Tryd.underlying5
  a5 := Tryd.isAgg5
  z5 := Tryd.sizeOf5
  v5 := Tryd.zeroValue5
  t9 := Tryd.underlying9
  a9 := Tryd.isAgg9
  z9 := Tryd.sizeOf9
  v9 := Tryd.zeroValue9
  t20 := Tryd.underlying20
  a20 := Tryd.isAgg20
  z20 := Tryd.sizeOf20
  v20 := Tryd.zeroValue20
  t21 := Tryd.underlying21
  a21 := Tryd.isAgg21
  z21 := Tryd.sizeOf21
  v21 := Tryd.zeroValue21
  t37 := Tryd.underlying23
  a37 := Tryd.isAgg23
  z37 := Tryd.sizeOf23
  v37 := Tryd.zeroValue23
  t46 := Tryd.underlying110
  a46 := Tryd.isAgg110
  z46 := Tryd.sizeOf110
  v46 := Tryd.zeroValue110
  t51 := Tryd.underlying125
  a51 := Tryd.isAgg125
  z51 := Tryd.sizeOf125
  v51 := Tryd.zeroValue125
  t70 := Tryd.underlying78
  a70 := Tryd.isAgg78
  z70 := Tryd.sizeOf78
  v70 := Tryd.zeroValue78
  t72 := Tryd.underlying80
  a72 := Tryd.isAgg80
  z72 := Tryd.sizeOf80
  v72 := Tryd.zeroValue80
  t75 := Tryd.underlying82
  a75 := Tryd.isAgg82
  z75 := Tryd.sizeOf82
  v75 := Tryd.zeroValue82
  t164 := Tryd.underlying123
  a164 := Tryd.isAgg123
  z164 := Tryd.sizeOf123
  v164 := Tryd.zeroValue123 }
theorem Tryd.Builder_Extra_h168 : Builder.Extra Tryd.prog Tryd.h168_ren := {
  sizeBuilder := by kernel_rfl
  liesBuilder := by kernel_rfl
  t5 := Tryd.underlying5
  a5 := Tryd.isAgg5
  z5 := Tryd.sizeOf5
  v5 := Tryd.zeroValue5
  infoByte := by kernel_rfl
  cellsByte := by kernel_rfl
  sizeByte := by kernel_rfl
  neB5 := by decide }

def Tryd.h166_ren : Go.Shelf.Ren := ⟨fun | 166 => 55 | 240 => 52 | 276 => 71 | n => n, fun | 0 => 0 | 3 => 3 | 4 => 4 | 9 => 9 | 20 => 20 | 37 => 23 | 70 => 78 | 72 => 80 | 75 => 82 | 80 => 48 | 164 => 123 | 5 => 5 | n => n, fun | n => n⟩
theorem Tryd.h166 : Go.Proofs.Lays.n166 Tryd.prog Tryd.h166_ren := {
  mixed := by kernel_rfl
  f166 := Tryd.func55.trans (congrArg some (by kernel_rfl))
  f240 := Tryd.func52.trans (congrArg some (by kernel_rfl))
  f276 := Tryd.func71.trans (congrArg some (by kernel_rfl))
  t0 := Tryd.underlying0
  a0 := Tryd.isAgg0
  z0 := Tryd.sizeOf0
  v0 := Tryd.zeroValue0
  t3 := Tryd.underlying3
  a3 := Tryd.isAgg3
  z3 := Tryd.sizeOf3
  v3 := Tryd.zeroValue3
  t4 := Tryd.underlying4
  a4 := Tryd.isAgg4
  z4 := Tryd.sizeOf4
  v4 := Tryd.zeroValue4
  t9 := Tryd.underlying9
  a9 := Tryd.isAgg9
  z9 := Tryd.sizeOf9
  v9 := Tryd.zeroValue9
  t20 := Tryd.underlying20
  a20 := Tryd.isAgg20
  z20 := Tryd.sizeOf20
  v20 := Tryd.zeroValue20
  t37 := Tryd.underlying23
  a37 := Tryd.isAgg23
  z37 := Tryd.sizeOf23
  v37 := Tryd.zeroValue23
  t70 := Tryd.underlying78
  a70 := Tryd.isAgg78
  z70 := Tryd.sizeOf78
  v70 := Tryd.zeroValue78
  t72 := Tryd.underlying80
  a72 := Tryd.isAgg80
  z72 := Tryd.sizeOf80
  v72 := Tryd.zeroValue80
  t75 := Tryd.underlying82
  a75 := Tryd.isAgg82
  z75 := Tryd.sizeOf82
  v75 := Tryd.zeroValue82
  t164 := Tryd.underlying123
  a164 := Tryd.isAgg123
  z164 := Tryd.sizeOf123
  v164 := Tryd.zeroValue123 }
theorem Tryd.Builder_Extra_h166 : Builder.Extra Tryd.prog Tryd.h166_ren := {
  sizeBuilder := by kernel_rfl
  liesBuilder := by kernel_rfl
  t5 := Tryd.underlying5
  a5 := Tryd.isAgg5
  z5 := Tryd.sizeOf5
  v5 := Tryd.zeroValue5
  infoByte := by kernel_rfl
  cellsByte := by kernel_rfl
  sizeByte := by kernel_rfl
  neB5 := by decide }

end Go.Proofs
namespace Go.Proofs.YtjgaobkgmheocaaDoor
open Go Go.RowKit

theorem writeRune_any (B b : Nat) (bs : List Value) (r : Int) (hr0 : -2147483648 ≤ r) (hr1 : r ≤ 2147483647) (w : World) (h : Lib.IsBuilderF 80 5 B b bs w) (hlen : bs.length + 4 ≤ 140737488355328) (hBw : B ≤ w.heap.size) :
    Calls Tryd.prog 32 #[.pointer (some ⟨b, 0, none⟩), .int .i32 r] w fun e w' => e = .returned (.tuple #[.int .i64 (Lib.runeCells r).length, .nilIface]) ∧
      (Lib.BuilderAtF 80 5 B b (.pointer (some ⟨b, 0, none⟩)) (bs ++ Lib.runeCells r) w' ∧ Below B w w' ∧ Lib.OthersKept 5 (some b) w w') :=
  Any.Builder_WriteRune_k Tryd.h168 Tryd.Builder_Extra_h168 B b bs r hr0 hr1 w h hlen hBw

/-! Trim at blanks and tabs -/
def trimL (l : List UInt8) : List UInt8 := l.dropWhile white
def trimR (l : List UInt8) : List UInt8 := (l.reverse.dropWhile white).reverse
def trim (l : List UInt8) : List UInt8 := trimL (trimR l)
theorem white_set (c : UInt8) : [32, 9].contains c = white c := by simp [white, List.contains, List.elem]; cases h : (c == 32) <;> cases h' : (c == 9) <;> simp_all
theorem trimRightS_white (l : List UInt8) : Lib.trimRightS l [32, 9] = trimR l := by
  unfold Lib.trimRightS trimR
  congr 2
  funext c
  exact white_set c
theorem trimLeftS_white (l : List UInt8) : Lib.trimLeftS l [32, 9] = trimL l := by
  unfold Lib.trimLeftS trimL
  congr 1
  funext c
  exact white_set c
theorem trimS_white (l : List UInt8) : Lib.trimS l [32, 9] = trim l := by unfold Lib.trimS trim; rw [trimRightS_white, trimLeftS_white]
theorem trim_any (l : List UInt8) (w : World) (hl : l.length ≤ 140737488355328) :
    Calls Tryd.prog 51 #[.string (S l), .string ⟨#[32, 9]⟩] w fun e w' => e = .returned (.string (S (trim l))) ∧ Below w.heap.size w w' := by
  refine (Any.strings_Trim_laid Tryd.lays160 (by kernel_rfl) (S l) ⟨#[32, 9]⟩ w (by rw [S_size]; omega) (by decide) (ascii_of_all (by decide))).mono ?_
  rintro e w' ⟨rfl, hb⟩
  refine ⟨?_, hb⟩
  rw [S_list, show (⟨#[32, 9]⟩ : ByteArray).data.toList = [32, 9] from rfl, trimS_white]
  rfl
theorem trimRight_any (l : List UInt8) (w : World) (hl : l.length ≤ 140737488355328) :
    Calls Tryd.prog 63 #[.string (S l), .string ⟨#[32, 9]⟩] w fun e w' => e = .returned (.string (S (trimR l))) ∧ Below w.heap.size w w' := by
  refine (Any.strings_TrimRight_laid Tryd.lays162 (by kernel_rfl) (S l) ⟨#[32, 9]⟩ w (by rw [S_size]; omega) (by decide) (ascii_of_all (by decide))).mono ?_
  rintro e w' ⟨rfl, hb⟩
  refine ⟨?_, hb⟩
  rw [S_list, show (⟨#[32, 9]⟩ : ByteArray).data.toList = [32, 9] from rfl, trimRightS_white]
  rfl
def trimHash (l : List UInt8) : List UInt8 := (l.reverse.dropWhile (· == 35)).reverse
theorem trimHash_any (l : List UInt8) (w : World) (hl : l.length ≤ 140737488355328) :
    Calls Tryd.prog 63 #[.string (S l), .string ⟨#[35]⟩] w fun e w' => e = .returned (.string (S (trimHash l))) ∧ Below w.heap.size w w' := by
  refine (Tryd.strings_TrimRight_one (S l) 35 (by decide) w (by rw [S_size]; omega)).mono ?_
  rintro e w' ⟨rfl, rfl⟩
  refine ⟨?_, Below.refl _ _⟩
  rw [S_list]
  rfl

/-! strings.IndexByte held against 0 -/
theorem indexByte_neg (l : List UInt8) (c : UInt8) : Lib.indexByte l c ≥ -1 ∧ (Lib.indexByte l c < 0 ↔ c ∉ l) := by
  induction l with
  | nil => simp [Lib.indexByte]
  | cons b r ih =>
    simp only [Lib.indexByte]
    by_cases h : b = c
    · subst h; simp
    · have h' : (b == c) = false := by simpa using h
      have h'' : ¬ c = b := fun e => h e.symm
      rw [if_neg (by simp [h])]
      by_cases h2 : Lib.indexByte r c = -1
      · rw [if_pos (by simp [h2])]
        have := ih.2.1 (by omega)
        simp [h'', this]
      · rw [if_neg (by simpa using h2)]
        have h3 : ¬ Lib.indexByte r c < 0 := by omega
        have h4 : c ∈ r := by
          by_cases h5 : c ∈ r
          · exact h5
          · exact absurd (ih.2.2 h5) h3
        refine ⟨by omega, ?_⟩
        simp [h'', h4]
        omega
theorem indexByte_any (l : List UInt8) (c : UInt8) (w : World) :
    Calls Tryd.prog 62 #[.string (S l), .int .u8 c.toNat] w fun e w' => e = .returned (.int .i64 (Lib.indexByte l c)) ∧ w = w' := by
  refine (Tryd.strings_IndexByte (S l) c.toNat w).mono ?_
  rintro e w' ⟨rfl, rfl⟩
  rw [S_list]
  simp
/-- At a constant set: held against 0. -/
theorem indexByte_white (c : UInt8) : (Lib.indexByte [32, 9] c < 0) ↔ white c = false := by
  rw [(indexByte_neg _ _).2]
  simp [white]
end Go.Proofs.YtjgaobkgmheocaaDoor
