/-
  The library's functions by the shelf's contracts, and what the package-level variables hold.
-/
import Derived.Test.YtlhdndnohmikeaaGreatDoorLay
import Derived.Test.YtlhdndnohmikeaaGreatDoorApp
set_option linter.unusedVariables false
set_option linter.unusedSimpArgs false
namespace Go.Proofs.YtlhdndnohmikeaaGreatDoor
open Go.RowKit

def lettersL : List UInt8 := [97, 98, 99, 100, 101, 102, 103, 104, 105, 106, 107, 108, 109, 110, 111, 112, 113, 114, 115, 116, 117, 118, 119, 120, 121, 122, 48, 49, 50, 51, 52, 53, 54, 55, 56, 57, 95]
def validB (s : ByteArray) : Bool := Lib.validD s.data.toList
def trimmed (s : ByteArray) : ByteArray := ⟨(Lib.trimS s.data.toList lettersL).toArray⟩
/-- What the package-level variables hold. -/
structure Glob (w : World) : Prop where
  names : ∀ j, j < 6 → ∃ s, w.cell? ⟨1, j, none⟩ = some (.string s)
  frames0 : w.cell? ⟨0, 0, none⟩ = some (.int .i64 2)
  frames1 : w.cell? ⟨0, 1, none⟩ = some (.int .i64 1)
  tabs : Lib.Utf8Tabs 2 3 w
theorem Glob.below {w w' : World} (h : Glob w) (hb : Below w.heap.size w w') : Glob w' :=
  ⟨fun j hj => by obtain ⟨s, hs⟩ := h.names j hj; exact ⟨s, (hb.cell (World.block_lt_of_cell? w _ hs)).trans hs⟩, (hb.cell (World.block_lt_of_cell? w _ h.frames0)).trans h.frames0, (hb.cell (World.block_lt_of_cell? w _ h.frames1)).trans h.frames1, Utf8Tabs_below h.tabs hb⟩
theorem valid_calls (s : ByteArray) (w : World) (hG : Glob w) (hs : s.size ≤ maxLen) :
    Calls Tryz.prog 156 #[.string s] w fun e w' => e = .returned (.bool (validB s)) ∧ Below w.heap.size w w' :=
  Any.utf8_ValidString Tryz.lays196 s w (by unfold maxLen at hs; omega) hG.tabs
theorem trim_calls (s : ByteArray) (w : World) (hs : s.size ≤ maxLen) :
    Calls Tryz.prog 152 #[.string s, .string ⟨#[97, 98, 99, 100, 101, 102, 103, 104, 105, 106, 107, 108, 109, 110, 111, 112, 113, 114, 115, 116, 117, 118, 119, 120, 121, 122, 48, 49, 50, 51, 52, 53, 54, 55, 56, 57, 95]⟩] w fun e w' => e = .returned (.string (trimmed s)) ∧ Below w.heap.size w w' :=
  Any.strings_Trim_laid Tryz.lays160 (by kernel_rfl) s ⟨#[97, 98, 99, 100, 101, 102, 103, 104, 105, 106, 107, 108, 109, 110, 111, 112, 113, 114, 115, 116, 117, 118, 119, 120, 121, 122, 48, 49, 50, 51, 52, 53, 54, 55, 56, 57, 95]⟩ w (by unfold maxLen at hs; omega) (by decide) (ascii_of_all (by decide))
theorem strCompare_calls (a b : ByteArray) (w : World) :
    Calls Tryz.prog 197 #[.string a, .string b] w fun e w' => e = .returned (.int .i64 (Lib.compareBytes a.data.toList b.data.toList)) ∧ w' = w := Any.strings_Compare Tryz.lays106 a b w
theorem len64_calls (x : Int) (w : World) (h0 : 0 ≤ x) (h1 : x ≤ 18446744073709551615) :
    Calls Tryz.prog 171 #[.int .u64 x] w fun e w' => e = .returned (.int .i64 (Lib.bitLen x.toNat)) ∧ w' = w := Any.bits_Len64 Tryz.lays129 x w h0 h1
end Go.Proofs.YtlhdndnohmikeaaGreatDoor
