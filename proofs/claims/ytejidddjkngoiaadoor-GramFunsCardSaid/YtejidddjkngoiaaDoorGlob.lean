/- What the walks lean on of the package variables: that they have the shape of their types, that strconv's table and its two sentinels hold what they hold. It is kept by whatever leaves the old blocks alone. -/
import Derived.Test.YtejidddjkngoiaaDoorWWords
import Derived.Test.YtejidddjkngoiaaDoorShelf
namespace Go.Proofs.YtejidddjkngoiaaDoor
open Go.RowKit Go.Proofs.YtejidddjkngoiaaDoorW.PrintWords
set_option linter.all false

def GFacts (w : World) : Prop :=
  w.ShapedOpen Tryd.prog ∧ Lib.TabIs Tryd.prog w "internal/strconv.uint64pow10" .u64 Lib.pow10Tab ∧
  (∃ tp p, w.var? Tryd.prog "strconv.ErrSyntax" = some #[.iface tp p]) ∧ (∃ tp p, w.var? Tryd.prog "strconv.ErrRange" = some #[.iface tp p])
def Glob (w : World) : Prop := ∀ w', Below w.heap.size w w' → GFacts w'
theorem Glob.here {w : World} (h : Glob w) : GFacts w := h w (Below.refl _ _)
theorem Glob.below {w W : World} (h : Glob w) (hb : Below w.heap.size w W) : Glob W := fun w' hb' => h w' (hb.trans (hb'.mono hb.size))
theorem Glob.drew {w : World} (h : Glob w) : Glob w.drew := h.below (below_drew (Below.refl _ _))
theorem Glob.drewN {w : World} (h : Glob w) (n : Nat) : Glob (w.drewN n) := h.below (pw_below_drewN (Below.refl _ _) n)

theorem contains_calls (a0 a1 : ByteArray) (w : World) (hG : Glob w) (h : a0.size < 4294967281) :
    Calls Tryd.prog 43 #[.string a0, .string a1] w fun e w' => e = .returned (.bool (Lib.contains a0.data.toList a1.data.toList)) ∧ Drawn0 w w' :=
  (Tryd.strings_Contains_shaped a0 a1 w hG.here.1 h).mono fun e w' ⟨he, hw⟩ => ⟨he, by subst hw; exact Drawn0.refl _⟩
theorem index_one (c : UInt8) : ∀ l : List UInt8, Lib.index l [c] = Lib.indexByte l c
  | [] => rfl
  | b :: l => by
    unfold Lib.index Lib.indexByte
    rw [index_one c l]
    by_cases h : b = c
    · simp [h, List.isPrefixOf]
    · have h2 : ¬ c = b := fun e => h e.symm
      simp [h, h2, List.isPrefixOf]
/-- a blank in a text, however long the text is -/
theorem contains_space (a0 : ByteArray) (w : World) :
    Calls Tryd.prog 43 #[.string a0, .string ⟨#[32]⟩] w fun e w' => e = .returned (.bool (Lib.contains a0.data.toList [32])) ∧ Drawn0 w w' :=
  (Any.strings_Contains_one { Tryd.laysM144 with } a0 32 w).mono fun e w' ⟨he, hw⟩ => ⟨by rw [he]; unfold Lib.contains; rw [index_one], by subst hw; exact Drawn0.refl _⟩
theorem indexByte_calls (a0 : ByteArray) (a1 : Int) (w : World) :
    Calls Tryd.prog 52 #[.string a0, .int .u8 a1] w fun e w' => e = .returned (.int .i64 (Lib.indexByte a0.data.toList a1.toNat.toUInt8)) ∧ Drawn0 w w' :=
  (Tryd.strings_IndexByte a0 a1 w).mono fun e w' ⟨he, hw⟩ => ⟨he, by subst hw; exact Drawn0.refl _⟩
end Go.Proofs.YtejidddjkngoiaaDoor
