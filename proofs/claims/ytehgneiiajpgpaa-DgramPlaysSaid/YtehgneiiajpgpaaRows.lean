/-
  No cell of these rows narrows 'for every input' (looked for: loops, veiled, ifaces, maps, wideKeys, modest, calm, conditions, laid).
  DERIVED. THE GIVEN ROWS OF THIS SEAT. 6 by the template 'for every input the law returns true; each argument reads behind the call as it read before'; 0 by the template 'total and deterministic' (their statements: YtehgneiiajpgpaaTotals.lean).
  GIVEN WITH THE SEED: the statements are not yours to turn. If you find one false, say at which input.
  Laid BY PROGRAM, IN A SANDBOX (cutbox-rows.mjs): the forced cells as the released guide's own fill.sh prints them over the translation 86b103f8a8662c3c… (all of the seat's roots in one cut). By AI agents, Wed Nov 11 2026. No macro, syntax, notation, axiom, sorry.
-/
import Derived.Test.YtehgneiiajpgpaaChecked
import GoSem.Claim
import GoSem.ClaimJoined
import GoSem.ClaimMapViews
import Derived.JoinedTies
import Derived.KernelRfl
namespace Go.Proofs.Ytehgneiiajpgpaa
/- THE CELL 'sum', in the pinned program and in every row, IS THE sha256 OF THE DUMP (.gsa) THAT YtehgneiiajpgpaaProg.lean LOADS. Nothing in Lean hashes anything: it is a label: what it is worth is what the hold of that sum in a sandbox is worth. -/
noncomputable def Try.pinned : Pinned := { name := "ytehgneiiajpgpaa", sum := "86b103f8a8662c3cbf54114342d9c6d0cd2d9a3d4de9f16d899cdc5220b98712", checked := Try.checked }
namespace Rows
def none {H : Type} : Left H := { results := [], args := [] }

/-- 'rookerylaw01.NumInts': WHATEVER THE INPUT: true; the input reads as it did. -/
def numIntsSpec : ChangeSpec := { name := "numInts", fn := fun _ => fun
  | [d1, d2] => { results := [.lit (.bool true)], args := [d1, d2] }
  | _ => none }
def numIntsRow : OpenClaim := { program := "ytehgneiiajpgpaa", sum := "86b103f8a8662c3cbf54114342d9c6d0cd2d9a3d4de9f16d899cdc5220b98712", func := "rookery/rookerylaw01.NumInts", spec := "numInts", unfollowed := true, recurses := true, apart := false }
def NumIntsSaid : Prop := numIntsRow.holds Try.pinned (OpenSpec.ofChange numIntsSpec)

/-- ITS FALSE NEIGHBOUR: 'it returns false'. Refute it at one input. -/
def numIntsWrong : ChangeSpec := { name := "numInts", fn := fun _ => fun
  | [d1, d2] => { results := [.lit (.bool false)], args := [d1, d2] }
  | _ => none }
def NumIntsWrongFalsely : Prop := numIntsRow.holds Try.pinned (OpenSpec.ofChange numIntsWrong)

/-- 'rookerylaw09.DgramFull': WHATEVER THE INPUT: true; the input reads as it did. -/
def dgramFullSpec : ChangeSpec := { name := "dgramFull", fn := fun _ => fun
  | [d1, d2] => { results := [.lit (.bool true)], args := [d1, d2] }
  | _ => none }
def dgramFullRow : OpenClaim := { program := "ytehgneiiajpgpaa", sum := "86b103f8a8662c3cbf54114342d9c6d0cd2d9a3d4de9f16d899cdc5220b98712", func := "rookery/rookerylaw09.DgramFull", spec := "dgramFull", apart := false }
def DgramFullSaid : Prop := dgramFullRow.holds Try.pinned (OpenSpec.ofChange dgramFullSpec)

/-- ITS FALSE NEIGHBOUR: 'it returns false'. Refute it at one input. -/
def dgramFullWrong : ChangeSpec := { name := "dgramFull", fn := fun _ => fun
  | [d1, d2] => { results := [.lit (.bool false)], args := [d1, d2] }
  | _ => none }
def DgramFullWrongFalsely : Prop := dgramFullRow.holds Try.pinned (OpenSpec.ofChange dgramFullWrong)

/-- 'rookerylaw09.DgramKeeps': WHATEVER THE INPUT: true; the input reads as it did. -/
def dgramKeepsSpec : ChangeSpec := { name := "dgramKeeps", fn := fun _ => fun
  | [d] => { results := [.lit (.bool true)], args := [d] }
  | _ => none }
def dgramKeepsRow : OpenClaim := { program := "ytehgneiiajpgpaa", sum := "86b103f8a8662c3cbf54114342d9c6d0cd2d9a3d4de9f16d899cdc5220b98712", func := "rookery/rookerylaw09.DgramKeeps", spec := "dgramKeeps", apart := false }
def DgramKeepsSaid : Prop := dgramKeepsRow.holds Try.pinned (OpenSpec.ofChange dgramKeepsSpec)

/-- ITS FALSE NEIGHBOUR: 'it returns false'. Refute it at one input. -/
def dgramKeepsWrong : ChangeSpec := { name := "dgramKeeps", fn := fun _ => fun
  | [d] => { results := [.lit (.bool false)], args := [d] }
  | _ => none }
def DgramKeepsWrongFalsely : Prop := dgramKeepsRow.holds Try.pinned (OpenSpec.ofChange dgramKeepsWrong)

/-- 'rookerylaw09.DgramPlays': WHATEVER THE INPUT: true; the input reads as it did. -/
def dgramPlaysSpec : ChangeSpec := { name := "dgramPlays", fn := fun _ => fun
  | [d1, d2] => { results := [.lit (.bool true)], args := [d1, d2] }
  | _ => none }
def dgramPlaysRow : OpenClaim := { program := "ytehgneiiajpgpaa", sum := "86b103f8a8662c3cbf54114342d9c6d0cd2d9a3d4de9f16d899cdc5220b98712", func := "rookery/rookerylaw09.DgramPlays", spec := "dgramPlays", apart := false }
def DgramPlaysSaid : Prop := dgramPlaysRow.holds Try.pinned (OpenSpec.ofChange dgramPlaysSpec)

/-- ITS FALSE NEIGHBOUR: 'it returns false'. Refute it at one input. -/
def dgramPlaysWrong : ChangeSpec := { name := "dgramPlays", fn := fun _ => fun
  | [d1, d2] => { results := [.lit (.bool false)], args := [d1, d2] }
  | _ => none }
def DgramPlaysWrongFalsely : Prop := dgramPlaysRow.holds Try.pinned (OpenSpec.ofChange dgramPlaysWrong)

/-- 'rookerylaw09.DgramCounts': WHATEVER THE INPUT: true; the input reads as it did. -/
def dgramCountsSpec : ChangeSpec := { name := "dgramCounts", fn := fun _ => fun
  | [d1, d2] => { results := [.lit (.bool true)], args := [d1, d2] }
  | _ => none }
def dgramCountsRow : OpenClaim := { program := "ytehgneiiajpgpaa", sum := "86b103f8a8662c3cbf54114342d9c6d0cd2d9a3d4de9f16d899cdc5220b98712", func := "rookery/rookerylaw09.DgramCounts", spec := "dgramCounts", apart := false }
def DgramCountsSaid : Prop := dgramCountsRow.holds Try.pinned (OpenSpec.ofChange dgramCountsSpec)

/-- ITS FALSE NEIGHBOUR: 'it returns false'. Refute it at one input. -/
def dgramCountsWrong : ChangeSpec := { name := "dgramCounts", fn := fun _ => fun
  | [d1, d2] => { results := [.lit (.bool false)], args := [d1, d2] }
  | _ => none }
def DgramCountsWrongFalsely : Prop := dgramCountsRow.holds Try.pinned (OpenSpec.ofChange dgramCountsWrong)

/-- 'rookerylaw09.DgramNil': WHATEVER THE INPUT: true; the input reads as it did. -/
def dgramNilSpec : ChangeSpec := { name := "dgramNil", fn := fun _ => fun
  | [d] => { results := [.lit (.bool true)], args := [d] }
  | _ => none }
def dgramNilRow : OpenClaim := { program := "ytehgneiiajpgpaa", sum := "86b103f8a8662c3cbf54114342d9c6d0cd2d9a3d4de9f16d899cdc5220b98712", func := "rookery/rookerylaw09.DgramNil", spec := "dgramNil", apart := false }
def DgramNilSaid : Prop := dgramNilRow.holds Try.pinned (OpenSpec.ofChange dgramNilSpec)

/-- ITS FALSE NEIGHBOUR: 'it returns false'. Refute it at one input. -/
def dgramNilWrong : ChangeSpec := { name := "dgramNil", fn := fun _ => fun
  | [d] => { results := [.lit (.bool false)], args := [d] }
  | _ => none }
def DgramNilWrongFalsely : Prop := dgramNilRow.holds Try.pinned (OpenSpec.ofChange dgramNilWrong)

/- THE SECOND FORM. 'bulk': how many values and letters a reading holds, each counted each time it is reached (what is shared counts as often as it is met; a slice's spare places count too). A statement '..UptoSaid' is the law's where the arguments, and the package variables that the reading takes, are together of bulk at most 1048576: NARROWER than '..Said'. Prove '..Said' where nothing that the law and all that it calls make is longer than what came in: it says more and counts as full. Else prove '..UptoSaid'. A law counts once. -/
mutual
def uptoBulk {H : Type} : DataW H → Nat
  | .lit (.string bytes) => bytes.length + 1
  | .lit _ => 1
  | .nil => 1
  | .ptr d => uptoBulk d + 1
  | .slice elems spare => uptoBulkAll elems + uptoBulkAll spare + 1
  | .agg parts => uptoBulkAll parts + 1
  | .iface _ d => uptoBulk d + 1
  | .map entries => uptoBulkEntries entries + 1
  | .held _ => 1
def uptoBulkAll {H : Type} : List (DataW H) → Nat
  | [] => 0
  | d :: r => uptoBulk d + uptoBulkAll r
def uptoBulkEntries {H : Type} : List (Lit × DataW H) → Nat
  | [] => 0
  | x :: r => uptoBulkEntry x + uptoBulkEntries r
def uptoBulkEntry {H : Type} : Lit × DataW H → Nat
  | (.string bytes, d) => bytes.length + uptoBulk d + 1
  | (_, d) => uptoBulk d + 1
 end
def uptoSmall : (H : Type) → List (DataW H) → Bool := fun _ ds => decide (uptoBulkAll ds ≤ 1048576)
def OpenSpec.upto (s : _root_.Go.ChangeSpec) : _root_.Go.OpenSpec := { _root_.Go.OpenSpec.ofChange s with cond := some uptoSmall }

/-- 'rookerylaw01.NumInts', WHERE WHAT IT READS IS OF BULK AT MOST 1048576: true; the input reads as it did. -/
def numIntsUptoRow : OpenClaim := { program := "ytehgneiiajpgpaa", sum := "86b103f8a8662c3cbf54114342d9c6d0cd2d9a3d4de9f16d899cdc5220b98712", func := "rookery/rookerylaw01.NumInts", spec := "numInts", unfollowed := true, recurses := true, apart := false, narrowed := true }
def NumIntsUptoSaid : Prop := numIntsUptoRow.holds Try.pinned (OpenSpec.upto numIntsSpec)

/-- 'rookerylaw09.DgramFull', WHERE WHAT IT READS IS OF BULK AT MOST 1048576: true; the input reads as it did. -/
def dgramFullUptoRow : OpenClaim := { program := "ytehgneiiajpgpaa", sum := "86b103f8a8662c3cbf54114342d9c6d0cd2d9a3d4de9f16d899cdc5220b98712", func := "rookery/rookerylaw09.DgramFull", spec := "dgramFull", apart := false, narrowed := true }
def DgramFullUptoSaid : Prop := dgramFullUptoRow.holds Try.pinned (OpenSpec.upto dgramFullSpec)

/-- 'rookerylaw09.DgramKeeps', WHERE WHAT IT READS IS OF BULK AT MOST 1048576: true; the input reads as it did. -/
def dgramKeepsUptoRow : OpenClaim := { program := "ytehgneiiajpgpaa", sum := "86b103f8a8662c3cbf54114342d9c6d0cd2d9a3d4de9f16d899cdc5220b98712", func := "rookery/rookerylaw09.DgramKeeps", spec := "dgramKeeps", apart := false, narrowed := true }
def DgramKeepsUptoSaid : Prop := dgramKeepsUptoRow.holds Try.pinned (OpenSpec.upto dgramKeepsSpec)

/-- 'rookerylaw09.DgramPlays', WHERE WHAT IT READS IS OF BULK AT MOST 1048576: true; the input reads as it did. -/
def dgramPlaysUptoRow : OpenClaim := { program := "ytehgneiiajpgpaa", sum := "86b103f8a8662c3cbf54114342d9c6d0cd2d9a3d4de9f16d899cdc5220b98712", func := "rookery/rookerylaw09.DgramPlays", spec := "dgramPlays", apart := false, narrowed := true }
def DgramPlaysUptoSaid : Prop := dgramPlaysUptoRow.holds Try.pinned (OpenSpec.upto dgramPlaysSpec)

/-- 'rookerylaw09.DgramCounts', WHERE WHAT IT READS IS OF BULK AT MOST 1048576: true; the input reads as it did. -/
def dgramCountsUptoRow : OpenClaim := { program := "ytehgneiiajpgpaa", sum := "86b103f8a8662c3cbf54114342d9c6d0cd2d9a3d4de9f16d899cdc5220b98712", func := "rookery/rookerylaw09.DgramCounts", spec := "dgramCounts", apart := false, narrowed := true }
def DgramCountsUptoSaid : Prop := dgramCountsUptoRow.holds Try.pinned (OpenSpec.upto dgramCountsSpec)

/-- 'rookerylaw09.DgramNil', WHERE WHAT IT READS IS OF BULK AT MOST 1048576: true; the input reads as it did. -/
def dgramNilUptoRow : OpenClaim := { program := "ytehgneiiajpgpaa", sum := "86b103f8a8662c3cbf54114342d9c6d0cd2d9a3d4de9f16d899cdc5220b98712", func := "rookery/rookerylaw09.DgramNil", spec := "dgramNil", apart := false, narrowed := true }
def DgramNilUptoSaid : Prop := dgramNilUptoRow.holds Try.pinned (OpenSpec.upto dgramNilSpec)

end Rows
end Go.Proofs.Ytehgneiiajpgpaa
