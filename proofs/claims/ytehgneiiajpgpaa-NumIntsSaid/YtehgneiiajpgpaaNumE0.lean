/- NumInts answers true: its walks, one a path. The conditions of each stand in its statement. -/
import Derived.Test.YtehgneiiajpgpaaNumD
namespace Go.Proofs.Ytehgneiiajpgpaa
open Go.RowKit Go.MapKept
set_option linter.unusedVariables false
abbrev okv (n : Int) : Value := .tuple #[tm 1 n 0 0, .int .i64 0]
abbrev tcs (k n : Int) : Array Value := #[.int .i64 k, .int .i64 n, .complex .f64 0 0, .string ⟨#[]⟩, .int .i64 0, .int .u32 0, .int .u64 0, .slice none 0 0, .slice none 0 0]
abbrev dcall (op a b : Int) (v : Value) : Prop := ∀ w, Calls Try.prog 11 #[.int .i64 op, tm 1 a 0 0, tm 1 b 0 0] w fun e w' => e = .returned v ∧ Below w.heap.size w w'
abbrev icall (a : Int) (v : Value) : Prop := ∀ w, Calls Try.prog 10 #[.int .i64 a] w fun e w' => e = .returned v ∧ Below w.heap.size w w'
end Go.Proofs.Ytehgneiiajpgpaa
