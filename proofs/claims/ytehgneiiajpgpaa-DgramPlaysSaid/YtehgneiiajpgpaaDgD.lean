/- dgram: the net in memory; put. -/
import Derived.Test.YtehgneiiajpgpaaDgC
namespace Go.Proofs.Ytehgneiiajpgpaa
open Go.RowKit Go.Maps
set_option linter.all false

/-- A datagram as such. -/
structure D0 where
  f : Int
  t : Int
  n : Int
  b : List Int
  sp : Bool
deriving DecidableEq
/-- A net as such. -/
structure Net0 where
  nodes : Int
  next : Int
  way : List D0
  box : Int → List D0
  lost : Int
  ops : Nat
def Dg.abs (d : Dg) : D0 := ⟨d.f, d.t, d.n, d.b, d.sp⟩
def heldElem (v : Value) : Option (DataW Value × List MemPlace) := some (.held v, [])
abbrev KT : TypeId := 3
/-- The entries of a map tell the values f. -/
def MapOf (es : Array MapEntry) (clock sz : Nat) (f : Int → Value) : Prop :=
  WideElems.Fit Try.prog KT heldElem es clock ∧ es.size ≤ sz ∧ ∀ k : Int, (Lit.int .i64 k).wf = true → (DataW.map ((es.toList.map (WideElems.rg Try.prog KT heldElem)).foldr DataW.insert [])).atKey (.int .i64 k) (.held (.slice none 0 0)) = .held (f k)
/-- The net with all that the proof must know of where it lies. -/
structure NetG where
  p : Nat
  mb : Nat
  nodes : Int
  next : Int
  lost : Int
  way : Row
  bx : Int → Row
  es : Array MapEntry
  clock : Nat
  sz : Nat
def keysTo (n : Nat) : List Int := (List.range n).map (fun (i : Nat) => (i : Int) + 1)
theorem mem_keysTo {n : Nat} {k : Int} : k ∈ keysTo n ↔ 1 ≤ k ∧ k ≤ n := by
  simp only [keysTo, List.mem_map, List.mem_range]
  constructor
  · rintro ⟨i, hi, rfl⟩; omega
  · rintro ⟨h1, h2⟩; exact ⟨k.toNat - 1, by omega, by omega⟩
def NetG.obj (G : NetG) : Obj := .cells #[.int .i64 G.nodes, .int .u64 G.next, G.way.val, .map (some G.mb), .int .i64 G.lost] 79 (0, 0)
def NetG.boxItems (G : NetG) : List Item := (keysTo G.nodes.toNat).flatMap fun k => (G.bx k).items
def NetG.items (G : NetG) : List Item := (G.p, G.obj) :: (G.mb, .map G.es G.clock) :: (G.way.items ++ G.boxItems)
structure NetG.wf (G : NetG) : Prop where
  way : G.way.wf
  wlen : G.way.ds.length ≤ 1024
  box : ∀ k, (G.bx k).wf
  blen : ∀ k, (G.bx k).ds.length ≤ 64
  nodes : 1 ≤ G.nodes ∧ G.nodes ≤ 64
  to : ∀ d ∈ G.way.ds, 1 ≤ d.t ∧ d.t ≤ G.nodes
  out : ∀ k, ¬ (1 ≤ k ∧ k ≤ G.nodes) → (G.bx k).ds = [] ∧ (G.bx k).g = none
  map : MapOf G.es G.clock G.sz fun k => (G.bx k).val
  next : 0 ≤ G.next ∧ G.next < 18446744073709551616
  lost : -9223372036854775808 ≤ G.lost ∧ G.lost ≤ 9223372036854775807
def NetG.abs (G : NetG) : Net0 := ⟨G.nodes, G.next, G.way.ds.map Dg.abs, fun k => (G.bx k).ds.map Dg.abs, G.lost, G.sz⟩
def NetG.keys (G : NetG) : List Nat := G.items.map (·.1)
/-- The net N lies at p, in the blocks K. -/
def NetAt (w : World) (p : Nat) (N : Net0) (K : List Nat) : Prop := ∃ G : NetG, G.p = p ∧ G.wf ∧ Sep w G.items ∧ G.keys = K ∧ G.abs = N
/-- Behind a call: the net is N' now; what lay in none of its blocks is as it was. -/
def NetTo (w w' : World) (p : Nat) (N' : Net0) (K : List Nat) : Prop := ∃ K', NetAt w' p N' K' ∧ (∀ k ∈ K', k ∈ K ∨ w.heap.size ≤ k) ∧ Only w w' K
theorem Row.val_slice (r : Row) (h : r.wf) : ∃ A c, r.val = .slice A r.ds.length c := by
  unfold Row.val
  cases hg : r.g with
  | none => exact ⟨none, 0, by rw [(h.nil hg).1]; rfl⟩
  | some g => exact ⟨_, _, rfl⟩
theorem NetTo.trans {w w1 w2 : World} {p : Nat} {N1 N2 : Net0} {K : List Nat} (h : NetTo w w1 p N1 K) (h2 : ∀ K1, NetAt w1 p N1 K1 → NetTo w1 w2 p N2 K1) : NetTo w w2 p N2 K := by
  obtain ⟨K1, a1, a2, a3⟩ := h
  obtain ⟨K2, b1, b2, b3⟩ := h2 K1 a1
  exact ⟨K2, b1, fun k hk => (b2 k hk).elim (fun h => a2 k h) (fun h => .inr (Nat.le_trans a3.size h)), a3.trans b3 a2⟩
/-- One field of the net is written. -/
theorem NetG.setNet {w : World} {G : NetG} (h : Sep w G.items) {w' : World} (ho : Only w w' [G.p]) {G' : NetG} (hp : G'.p = G.p) (hm : G'.mb = G.mb) (hn : G'.nodes = G.nodes) (hw : G'.way.items = G.way.items) (hb : G'.bx = G.bx) (he : G'.es = G.es) (hc : G'.clock = G.clock)
    (hh : w'.heap[G.p]? = some G'.obj) : Sep w' G'.items := by
  have h1 : Sep w' ((G.p, G'.obj) :: (G.mb, .map G.es G.clock) :: (G.way.items ++ G.boxItems)) := Sep.put (o := G.obj) h ho hh
  have e : G'.items = ((G.p, G'.obj) :: (G.mb, .map G.es G.clock) :: (G.way.items ++ G.boxItems)) := by
    simp only [NetG.items, NetG.boxItems, hp, hm, hn, hw, hb, he, hc]
  rw [e]
  exact h1
def put0 (N : Net0) (d : D0) : Net0 := if 1024 ≤ N.way.length then { N with lost := wrap64 (N.lost + 1) } else { N with way := N.way ++ [d] }
end Go.Proofs.Ytehgneiiajpgpaa
