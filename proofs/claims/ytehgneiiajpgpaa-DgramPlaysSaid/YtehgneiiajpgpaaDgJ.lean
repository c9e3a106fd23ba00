/- dgram: the map of boxes: looked up, stored into, deleted from. -/
import Derived.Test.YtehgneiiajpgpaaDgI
namespace Go.Proofs.Ytehgneiiajpgpaa
open Go.RowKit Go.Maps
set_option linter.all false

abbrev nilRow : Value := .slice none 0 0
def updV (f : Int → Value) (k : Int) (v : Value) : Int → Value := fun x => if x = k then v else f x
theorem zeroRow (w : World) : (zeroValue 41).run Try.prog w = .ok nilRow w := by kernel_rfl
theorem MapOf.owns {w : World} {mb : Nat} {es : Array MapEntry} {clock sz : Nat} {f : Int → Value} (hm : MapOf es clock sz f) (hb : w.heap[mb]? = some (.map es clock)) : w.ownsMap Try.prog KT heldElem mb sz (.map ((es.toList.map (WideElems.rg Try.prog KT heldElem)).foldr DataW.insert [])) :=
  ⟨es, clock, hb, hm.1, hm.2.1, rfl⟩
theorem map_look {w : World} {mb : Nat} {es : Array MapEntry} {clock sz : Nat} {f : Int → Value} (hm : MapOf es clock sz f) (hb : w.heap[mb]? = some (.map es clock)) (k : Int) (hk : (Lit.int .i64 k).wf = true) :
    (Instr.lookup 77 (.map (some mb)) (.int .i64 k) false).run Try.prog w = .ok (f k) w := by
  obtain ⟨v, ps, hrun, hv⟩ := (hm.owns hb).lookup (int_keyed Try.underlying3) Try.underlying77 (zeroRow w) (zd := .held nilRow) (zp := []) rfl (keyOf_int_mk Try.underlying3 hk)
  have h1 := hm.2.2 k hk
  have hv' := (Prod.mk.inj (Option.some.inj hv)).1
  rw [h1] at hv'
  rw [hrun, DataW.held.inj hv']
theorem map_store {w : World} {mb : Nat} {es : Array MapEntry} {clock sz : Nat} {f : Int → Value} (hm : MapOf es clock sz f) (hb : w.heap[mb]? = some (.map es clock)) (hsz : sz < maxLen) (k : Int) (hk : (Lit.int .i64 k).wf = true) (v : Value) :
    ∃ es' clock' w', (Instr.mapUpdate 77 (.map (some mb)) (.int .i64 k) v).run Try.prog w = .ok () w' ∧ w'.heap[mb]? = some (.map es' clock') ∧ MapOf es' clock' (sz + 1) (updV f k v) ∧ Only w w' [mb] := by
  have K := int_keyed (P := Try.prog) Try.underlying3
  have hkey := keyOf_int_mk (P := Try.prog) Try.underlying3 hk
  obtain ⟨w', hrun, ⟨es', clock', h1, h2, h3, h4⟩, hg⟩ := (hm.owns hb).update K Try.underlying77 hsz hkey (d := .held v) (ps := []) (val := v) rfl
  refine ⟨es', clock', w', hrun, h1, ⟨h2, h3, fun k' hk' => ?_⟩, Only.grown hg (fun k h => by cases h; simp)⟩
  rw [← h4]
  have hD := ((hm.owns hb).isMap)
  by_cases e : k' = k
  · subst e
    rw [atKey_put_same hD (K.key hkey)]
    simp [updV]
  · rw [atKey_put_other (by intro h; exact e (by simpa using h))]
    rw [hm.2.2 k' hk']
    simp [updV, e]
theorem map_delete {w : World} {mb : Nat} {es : Array MapEntry} {clock sz : Nat} {f : Int → Value} (hm : MapOf es clock sz f) (hb : w.heap[mb]? = some (.map es clock)) (k : Int) (hk : (Lit.int .i64 k).wf = true) (ty : TypeId) :
    ∃ es' clock' w', (Builtin.delete_ #[77, 3] ty #[.map (some mb), .int .i64 k]).run Try.prog w = .ok (.tuple #[]) w' ∧ w'.heap[mb]? = some (.map es' clock') ∧ MapOf es' clock' sz (updV f k nilRow) ∧ Only w w' [mb] := by
  have K := int_keyed (P := Try.prog) Try.underlying3
  have hkey := keyOf_int_mk (P := Try.prog) Try.underlying3 hk
  obtain ⟨w', hrun, ⟨es', clock', h1, h2, h3, h4⟩, hg⟩ := (hm.owns hb).drop K Try.underlying77 hkey ty
  refine ⟨es', clock', w', hrun, h1, ⟨h2, h3, fun k' hk' => ?_⟩, Only.grown hg.grown (fun k h => by cases h; simp)⟩
  rw [← h4]
  by_cases e : k' = k
  · subst e
    rw [atKey_del_same]
    simp [updV]
  · rw [atKey_del_other (by intro h; exact e (by simpa using h))]
    rw [hm.2.2 k' hk']
    simp [updV, e]
end Go.Proofs.Ytehgneiiajpgpaa
