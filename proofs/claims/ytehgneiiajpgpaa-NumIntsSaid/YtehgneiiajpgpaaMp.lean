/- Laws on maps with plain keys, of whatever element, as equations on the runs of the model's operations. -/
import Derived.Test.YtehgneiiajpgpaaBas
import Derived.MapFrom
import Derived.Laws.EntriesVeiled
import Derived.Maps.OwnOps
namespace Go.Proofs.Ytehgneiiajpgpaa
open Go.RowKit Go.MapKept

section
variable {P : Program} {w : World} {mty kt et : TypeId} {d : TypeDesc} {r : Nat} {es : Array MapEntry} {clock : Nat}
/-- a world whose block r is another object -/
def setB (w : World) (r : Nat) (o : Obj) : World := { w with heap := w.heap.setIfInBounds r o }
theorem run_mapUpdate_new {key val : Value} (hm : P.underlying mty = some (.map kt et)) (hd : P.underlying kt = some d) (hk : IsKey d key) (hb : w.heap[r]? = some (.map es clock))
    (h1 : Instr.findNow d key es.toList 0 = some none) :
    (Instr.mapUpdate mty (.map (some r)) key val).run P w = .ok () (setB w r (.map (es.push { key, val, born := clock }) (clock + 1))) := by
  simp [Instr.mapUpdate, run_underlying hm, Go.MapKept.run_getObj_map hb, run_checkKey hd hk, run_findKey hd h1, Go.MapKept.run_setObj_map _ hb, Result.andThen, setB]
theorem run_mapUpdate_old {key val v0 : Value} {j : Nat} {e : MapEntry} (hm : P.underlying mty = some (.map kt et)) (hd : P.underlying kt = some d) (hk : IsKey d key) (hb : w.heap[r]? = some (.map es clock))
    (h1 : Instr.findNow d key es.toList 0 = some (some (j, v0))) (hj : es[j]? = some e) (he : e.key = key) :
    (Instr.mapUpdate mty (.map (some r)) key val).run P w = .ok () (setB w r (.map (es.modify j fun e => { e with key, val }) clock)) := by
  simp [Instr.mapUpdate, run_underlying hm, Go.MapKept.run_getObj_map hb, run_checkKey hd hk, run_findKey hd h1, hj, he, run_keyThatStays hk, Go.MapKept.run_setObj_map _ hb, Result.andThen, setB]
theorem run_lookup_in {key v0 : Value} {j : Nat} (hm : P.underlying mty = some (.map kt et)) (hd : P.underlying kt = some d) (hk : IsKey d key) (hb : w.heap[r]? = some (.map es clock))
    (h1 : Instr.findNow d key es.toList 0 = some (some (j, v0))) :
    (Instr.lookup mty (.map (some r)) key false).run P w = .ok v0 w := by
  simp [Instr.lookup, run_underlying hm, Go.MapKept.run_getObj_map hb, run_checkKey hd hk, run_findKey hd h1, Result.andThen]
theorem run_lookup_out {key z : Value} (hm : P.underlying mty = some (.map kt et)) (hd : P.underlying kt = some d) (hk : IsKey d key) (hb : w.heap[r]? = some (.map es clock)) (hz : (zeroValue et).run P w = .ok z w)
    (h1 : Instr.findNow d key es.toList 0 = some none) :
    (Instr.lookup mty (.map (some r)) key false).run P w = .ok z w := by
  simp [Instr.lookup, run_underlying hm, Go.MapKept.run_getObj_map hb, run_checkKey hd hk, run_findKey hd h1, hz, Result.andThen]
theorem setB_alloc (w : World) (o o' : Obj) : setB (w.alloc o) w.heap.size o' = w.alloc o' := by
  unfold setB World.alloc
  congr 1
  apply Array.ext_getElem?
  intro i
  simp only [Array.getElem?_setIfInBounds, Array.getElem?_push, Array.size_push]
  by_cases h : w.heap.size = i
  · subst h; simp
  · rw [if_neg h, if_neg (fun e => h e.symm), if_neg (fun e => h e.symm)]
theorem heap_alloc_new' (w : World) (o : Obj) : (w.alloc o).heap[w.heap.size]? = some o := heap_alloc_new w o
/-- an insertion into the map that was made last -/
theorem run_mapUpdate_made {w : World} {key val : Value} (hm : P.underlying mty = some (.map kt et)) (hd : P.underlying kt = some d) (hk : IsKey d key)
    (h1 : Instr.findNow d key es.toList 0 = some none) :
    (Instr.mapUpdate mty (.map (some w.heap.size)) key val).run P (w.alloc (.map es clock)) = .ok () (w.alloc (.map (es.push { key, val, born := clock }) (clock + 1))) := by
  rw [run_mapUpdate_new hm hd hk (heap_alloc_new' w _) h1, setB_alloc]
end
end Go.Proofs.Ytehgneiiajpgpaa
