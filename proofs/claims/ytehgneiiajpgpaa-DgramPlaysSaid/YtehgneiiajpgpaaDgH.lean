/- dgram: out. -/
import Derived.Test.YtehgneiiajpgpaaDgG
import Derived.Laws.CopyOwn
namespace Go.Proofs.Ytehgneiiajpgpaa
open Go.RowKit Go.Maps
set_option linter.all false

/-- copy of elements of several cells each, within a row that is known whole. -/
theorem run_copy_wide {P : Program} (w : World) (dT sT ty elem : TypeId) (sz : Nat) (g o dLen dCap : Nat) (a : Addr) (sLen sCap : Nat) (cur : Array Value) (t : TypeId) (cs : List Value)
    (hu : P.underlying dT = some (.slice elem)) (hs : (P.info? elem).map (·.size) = some sz)
    (hg : w.heap[g]? = some (.cells cur t (0, 0))) (hn : cs.length = Nat.min sLen dLen * sz)
    (hsrc : ∀ j v, cs[j]? = some v → w.cell? (a.add j) = some v) (hfit : o + cs.length ≤ cur.size) (h1 : ∀ v ∈ cs, v.oneCell' = true) :
    (Builtin.copy_ #[dT, sT] ty #[.slice (some ⟨g, o, none⟩) dLen dCap, .slice (some a) sLen sCap]).run P w =
      .ok (goInt (Nat.min sLen dLen)) (w.setRow g (cur.toList.take o ++ cs ++ cur.toList.drop (o + cs.length)).toArray) := by
  have hl := run_loadCells_list (P := P) w a cs hsrc
  have hst := run_storeCells_at P g o t cs 0 cur w hg (by simpa using hfit) h1
  cases hq : P.info? elem with
  | none => simp [hq] at hs
  | some i =>
    have hi : i.size = sz := by simpa [hq] using hs
    simp [Builtin.copy_, run_underlying hu, Builtin.lenOf, Builtin.firstCells, sizeOf, typeInfo, hq, hi, ← hn, hl, hst]
/-- The way without its i-th. -/
def Row.without (r : Row) (i : Nat) : Row := ⟨r.ds.eraseIdx i, r.g, r.pre, flat (r.ds.drop (r.ds.length - 1)) ++ r.post, r.k + 1⟩
theorem flat_drop (l : List Dg) (k : Nat) : flat (l.drop k) = (flat l).drop (k * 5) := by
  by_cases h : k ≤ l.length
  · have e : flat l = flat (l.take k) ++ flat (l.drop k) := by rw [← flat_app, List.take_append_drop]
    have hl : (flat (l.take k)).length = k * 5 := by rw [flat_len, List.length_take, Nat.min_eq_left h]
    rw [e, ← hl, List.drop_left]
  · have h1 : l.drop k = [] := List.drop_of_length_le (by omega)
    have h2 : (flat l).drop (k * 5) = [] := List.drop_of_length_le (by rw [flat_len]; omega)
    rw [h1, h2]
    rfl
theorem flat_take (l : List Dg) (k : Nat) : flat (l.take k) = (flat l).take (k * 5) := by
  by_cases h : k ≤ l.length
  · have e : flat l = flat (l.take k) ++ flat (l.drop k) := by rw [← flat_app, List.take_append_drop]
    have hl : (flat (l.take k)).length = k * 5 := by rw [flat_len, List.length_take, Nat.min_eq_left h]
    rw [e, ← hl, List.take_left]
  · have h1 : l.take k = l := List.take_of_length_le (by omega)
    have h2 : (flat l).take (k * 5) = flat l := List.take_of_length_le (by rw [flat_len]; omega)
    rw [h1, h2]
theorem without_cells (r : Row) (i : Nat) (hi : i < r.ds.length) :
    (r.pre ++ flat r.ds ++ r.post).take (r.pre.length + i * 5) ++ flat (r.ds.drop (i + 1)) ++ (r.pre ++ flat r.ds ++ r.post).drop (r.pre.length + i * 5 + (flat (r.ds.drop (i + 1))).length) = r.pre ++ flat (r.without i).ds ++ (r.without i).post := by
  have hf := flat_len r.ds
  have e1 : (r.pre ++ flat r.ds ++ r.post).take (r.pre.length + i * 5) = r.pre ++ flat (r.ds.take i) := by
    rw [List.append_assoc, List.take_append, List.take_of_length_le (by omega), Nat.add_sub_cancel_left, List.take_append_of_le_length (by omega), flat_take]
  have e2 : r.pre.length + i * 5 + (flat (r.ds.drop (i + 1))).length = r.pre.length + (r.ds.length - 1) * 5 := by
    rw [flat_len, List.length_drop]; omega
  have e3 : (r.pre ++ flat r.ds ++ r.post).drop (r.pre.length + (r.ds.length - 1) * 5) = flat (r.ds.drop (r.ds.length - 1)) ++ r.post := by
    rw [List.append_assoc, ← List.drop_drop, List.drop_left, List.drop_append_of_le_length (by omega), flat_drop]
  rw [e1, e2, e3]
  simp only [Row.without, List.eraseIdx_eq_take_drop_succ, flat_app, List.append_assoc]
theorem Row.without_wf {r : Row} (h : r.wf) {i : Nat} (hi : i < r.ds.length) : (r.without i).wf := by
  have hl : (r.ds.eraseIdx i).length = r.ds.length - 1 := by rw [List.length_eraseIdx]; simp [hi]
  refine ⟨fun hg => ?_, ?_, ?_, fun d hd => h.one d (List.mem_of_mem_eraseIdx hd)⟩
  · have := (h.nil hg).1
    rw [this] at hi
    simp at hi
  · have := h.room
    simp only [Row.without, List.length_append, flat_len, List.length_drop]
    omega
  · have := h.cap
    simp only [Row.without, hl]
    omega
end Go.Proofs.Ytehgneiiajpgpaa
