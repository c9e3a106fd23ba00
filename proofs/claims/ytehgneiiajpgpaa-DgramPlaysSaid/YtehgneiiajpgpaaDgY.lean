/- dgram: a script among a row's inputs; long, kind. -/
import Derived.Test.YtehgneiiajpgpaaDgX
namespace Go.Proofs.Ytehgneiiajpgpaa
open Go.RowKit Go.ChangeShapes Go.WideShapes Go.Deep
set_option linter.all false
set_option maxHeartbeats 2000000
set_option maxRecDepth 100000

structure SOp where
  o : Op0
  A : Option Addr
  c : Nat
  b : List Int
instance : Inhabited SOp := ⟨⟨⟨0, 0, 0, 0, 0, 0⟩, none, 0, []⟩⟩
/-- A script that came in: its calls lie one behind the other. -/
structure ScrAt (w : World) (A : Option Addr) (L : List SOp) : Prop where
  at' : ∀ i s, L[i]? = some s → ∃ g off, A = some ⟨g, off, none⟩ ∧ (∀ j u, (opCells s.o s.A s.b.length s.c)[j]? = some u → w.cell? ⟨g, off + i * 7 + j, none⟩ = some u) ∧ OpAt w s.o s.A s.c s.b ∧ s.b.length ≤ 140737488355328
  len : L.length ≤ maxLen
set_option maxRecDepth 100000 in
theorem open_script {H : Type} {enc : TypeId × Value → H} {W : World} {fuel : Nat} {v : Value} {x : DataW H × List MemPlace} (hf : DataW.trod enc Try.prog W 0 (fun _ => true) true fuel 47 [v] = some x)
    (hR : ∀ n ∈ x.1.weights Try.prog 47, n ≤ 140737488355328) : ∃ A L c, v = .slice A L.length c ∧ ScrAt W A L := by
  rcases open_slice Try.underlying47 hf with ⟨h1, h2⟩ | ⟨a, len, cap, m, n, D, Pl, h1, h2, h3, h4, h5, h6, h7⟩
  · obtain rfl := (List.cons.inj h1).1
    exact ⟨none, [], 0, rfl, ⟨fun i s h => by simp at h, by simp⟩⟩
  · obtain rfl := (List.cons.inj h1).1
    have hm : m = cap := by simpa using h5
    rw [show Try.prog.cellsOf 51 = 7 by kernel_rfl] at h7
    have hw : ∀ i, i < len → ∀ n ∈ (D i).weights Try.prog 51, n ≤ 140737488355328 := by
      intro i hi n hn
      refine hR n ?_
      rw [h6]
      unfold DataW.weights
      rw [Try.underlying47]
      refine List.mem_cons_of_mem _ (List.mem_append_left _ ?_)
      have hall : ∀ (l : List Nat), i ∈ l → n ∈ DataW.weightsAll Try.prog 51 (l.map D) := by
        intro l
        induction l with
        | nil => intro h; cases h
        | cons y l ih =>
          intro h
          rw [List.map_cons]
          unfold DataW.weightsAll
          rcases List.mem_cons.1 h with rfl | h
          · exact List.mem_append_left _ hn
          · exact List.mem_append_right _ (ih h)
      exact hall _ (List.mem_range.2 hi)
    have hsel : ∀ i, i < len → ∃ s : SOp, W.cells? 0 (a.add (i * 7)) 7 = some (opCells s.o s.A s.b.length s.c).toList ∧ OpAt W s.o s.A s.c s.b ∧ s.b.length ≤ 140737488355328 := by
      intro i hi
      obtain ⟨cs, h8, h9⟩ := h7 i (by omega)
      obtain ⟨o, A, c, b, rfl, hop, hr⟩ := open_op h9
      exact ⟨⟨o, A, c, b⟩, h8, hop, hr _ (hw i hi)⟩
    obtain ⟨S, hS⟩ := choose_lt (α := SOp) (p := fun i s => W.cells? 0 (a.add (i * 7)) 7 = some (opCells s.o s.A s.b.length s.c).toList ∧ OpAt W s.o s.A s.c s.b ∧ s.b.length ≤ 140737488355328) hsel
    refine ⟨some a, (List.range len).map S, cap, by simp, ⟨fun i s hs => ?_, by simp; omega⟩⟩
    have hil : i < len := by
      have := (List.getElem?_eq_some_iff.1 hs).1
      simpa using this
    have hse : s = S i := by
      rw [List.getElem?_map, List.getElem?_range hil] at hs
      exact (Option.some.inj hs).symm
    subst hse
    obtain ⟨q1, q2, q3⟩ := hS i hil
    have hsp : a.spot = none := by
      obtain ⟨q1, _, _⟩ := hS 0 (by omega)
      obtain ⟨_, _, hc⟩ := World.cells?_some q1
      have h0 := hc 0 (by omega)
      rw [Nat.zero_mul] at h0
      have e : (a.add 0).add 0 = a := rfl
      rw [e] at h0
      unfold World.cell? at h0
      cases hs : a.spot with
      | none => rfl
      | some p =>
        rw [hs] at h0
        split at h0
        · simp at h0
        · cases h0
    obtain ⟨g, off, sp⟩ := a
    obtain rfl : sp = none := hsp
    refine ⟨g, off, rfl, fun j u hj => ?_, q2, q3⟩
    obtain ⟨_, _, hc⟩ := World.cells?_some q1
    have hj7 : j < 7 := by
      have := (Array.getElem?_eq_some_iff.1 hj).1
      simpa using this
    have := (hc j hj7).trans (show _ = some u by rw [← hj]; simp)
    rw [Addr.add_lit, Addr.add_lit] at this
    exact this
def kind0 (o : Op0) : Op0 := if o.kd < 0 ∨ 6 < o.kd then { o with kd := 6 } else o
theorem size_alloc' (w : World) (o : Obj) : (w.alloc o).heap.size = w.heap.size + 1 := by simp
theorem kind_c (w : World) (o : Op0) (A : Option Addr) (n c : Nat) : Calls Try.prog 21 #[.agg (opCells o A n c)] w fun e w' => e = .returned (.agg (opCells (kind0 o) A n c)) ∧ Only w w' [] := by
  obtain ⟨kd, f, t, i, at', m⟩ := o
  obtain ⟨w1, hw1⟩ : ∃ w1, w1 = (w.alloc (.cells (opCells ⟨kd, f, t, i, at', m⟩ A n c) 51)).alloc (.cells (opCells ⟨0, 0, 0, 0, 0, 0⟩ none 0 0) 51) := ⟨_, rfl⟩
  go_enter Try.func21, Try.ntmps21
  go_wp2
  · rename_i h1 h2
    have e : kind0 ⟨kd, f, t, i, at', m⟩ = ⟨6, f, t, i, at', m⟩ := by
      unfold kind0
      rw [if_pos (by simp; omega)]
    rw [e]
    have hb := heap_alloc_new (w.alloc (.cells (opCells ⟨6, f, t, i, at', m⟩ A n c) 51)) (.cells (opCells ⟨6, f, t, i, at', m⟩ A n c) 51)
    simp only [size_alloc'] at hb
    obtain ⟨x0, x1, x2, x3, x4, x5, x6⟩ := blk7 hb
    refine bodyPost_ret (v := .agg (opCells ⟨6, f, t, i, at', m⟩ A n c)) (by simp [results, Try.results21, go_sem, x0, x1, x2, x3, x4, x5, x6]) rfl ⟨rfl, (Only.alloc w _ []).trans (Only.alloc _ _ []) (by simp)⟩
  · rename_i h1 h2
    have e : kind0 ⟨kd, f, t, i, at', m⟩ = ⟨kd, f, t, i, at', m⟩ := by
      unfold kind0
      rw [if_neg (by simp; omega)]
    rw [e]
    have hb := heap_alloc_new (w.alloc (.cells (opCells ⟨kd, f, t, i, at', m⟩ A n c) 51)) (.cells (opCells ⟨kd, f, t, i, at', m⟩ A n c) 51)
    simp only [size_alloc'] at hb
    obtain ⟨x0, x1, x2, x3, x4, x5, x6⟩ := blk7 hb
    refine bodyPost_ret (v := .agg (opCells ⟨kd, f, t, i, at', m⟩ A n c)) (by simp [results, Try.results21, go_sem, x0, x1, x2, x3, x4, x5, x6]) rfl ⟨rfl, (Only.alloc w _ []).trans (Only.alloc _ _ []) (by simp)⟩
  · rename_i h1
    have e : kind0 ⟨kd, f, t, i, at', m⟩ = ⟨6, f, t, i, at', m⟩ := by
      unfold kind0
      rw [if_pos (by simp; omega)]
    rw [e]
    have hb := heap_alloc_new (w.alloc (.cells (opCells ⟨6, f, t, i, at', m⟩ A n c) 51)) (.cells (opCells ⟨6, f, t, i, at', m⟩ A n c) 51)
    simp only [size_alloc'] at hb
    obtain ⟨x0, x1, x2, x3, x4, x5, x6⟩ := blk7 hb
    refine bodyPost_ret (v := .agg (opCells ⟨6, f, t, i, at', m⟩ A n c)) (by simp [results, Try.results21, go_sem, x0, x1, x2, x3, x4, x5, x6]) rfl ⟨rfl, (Only.alloc w _ []).trans (Only.alloc _ _ []) (by simp)⟩
theorem long_c (w : World) (A : Option Addr) (L : List SOp) (c : Nat) (h : ScrAt w A L) : Calls Try.prog 20 #[.slice A L.length c] w fun e w' => ∃ b, e = .returned (.bool b) ∧ w' = w := by
  have hl := h.len
  have hm : maxLen = 9223372036854775807 := rfl
  have hl2 : (L.length : Int) ≤ 9223372036854775807 := by omega
  go_enter Try.func20, Try.ntmps20
  go_wp2
  go_loopg [3, 4] 301 (fun gk v3 v4 wr => ∃ (d : Nat) (s : Int), d ≤ 300 ∧ d ≤ L.length ∧ gk = 301 - d ∧ v4 = .int .i64 (d : Int) ∧ v3 = .int .i64 s ∧ 0 ≤ s ∧ s ≤ d * 140737488355328 ∧ wr = w)
  case atStart => exact ⟨0, 0, by omega, by omega, rfl, rfl, rfl, by omega, by omega, rfl⟩
  case round =>
    obtain ⟨d, s, hd, hdl, rfl, rfl, rfl, h0, h1, rfl⟩ := hrel
    by_cases hlt : d < L.length
    · by_cases h300 : d < 300
      · obtain ⟨x, hx⟩ : ∃ x, L[d]? = some x := ⟨_, List.getElem?_eq_getElem hlt⟩
        obtain ⟨g, off, rfl, hc, hop, hb⟩ := h.at' d x hx
        have hc6 := hc 6 _ rfl
        have z0 : (d : Int) < (L.length : Int) := by omega
        have z1 : (d : Int) < 300 := by omega
        have z2 : s + (x.b.length : Int) ≤ 9223372036854775807 := by omega
        have z3 : 0 ≤ s + (x.b.length : Int) := by omega
        have z4 : 0 ≤ (d : Int) := by omega
        have HB := hb
        clear hc hb hm
        go_wp2
        go_roundg (301 - (d + 1))
        case measure => omega
        case rel => exact ⟨d + 1, _, by omega, by omega, rfl, by simp, rfl, z3, by have := HB; omega, rfl⟩
      · have hd3 : d = 300 := by omega
        subst hd3
        have z0 : (300 : Int) < (L.length : Int) := by omega
        clear hm
        go_wp2
        go_ret
        exact ⟨_, rfl, rfl⟩
    · have hd3 : d = L.length := by omega
      subst hd3
      clear hm
      go_wp2
      go_ret
      exact ⟨_, rfl, rfl⟩
end Go.Proofs.Ytehgneiiajpgpaa
