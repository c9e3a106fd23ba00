/- dgram: rows of the call's own, beside the net. -/
import Derived.Test.YtehgneiiajpgpaaDgNear
import Derived.Test.YtehgneiiajpgpaaDgCounts
import Derived.Maps.AppendAt
namespace Go.Proofs.Ytehgneiiajpgpaa
open Go.RowKit
set_option linter.all false

def bl (v : Value) : List Nat := match v.ownBlock with | some b => [b] | none => []
/-- A row that the call (begun in w0) has made, in none of the blocks K. -/
structure Rw (w0 wr : World) (e : TypeId) (sz : Nat) (v : Value) (n : Nat) (xs : List Value) (K : List Nat) : Prop where
  own : wr.ownsRow w0.heap.size e sz v n xs
  off : ∀ b ∈ bl v, b ∉ K
theorem Rw.nil (w0 wr : World) (e : TypeId) (sz : Nat) (K : List Nat) : Rw w0 wr e sz (.slice none 0 0) 0 [] K := ⟨World.ownsRow_nil wr _ _ sz, by simp [bl, Value.ownBlock]⟩
theorem Rw.lt {w0 wr : World} {e : TypeId} {sz : Nat} {v : Value} {n : Nat} {xs : List Value} {K : List Nat} (h : Rw w0 wr e sz v n xs K) : ∀ b ∈ bl v, w0.heap.size ≤ b ∧ b < wr.heap.size := by
  intro b hb
  rcases h.own.2 with ⟨rfl, _⟩ | ⟨g, cap, cur, rfl, h1, h2, _⟩
  · simp [bl, Value.ownBlock] at hb
  · simp [bl, Value.ownBlock] at hb
    subst hb
    exact ⟨h1, (Array.getElem?_eq_some_iff.1 h2).1⟩
theorem Rw.shape {w0 wr : World} {e : TypeId} {sz : Nat} {v : Value} {n : Nat} {xs : List Value} {K : List Nat} (h : Rw w0 wr e sz v n xs K) : ∃ A c, v = .slice A n c := by
  rcases h.own.2 with ⟨rfl, rfl⟩ | ⟨g, cap, cur, rfl, _⟩
  · exact ⟨_, _, rfl⟩
  · exact ⟨_, _, rfl⟩
theorem Rw.only {w0 wr w' : World} {e : TypeId} {sz : Nat} {v : Value} {n : Nat} {xs : List Value} {K ks : List Nat} (h : Rw w0 wr e sz v n xs K) (ho : Only wr w' ks) (hd : ∀ b ∈ bl v, b ∉ ks) : Rw w0 w' e sz v n xs K := by
  refine ⟨⟨h.own.1, ?_⟩, h.off⟩
  rcases h.own.2 with hn | ⟨g, cap, cur, rfl, h1, h2, h3⟩
  · exact .inl hn
  · exact .inr ⟨g, cap, cur, rfl, h1, (ho.block g (Array.getElem?_eq_some_iff.1 h2).1 (hd g (by simp [bl, Value.ownBlock]))).trans h2, h3⟩
theorem Rw.quiet {w0 wr w' : World} {e : TypeId} {sz : Nat} {v : Value} {n : Nat} {xs : List Value} {K : List Nat} (h : Rw w0 wr e sz v n xs K) (ho : Only wr w' []) : Rw w0 w' e sz v n xs K := h.only ho (fun _ _ => by simp)
theorem Rw.to {w0 wr : World} {e : TypeId} {sz : Nat} {v : Value} {n : Nat} {xs : List Value} {K K' : List Nat} (h : Rw w0 wr e sz v n xs K) {s : Nat} (hs : wr.heap.size ≤ s) (hk : ∀ k ∈ K', k ∈ K ∨ s ≤ k) : Rw w0 wr e sz v n xs K' :=
  ⟨h.own, fun b hb hm => (hk b hm).elim (h.off b hb) (fun h2 => by have := (h.lt b hb).2; omega)⟩
theorem Rw.cell {w0 wr : World} {e : TypeId} {sz : Nat} {v : Value} {n : Nat} {xs : List Value} {K : List Nat} (h : Rw w0 wr e sz v n xs K) (hn : 0 < n) : ∃ g c, v = .slice (some ⟨g, 0, none⟩) n c ∧ (n ≤ c ∧ c ≤ maxLen) ∧ ∀ j u, xs[j]? = some u → wr.cell? ⟨g, j, none⟩ = some u := by
  rcases h.own.2 with ⟨_, h0⟩ | ⟨g, cap, cur, rfl, h1, h2, h3, h4, h5, h6⟩
  · omega
  · refine ⟨g, cap, rfl, ⟨h3, h4⟩, fun j u hj => ?_⟩
    have hjl : j < n * sz := by
      have := (List.getElem?_eq_some_iff.1 hj).1
      have := h.own.1
      omega
    rw [← h6, List.getElem?_take, if_pos hjl] at hj
    rw [Lib.cell_of_heap h2]
    simpa using hj
/-- append to such a row. -/
theorem Rw.append {w0 W : World} {t e : TypeId} {i0 : TypeInfo} {z : Value} {sz bytes : Nat} {v : Value} {n : Nat} {xs : List Value} {K : List Nat} (h : Rw w0 W e sz v n xs K) (ht : Try.prog.underlying t = some (.slice e)) (hi : Try.prog.info? e = some i0) (hz : i0.zero = some z)
    (hsize : i0.size = sz) (hby : i0.bytes = bytes) (hzs : z.cells.size = sz) (hsz : 0 < sz) (hw : w0.heap.size ≤ W.heap.size) (hK : ∀ k ∈ K, k < W.heap.size)
    (ty : TypeId) (a : Addr) (c : Nat) (news : List Value) (hl : news.length = sz) (hnews : ∀ j u, news[j]? = some u → W.cell? (a.add j) = some u) (h1 : ∀ u ∈ news, u.oneCell' = true) (hn : n ≤ 1000) (hb100 : bytes ≤ 1000) :
    ∃ A' c' w', (Builtin.append_ #[t, t] ty #[v, .slice (some a) 1 c]).run Try.prog W = .ok (.slice A' (n + 1) c') w' ∧ Rw w0 w' e sz (.slice A' (n + 1) c') (n + 1) (xs ++ news) K ∧ Only W w' (bl v) ∧ (∀ b ∈ bl (.slice A' (n + 1) c'), b ∈ bl v ∨ W.heap.size ≤ b) := by
  have hm : maxLen = 9223372036854775807 := rfl
  obtain ⟨v', w', hrun, r1, r2, _, r4⟩ := run_append_own_at (P := Try.prog) (w := W) w0.heap.size t ty e i0 z sz bytes ht hi hz hsize hby hzs hsz v n xs h.own a 1 c news (by omega) hnews h1 (by omega) (by
    have : (n + 1) * bytes ≤ 1001 * 1000 := Nat.mul_le_mul (by omega) hb100
    omega) hw
  have hbl : ∀ b ∈ bl v', b ∈ bl v ∨ W.heap.size ≤ b := by
    intro b hb
    unfold bl at hb ⊢
    rcases r4 with r4 | r4
    · rw [r4] at hb
      exact .inl hb
    · rw [r4] at hb
      simp at hb
      exact .inr (by omega)
  have hR : Rw w0 w' e sz v' (n + 1) (xs ++ news) K := ⟨r1, fun b hb hm => (hbl b hb).elim (fun h2 => h.off b h2 hm) (fun h2 => by have := hK b hm; omega)⟩
  obtain ⟨A', c', rfl⟩ := hR.shape
  refine ⟨A', c', w', hrun, hR, Only.grown r2 (fun k hk => ?_), hbl⟩
  unfold bl
  rw [hk]
  simp
def flatS (S : List SOp) : List Value := S.flatMap fun s => (opCells s.o s.A s.b.length s.c).toList
theorem flatS_at : ∀ (S : List SOp) (i : Nat) (s : SOp), S[i]? = some s → ∀ j u, (opCells s.o s.A s.b.length s.c)[j]? = some u → (flatS S)[i * 7 + j]? = some u
  | [], _, _, h, _, _, _ => by simp at h
  | x :: l, 0, d, h, j, u, hj => by
    obtain rfl : x = d := by simpa using h
    have hl : j < 7 := by
      have := (Array.getElem?_eq_some_iff.1 hj).1
      simpa using this
    simp only [flatS, List.flatMap_cons, Nat.zero_mul, Nat.zero_add]
    rw [List.getElem?_append_left (by simpa using hl)]
    simpa using hj
  | x :: l, i + 1, d, h, j, u, hj => by
    have ih := flatS_at l i d (by simpa using h) j u hj
    simp only [flatS, List.flatMap_cons] at ih ⊢
    rw [List.getElem?_append_right (by simp; omega)]
    simp only [List.length_cons, List.length_nil] at ih ⊢
    rw [← ih]
    congr 1
    simp
    omega
theorem op_info : (Try.prog.info? 51).map (fun i => (i.zero, i.size, i.bytes)) = some (some (.agg #[.int .i64 0, .int .i64 0, .int .i64 0, .int .i64 0, .int .i64 0, .int .u32 0, .slice none 0 0]), 7, 72) := by kernel_rfl
theorem u64_info : (Try.prog.info? 25).map (fun i => (i.zero, i.size, i.bytes)) = some (some (.int .u64 0), 1, 8) := by kernel_rfl
/-- One call more among those sent. -/
theorem sent_app {w0 W : World} {v : Value} {S : List SOp} {K : List Nat} (h : Rw w0 W 51 7 v S.length (flatS S) K) (hw : w0.heap.size ≤ W.heap.size) (hK : ∀ k ∈ K, k < W.heap.size) (hn : S.length ≤ 1000) (s : SOp) :
    ∃ A' c' w', (Builtin.append_ #[47, 47] 47 #[v, .slice (some ⟨W.heap.size, 0, none⟩) 1 1]).run Try.prog (W.alloc (.cells (opCells s.o s.A s.b.length s.c) 51)) = .ok (.slice A' (S.length + 1) c') w' ∧
      Rw w0 w' 51 7 (.slice A' (S.length + 1) c') (S ++ [s]).length (flatS (S ++ [s])) K ∧ Only W w' (bl v) ∧ (∀ b ∈ bl (.slice A' (S.length + 1) c'), b ∈ bl v ∨ W.heap.size ≤ b) := by
  obtain ⟨i0, hi, hz0, hz1, hz2⟩ := info_parts op_info
  obtain ⟨A', c', w', r1, r2, r3, r4⟩ := (h.quiet (Only.alloc W (.cells (opCells s.o s.A s.b.length s.c) 51) [])).append Try.underlying47 hi hz0 hz1 hz2 rfl (by decide) (by simp; omega) (fun k hk => by have := hK k hk; simp; omega) 47 ⟨W.heap.size, 0, none⟩ 1 (opCells s.o s.A s.b.length s.c).toList rfl (fun j u hj => by
    rw [Addr.add_lit, Lib.cell_of_heap (heap_alloc_new W _)]
    simpa using hj) (by
    intro u hu
    simp at hu
    rcases hu with rfl | rfl | rfl | rfl | rfl | rfl | rfl <;> rfl) hn (by decide)
  have e : flatS (S ++ [s]) = flatS S ++ (opCells s.o s.A s.b.length s.c).toList := by simp [flatS]
  refine ⟨A', c', w', r1, by rw [e, List.length_append, List.length_singleton]; exact r2, ((Only.alloc W _ (bl v)).trans r3 (fun k hk => .inl hk)), fun b hb => (r4 b hb).imp id (fun h => by simp at h; omega)⟩
theorem took_app {w0 W : World} {v : Value} {T : List Int} {K : List Nat} (h : Rw w0 W 25 1 v T.length (T.map (Value.int .u64)) K) (hw : w0.heap.size ≤ W.heap.size) (hK : ∀ k ∈ K, k < W.heap.size) (hn : T.length ≤ 1000) (x : Int) :
    ∃ A' c' w', (Builtin.append_ #[49, 49] 49 #[v, .slice (some ⟨W.heap.size, 0, none⟩) 1 1]).run Try.prog (W.alloc (.cells #[.int .u64 x] 25)) = .ok (.slice A' (T.length + 1) c') w' ∧
      Rw w0 w' 25 1 (.slice A' (T.length + 1) c') (T ++ [x]).length ((T ++ [x]).map (Value.int .u64)) K ∧ Only W w' (bl v) ∧ (∀ b ∈ bl (.slice A' (T.length + 1) c'), b ∈ bl v ∨ W.heap.size ≤ b) := by
  obtain ⟨i0, hi, hz0, hz1, hz2⟩ := info_parts u64_info
  obtain ⟨A', c', w', r1, r2, r3, r4⟩ := (h.quiet (Only.alloc W (.cells #[.int .u64 x] 25) [])).append Try.underlying49 hi hz0 hz1 hz2 rfl (by decide) (by simp; omega) (fun k hk => by have := hK k hk; simp; omega) 49 ⟨W.heap.size, 0, none⟩ 1 [.int .u64 x] rfl (fun j u hj => by
    rw [Addr.add_lit, Lib.cell_of_heap (heap_alloc_new W _)]
    simpa using hj) (by
    intro u hu
    simp at hu
    subst hu
    rfl) hn (by decide)
  refine ⟨A', c', w', r1, by rw [List.length_append, List.length_singleton, List.map_append]; exact r2, ((Only.alloc W _ (bl v)).trans r3 (fun k hk => .inl hk)), fun b hb => (r4 b hb).imp id (fun h => by simp at h; omega)⟩
end Go.Proofs.Ytehgneiiajpgpaa
