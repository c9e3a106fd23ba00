/- dgram: datagrams and rows of them, as they lie. -/
import Derived.Test.YtehgneiiajpgpaaDgA
import Derived.Test.YtehgneiiajpgpaaChecked
import Derived.ArgAppend
namespace Go.Proofs.Ytehgneiiajpgpaa
open Go.RowKit
set_option linter.all false

/-- A datagram: its numbers, its bytes, and (for the proof) the block its bytes lie in, with what lies behind them there. -/
structure Dg where
  f : Int
  t : Int
  n : Int
  b : List Int
  sp : Bool
  g : Option Nat
  more : List Value
def Dg.val (d : Dg) : Value := match d.g with
  | none => .slice none 0 0
  | some g => .slice (some ⟨g, 0, none⟩) d.b.length (d.b.length + d.more.length)
def Dg.cells (d : Dg) : List Value := [.int .i64 d.f, .int .i64 d.t, .int .u64 d.n, d.val, .bool d.sp]
def Dg.obj (d : Dg) : Obj := .cells (d.b.map (Value.int .u8) ++ d.more).toArray 5 (0, 0)
def Dg.items (d : Dg) : List Item := match d.g with
  | none => []
  | some g => [(g, d.obj)]
structure Dg.wf (d : Dg) : Prop where
  nil : d.g = none → d.b = []
  len : d.b.length ≤ 1212
  cap : d.b.length + d.more.length ≤ maxLen
  byte : ∀ x ∈ d.b, 0 ≤ x ∧ x < 256
def flat (l : List Dg) : List Value := l.flatMap Dg.cells
theorem flat_len : ∀ l : List Dg, (flat l).length = l.length * 5
  | [] => rfl
  | d :: l => by
    have := flat_len l
    simp only [flat, List.flatMap_cons, List.length_append, List.length_cons] at this ⊢
    rw [this, show d.cells.length = 5 from rfl]
    omega
theorem flat_app (a b : List Dg) : flat (a ++ b) = flat a ++ flat b := by simp [flat]
/-- A row of datagrams: which, in which block, what lies ahead of and behind them there, and for how many more there is room. -/
structure Row where
  ds : List Dg
  g : Option Nat
  pre : List Value
  post : List Value
  k : Nat
def Row.val (r : Row) : Value := match r.g with
  | none => .slice none 0 0
  | some g => .slice (some ⟨g, r.pre.length, none⟩) r.ds.length (r.ds.length + r.k)
def Row.obj (r : Row) : Obj := .cells (r.pre ++ flat r.ds ++ r.post).toArray 54 (0, 0)
def Row.own (r : Row) : List Item := match r.g with
  | none => []
  | some g => [(g, r.obj)]
def Row.items (r : Row) : List Item := r.own ++ r.ds.flatMap Dg.items
structure Row.wf (r : Row) : Prop where
  nil : r.g = none → r.ds = [] ∧ r.k = 0
  room : 5 * r.k ≤ r.post.length
  cap : r.ds.length + r.k ≤ maxLen
  one : ∀ d ∈ r.ds, d.wf
theorem flat_one (l : List Dg) : ∀ v ∈ flat l, v.oneCell' = true := by
  intro v hv
  obtain ⟨d, _, hd⟩ := List.mem_flatMap.1 hv
  simp only [Dg.cells, List.mem_cons, List.not_mem_nil, or_false] at hd
  rcases hd with rfl | rfl | rfl | rfl | rfl
  · rfl
  · rfl
  · rfl
  · unfold Dg.val; cases d.g <;> rfl
  · rfl
theorem cells_one (d : Dg) : ∀ v ∈ d.cells, v.oneCell' = true := fun v hv => flat_one [d] v (by simpa [flat] using hv)
theorem data_info : (Try.prog.info? 54).map (fun i => (i.zero, i.size, i.bytes)) = some (some (.agg #[(.int .i64 0), (.int .i64 0), (.int .u64 0), (.slice none 0 0), (.bool false)]), 5, 56) := by kernel_rfl
/-- append where there is room, at a slice that begins anywhere in its row. -/
theorem run_append_room_at {P : Program} (w : World) (t ty e : TypeId) (i : TypeInfo) (ht : P.underlying t = some (.slice e)) (hi : P.info? e = some i)
    (g off sLen sCap : Nat) (cur : Array Value) (hg : w.heap[g]? = some (.cells cur e (0, 0)))
    (a : Addr) (m c : Nat) (news : List Value) (hl : news.length = m * i.size) (hnews : ∀ j u, news[j]? = some u → w.cell? (a.add j) = some u) (h1 : ∀ u ∈ news, u.oneCell' = true)
    (hroom : sLen + m ≤ sCap) (hfit : off + sLen * i.size + news.length ≤ cur.size) :
    (Builtin.append_ #[t, t] ty #[.slice (some ⟨g, off, none⟩) sLen sCap, .slice (some a) m c]).run P w =
      .ok (.slice (some ⟨g, off, none⟩) (sLen + m) sCap) (w.setRow g (cur.toList.take (off + sLen * i.size) ++ news ++ cur.toList.drop (off + sLen * i.size + news.length)).toArray) := by
  have hf := run_firstCells_some (P := P) w i.size m a m c news hl hnews
  have hst := run_storeCells_at P g (off + sLen * i.size) e news 0 cur w hg (by simpa using hfit) h1
  simp only [Nat.add_zero] at hst
  simp [Builtin.append_, run_underlying ht, sizeOf, typeInfo, hi, Builtin.lenOf, hroom, hf, Addr.add_lit, hst]
theorem Only.setRow (w : World) (g : Nat) (cs : Array Value) : Only w (w.setRow g cs) [g] :=
  ⟨rfl, rfl, rfl, by simp [World.setRow], fun k _ hn => setRow_other w g k _ (fun e => hn (by simp [e]))⟩
theorem Only.setCell (w : World) (a : Addr) (v : Value) : Only w (w.setCell a v) [a.block] :=
  ⟨rfl, rfl, rfl, by simp [World.setCell], fun k _ hn => by
    have : k ≠ a.block := fun e => hn (by simp [e])
    simp [World.setCell, Array.getElem?_modify, Ne.symm this]⟩
theorem row_cells {w : World} {g : Nat} {t : TypeId} {pre xs post : List Value} (h : w.heap[g]? = some (.cells (pre ++ xs ++ post).toArray t (0, 0))) :
    ∀ j u, xs[j]? = some u → w.cell? ((⟨g, pre.length, none⟩ : Addr).add j) = some u := by
  intro j u hj
  rw [Addr.add_lit]
  have hl : j < xs.length := (List.getElem?_eq_some_iff.1 hj).1
  simp only [World.cell?, h]
  have : (pre ++ xs ++ post)[pre.length + j]? = some u := by
    rw [List.getElem?_append_left (by simp; omega), List.getElem?_append_right (by omega)]
    simpa using hj
  simpa using this
/-- append of one datagram to a row. -/
theorem run_append_row (w : World) (ty : TypeId) (r : Row) (d : Dg) (hr : r.wf) (hd : d.wf) (hg : ∀ g, r.g = some g → w.heap[g]? = some r.obj) (a : Addr) (c : Nat) (hc : ∀ j u, d.cells[j]? = some u → w.cell? (a.add j) = some u) (hl : r.ds.length ≤ 4000) :
    ∃ (r' : Row) (w' : World), (Builtin.append_ #[41, 41] ty #[r.val, .slice (some a) 1 c]).run Try.prog w = .ok r'.val w' ∧ r'.ds = r.ds ++ [d] ∧ r'.wf ∧
      ((∃ g, r.g = some g ∧ r'.g = some g ∧ w'.heap[g]? = some r'.obj ∧ Only w w' [g]) ∨ (∃ g, w.heap.size ≤ g ∧ r'.g = some g ∧ w'.heap[g]? = some r'.obj ∧ Only w w' [])) := by
  obtain ⟨i0, hi, hz0, hz1, hz2⟩ := info_parts data_info
  have hone : ∀ x ∈ r.ds ++ [d], x.wf := fun x hx => by
    rcases List.mem_append.1 hx with h | h
    · exact hr.one x h
    · rw [List.mem_singleton.1 h]; exact hd
  have hfd : flat [d] = d.cells := by simp [flat]
  have hdl : d.cells.length = 5 := rfl
  -- a new block
  have new : ∀ v' w', w'.ownsRow w.heap.size 54 5 v' (r.ds.length + 1) (flat r.ds ++ d.cells) → w.grownBy w' none → ∃ r' : Row, v' = r'.val ∧ r'.ds = r.ds ++ [d] ∧ r'.wf ∧ (∃ g, w.heap.size ≤ g ∧ r'.g = some g ∧ w'.heap[g]? = some r'.obj ∧ Only w w' []) := by
    intro v' w' ho hgr
    rcases ho.2 with ⟨_, h0⟩ | ⟨g, cap, cur, rfl, hbg, hcell, hnc, hcm, hcs, htake⟩
    · omega
    have hx : cur.toList = flat (r.ds ++ [d]) ++ cur.toList.drop ((r.ds.length + 1) * 5) := by
      rw [flat_app, hfd, ← htake]
      exact (List.take_append_drop _ _).symm
    refine ⟨⟨r.ds ++ [d], some g, [], cur.toList.drop ((r.ds.length + 1) * 5), cap - (r.ds.length + 1)⟩, ?_, rfl, ⟨(fun h => by cases h), ?_, ?_, hone⟩, g, hbg, rfl, ?_, Only.grown hgr (fun _ h => by cases h)⟩
    · simp only [Row.val, List.length_nil, List.length_append, List.length_cons]
      congr 1
      omega
    · simp only [List.length_drop, Array.length_toList]
      omega
    · simp only [List.length_append, List.length_cons, List.length_nil]
      omega
    · rw [hcell]
      simp only [Row.obj, List.nil_append]
      rw [← hx, Array.toArray_toList]
  cases hrg : r.g with
  | none =>
    obtain ⟨h0, hk⟩ := hr.nil hrg
    have hv : r.val = .slice none 0 0 := by simp [Row.val, hrg]
    obtain ⟨v', w', hrun, r1, r2, _⟩ := run_append_own (P := Try.prog) w w.heap.size 41 ty 54 i0 _ 5 56 Try.underlying41 hi hz0 hz1 hz2 rfl (by decide) (.slice none 0 0) 0 [] (World.ownsRow_nil w _ _ 5) a 1 c d.cells rfl hc (cells_one d) (by simp [maxLen]) (by omega) (Nat.le_refl _)
    rw [h0] at new
    obtain ⟨r', rfl, r3, r4, r5⟩ := new v' w' (by simpa [flat] using r1) r2
    exact ⟨r', w', by rw [hv]; exact hrun, by rw [h0]; exact r3, r4, .inr r5⟩
  | some g =>
    have hv : r.val = .slice (some ⟨g, r.pre.length, none⟩) r.ds.length (r.ds.length + r.k) := by simp [Row.val, hrg]
    have hcell := hg g hrg
    by_cases hk : r.k = 0
    · obtain ⟨v', w', hrun, r1, r2⟩ := run_append_arg_grows (P := Try.prog) w 41 ty 54 i0 _ 5 56 Try.underlying41 hi hz0 hz1 hz2 rfl (by decide) ⟨g, r.pre.length, none⟩ r.ds.length (r.ds.length + r.k) (flat r.ds) (flat_len _) (row_cells hcell) a 1 c d.cells rfl hc (by omega) (by simp only [maxLen]; omega) (by omega)
      obtain ⟨r', rfl, r3, r4, r5⟩ := new v' w' r1 r2
      exact ⟨r', w', by rw [hv]; exact hrun, r3, r4, .inr r5⟩
    · have hroom := hr.room
      have hrun := run_append_room_at (P := Try.prog) w 41 ty 54 i0 Try.underlying41 hi g r.pre.length r.ds.length (r.ds.length + r.k) _ hcell a 1 c d.cells (by rw [hz1]; rfl) hc (cells_one d) (by omega) (by
        simp only [hz1, List.size_toArray, List.length_append, flat_len, hdl]
        omega)
      rw [hz1] at hrun
      refine ⟨⟨r.ds ++ [d], some g, r.pre, r.post.drop 5, r.k - 1⟩, _, by rw [hv]; refine hrun.trans ?_; congr 1; simp only [Row.val, List.length_append, List.length_cons, List.length_nil]; congr 1; omega, rfl, ⟨(fun h => by cases h), ?_, ?_, hone⟩, .inl ⟨g, rfl, rfl, ?_, Only.setRow w g _⟩⟩
      · simp only [List.length_drop]
        omega
      · have := hr.cap
        simp only [List.length_append, List.length_cons, List.length_nil]
        omega
      · rw [setRow_heap w g _ _ _ _ hcell]
        simp only [Row.obj]
        congr 3
        have e1 : r.pre.length + r.ds.length * 5 = (r.pre ++ flat r.ds).length := by simp [flat_len]
        rw [e1, flat_app, hfd, hdl, List.take_left, List.drop_append, List.drop_of_length_le (by omega)]
        simp
end Go.Proofs.Ytehgneiiajpgpaa
