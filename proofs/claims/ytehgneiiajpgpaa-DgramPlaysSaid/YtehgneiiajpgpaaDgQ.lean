/- dgram: Flight. -/
import Derived.Test.YtehgneiiajpgpaaDgP
namespace Go.Proofs.Ytehgneiiajpgpaa
open Go.RowKit Go.Maps
set_option linter.all false
set_option maxHeartbeats 2000000
set_option maxRecDepth 100000

/-- A row of datagrams that are new. -/
structure NewRow (w w' : World) (R : Row) : Prop where
  wf : R.wf
  sep : Sep w' R.items
  new : ∀ k ∈ R.items.map (·.1), w.heap.size ≤ k
theorem NewRow.nil (w w' : World) : NewRow w w' noRow := ⟨⟨fun _ => ⟨rfl, rfl⟩, by simp, by simp, by simp⟩, by simpa [Row.items, Row.own] using Sep.nil w', by simp [Row.items, Row.own]⟩
theorem NewRow.add {w wr w3 w4 : World} {R r' : Row} {d : Dg} (h : NewRow w wr R) (hw : w.heap.size ≤ wr.heap.size) (hd : d.wf) (h3 : Only wr w3 []) (hb : ∀ k, d.g = some k → wr.heap.size ≤ k ∧ w3.heap[k]? = some d.obj) (r1 : r'.ds = R.ds ++ [d]) (r2 : r'.wf)
    (r3 : (∃ g, R.g = some g ∧ r'.g = some g ∧ w4.heap[g]? = some r'.obj ∧ Only w3 w4 [g]) ∨ (∃ g, w3.heap.size ≤ g ∧ r'.g = some g ∧ w4.heap[g]? = some r'.obj ∧ Only w3 w4 [])) :
    NewRow w w4 r' := by
  have hS3 : Sep w3 (d.items ++ R.items) := by
    have hS3 : Sep w3 R.items := h.sep.only h3 (fun _ _ => by simp)
    cases hg : d.g with
    | none => simpa [Dg.items, hg] using hS3
    | some k =>
      obtain ⟨q1, q2⟩ := hb k hg
      rw [Dg.items_of hg]
      exact hS3.join k _ q2 (fun hm => by have := h.sep.lt k hm; omega)
  have hnew3 : ∀ k ∈ (d.items ++ R.items).map (·.1), w.heap.size ≤ k := by
    intro k hk
    rw [List.map_append, List.mem_append] at hk
    rcases hk with hk | hk
    · cases hg : d.g with
      | none => simp [Dg.items, hg] at hk
      | some k' =>
        rw [Dg.items_of hg] at hk
        simp at hk
        exact hk ▸ Nat.le_trans hw (hb k' hg).1
    · exact h.new k hk
  have p1 : (d.items ++ R.items).Perm (R.own ++ (R.ds.flatMap Dg.items ++ d.items)) := by
    simp only [Row.items]
    refine perm_by fun _ x => ?_
    simp only [List.count_append]
    omega
  have p2 : (r'.own ++ (R.ds.flatMap Dg.items ++ d.items)).Perm r'.items := by
    simp only [Row.items, r1, List.flatMap_append, List.flatMap_cons, List.flatMap_nil, List.append_nil]
    exact List.Perm.refl _
  have hk1 : ∀ k ∈ (R.own ++ (R.ds.flatMap Dg.items ++ d.items)).map (·.1), w.heap.size ≤ k := fun k hk => hnew3 k (((p1.map (·.1)).mem_iff).2 hk)
  have hSp := hS3.perm p1
  rcases r3 with ⟨g, g1, g2, g3, g4⟩ | ⟨g, g1, g2, g3, g4⟩
  · rw [Row.own_of g1] at hSp hk1
    rw [Row.own_of g2] at p2
    exact ⟨r2, (hSp.put g4 g3).perm p2, fun k hk => hk1 k (((p2.map (·.1)).mem_iff).2 hk)⟩
  · rw [Row.own_of g2] at p2
    refine ⟨r2, ((hSp.right.only g4 (fun _ _ => by simp)).join g _ g3 (fun hm => by have := hSp.right.lt g hm; omega)).perm p2, fun k hk => ?_⟩
    have := ((p2.map (·.1)).mem_iff).2 hk
    rw [List.map_append, List.map_cons, List.map_nil, List.mem_append, List.mem_singleton] at this
    rcases this with rfl | h'
    · have := h3.size; omega
    · exact hk1 k (by rw [List.map_append]; exact List.mem_append_right _ h')
theorem flight_c (w : World) (p : Nat) (N : Net0) (K : List Nat) (hN : NetAt w p N K) :
    Calls Try.prog 15 #[.pointer (some ⟨p, 0, none⟩)] w fun e w' => ∃ R : Row, e = .returned R.val ∧ R.ds.map Dg.abs = N.way ∧ NewRow w w' R ∧ Only w w' [] := by
  obtain ⟨G, hGp, hG, hS, hK, hGN⟩ := id hN
  obtain ⟨A1, c1', hv⟩ := G.way.val_slice hG.way
  have hp := hS.head
  simp only [NetG.obj, hv, hGp] at hp
  obtain ⟨c0, c1, c2, c3, c4, f0, f1, f2, f3, f4⟩ := blk5 hp
  have hlen := hG.wlen
  go_enter Try.func15, Try.ntmps15
  go_wp2
  go_loopg [3, 13] G.way.ds.length (fun gk v3 v13 wr => ∃ (t : Nat) (R : Row), t ≤ G.way.ds.length ∧ gk = G.way.ds.length - t ∧ v13 = .int .i64 (t : Int) ∧ v3 = R.val ∧ Aside0 (R.ds.map Dg.abs = (G.way.ds.take t).map Dg.abs) ∧ Aside0 (NewRow w wr R) ∧ Aside0 (Only w wr []))
  case atStart => exact ⟨0, noRow, Nat.zero_le _, rfl, rfl, rfl, ⟨rfl⟩, ⟨NewRow.nil _ _⟩, ⟨Only.refl _ _⟩⟩
  case round =>
    obtain ⟨t, R, ht, rfl, rfl, rfl, HR, HN, HO⟩ := hrel
    clear c0 c1 c2 c3 c4 f0 f1 f2 f3 f4 hp
    by_cases hlt : (t : Int) < (G.way.ds.length : Int)
    · have hlt1 : decide ((t : Int) < (G.way.ds.length : Int)) = true := decide_eq_true hlt
      have hlt2 : t < G.way.ds.length := by omega
      obtain ⟨d, hd⟩ : ∃ d, G.way.ds[t]? = some d := ⟨_, List.getElem?_eq_getElem hlt2⟩
      have hdw := hG.way.one d (List.mem_of_getElem? hd)
      obtain ⟨g, hg, hgb⟩ : ∃ g, G.way.g = some g ∧ w.heap[g]? = some G.way.obj := by
        cases hg : G.way.g with
        | none => rw [(hG.way.nil hg).1] at hlt2; simp at hlt2
        | some g => exact ⟨g, rfl, hS.block (by simp [NetG.items, Row.items, Row.own_of hg])⟩
      have hval : A1 = some ⟨g, G.way.pre.length, none⟩ := by simp only [Row.val, hg] at hv; simp only [Value.slice.injEq] at hv; exact hv.1.symm
      subst hval
      have hgr : wr.heap[g]? = some G.way.obj := (HO.out.block g (Array.getElem?_eq_some_iff.1 hgb).1 (by simp)).trans hgb
      obtain ⟨x0, x1, x2, x3, x4⟩ := Row.at hgr t d hd
      obtain ⟨A3, n3, c3', hv3⟩ := d.val_slice
      rw [hv3] at x3
      have hby : BytesAt w d.val d.b := Dg.bytes hdw (fun x hx => hS.2 x (by
        simp only [NetG.items, Row.items, List.mem_cons, List.mem_append]
        exact .inr (.inr (.inl (.inr (List.mem_flatMap.2 ⟨d, List.mem_of_getElem? hd, hx⟩))))))
      rw [hv3] at hby
      have z0 : (0 : Int) ≤ (t : Int) := by omega
      have HOWN : ∀ o, Calls Try.prog 36 #[.agg #[.int .i64 d.f, .int .i64 d.t, .int .u64 d.n, .slice A3 n3 c3', .bool d.sp]] (wr.alloc o) _ := fun o => own_c' (wr.alloc o) (.slice A3 n3 c3') d (hby.only (HO.out.trans (Only.alloc wr o []) (by simp))) hdw.len
      have HRL : R.ds.length ≤ 4000 := by
        have := congrArg List.length HR.out
        simp only [List.length_map, List.length_take] at this
        omega
      have hd3 : ∀ (g : Option Nat) (more : List Value), (g = none → d.b = []) → d.b.length + more.length ≤ maxLen → Dg.wf { d with g := g, more := more } := fun g more h1 h2 => ⟨h1, hdw.len, h2, hdw.byte⟩
      have happ : ∀ (g : Option Nat) (more : List Value) (w3 : World) (A5 : Option Addr) (n5 c5 : Nat), Dg.val { d with g := g, more := more } = .slice A5 n5 c5 → (g = none → d.b = []) → d.b.length + more.length ≤ maxLen → Only wr w3 [] → ∃ (r' : Row) (w' : World),
          (Builtin.append_ #[41, 41] 41 #[R.val, .slice (some ⟨w3.heap.size, 0, none⟩) 1 1]).run Try.prog (w3.alloc (.cells #[.int .i64 d.f, .int .i64 d.t, .int .u64 d.n, .slice A5 n5 c5, .bool d.sp] 54)) = .ok r'.val w' ∧ r'.ds = R.ds ++ [{ d with g := g, more := more }] ∧ r'.wf ∧
          ((∃ g, R.g = some g ∧ r'.g = some g ∧ w'.heap[g]? = some r'.obj ∧ Only (w3.alloc (.cells #[.int .i64 d.f, .int .i64 d.t, .int .u64 d.n, .slice A5 n5 c5, .bool d.sp] 54)) w' [g]) ∨ (∃ g, (w3.alloc (.cells #[.int .i64 d.f, .int .i64 d.t, .int .u64 d.n, .slice A5 n5 c5, .bool d.sp] 54)).heap.size ≤ g ∧ r'.g = some g ∧ w'.heap[g]? = some r'.obj ∧ Only (w3.alloc (.cells #[.int .i64 d.f, .int .i64 d.t, .int .u64 d.n, .slice A5 n5 c5, .bool d.sp] 54)) w' [])) := by
        intro g more w3 A5 n5 c5 hq q1 q2 h3
        refine run_append_row _ _ R { d with g := g, more := more } HN.out.wf (hd3 _ _ q1 q2) (fun k hk => ?_) _ 1 (fun j u hj => ?_) HRL
        · have hb := HN.out.sep.block (g := k) (o := R.obj) (by simp [Row.items, Row.own_of hk])
          exact ((h3.trans (Only.alloc w3 _ []) (by simp)).block k (Array.getElem?_eq_some_iff.1 hb).1 (by simp)).trans hb
        · rw [Addr.add_lit]
          simp only [Dg.cells, hq] at hj
          have := World.cell?_alloc_new (w := w3) #[.int .i64 d.f, .int .i64 d.t, .int .u64 d.n, .slice A5 n5 c5, .bool d.sp] 54 (0 + j)
          rw [Nat.zero_add] at this ⊢
          exact this.trans (by simpa using hj)
      have HAPP := Aside0.mk happ
      clear happ
      have HD := Lib.hid hd
      have HDW := Lib.hid hdw
      have HLT := Lib.hid hlt2
      clear hd hdw hlt2 hd3 hby
      go_wp2_with (first
        | (go_at_call 36; refine (HOWN _).mono ?_; rintro e w3 ⟨g5, more5, A5, n5, c5, rfl, q0, q1, q2, q3, q4⟩; have q5 : Only wr w3 [] := (Only.alloc wr _ []).trans q4 (by simp); obtain ⟨r', w5, hrun, s1, s2, s3⟩ := HAPP.out g5 more5 w3 A5 n5 c5 q0 q1 q2 q5)
        | (at_builtin; refine wpList_append_by rfl _ _ _ _ rfl _ _ rfl rfl _ _ hrun ?_))
      go_roundg (G.way.ds.length - (t + 1))
      case measure => have := HLT.out; omega
      case rel =>
        refine ⟨t + 1, r', HLT, rfl, by simp, rfl, ⟨?_⟩, ⟨?_⟩, ⟨?_⟩⟩
        · rw [s1, List.map_append, HR.out, List.take_succ, HD.out]
          simp [Dg.abs]
        · refine NewRow.add (d := { d with g := g5, more := more5 }) HN.out HO.out.size ⟨q1, HDW.out.len, q2, HDW.out.byte⟩ (q5.trans (Only.alloc w3 _ []) (by simp)) (fun k hk => ?_) s1 s2 s3
          obtain ⟨t1, t2⟩ := q3 k hk
          refine ⟨by have := (Only.alloc wr (.cells #[.int .i64 d.f, .int .i64 d.t, .int .u64 d.n, .slice A3 n3 c3', .bool d.sp] 54) []).size; omega, ?_⟩
          exact (Lib.alloc_old _ _ _ (Array.getElem?_eq_some_iff.1 t2).1).trans t2
        · have o5 : Only wr _ [] := q5.trans (Only.alloc w3 (.cells #[.int .i64 d.f, .int .i64 d.t, .int .u64 d.n, .slice A5 n5 c5, .bool d.sp] 54) []) (by simp)
          rcases s3 with ⟨g', e1, e2, e3, e4⟩ | ⟨g', e1, e2, e3, e4⟩
          · have hnew := HN.out.new g' (by simp [Row.items, Row.own_of e1])
            exact ((HO.out.trans o5 (by simp)).trans e4 (ks := []) (by simp [hnew]))
          · exact (HO.out.trans o5 (by simp)).trans e4 (by simp)
    · have hlt1 : decide ((t : Int) < (G.way.ds.length : Int)) = false := decide_eq_false hlt
      have htt : t = G.way.ds.length := by omega
      subst htt
      obtain ⟨A6, c6, hv6⟩ := R.val_slice HN.out.wf
      clear hlt
      go_wp2
      go_ret
      refine ⟨R, rfl, ?_, HN.out, HO.out⟩
      rw [HR.out, List.take_length, ← hGN]
      rfl
end Go.Proofs.Ytehgneiiajpgpaa
