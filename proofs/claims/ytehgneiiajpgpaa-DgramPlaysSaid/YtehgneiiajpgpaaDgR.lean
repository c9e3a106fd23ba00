/- dgram: a net of the call's own; alive. -/
import Derived.Test.YtehgneiiajpgpaaDgQ
import Derived.Laws.BytesString
import Derived.Lib.BufferRead
import Derived.Lib.SlBytesConst
namespace Go.Proofs.Ytehgneiiajpgpaa
open Go.RowKit Go.Maps
set_option linter.all false
set_option maxHeartbeats 2000000
set_option maxRecDepth 100000

theorem NetAt.lt {w : World} {p : Nat} {N : Net0} {K : List Nat} (h : NetAt w p N K) : ∀ k ∈ K, k < w.heap.size := by
  obtain ⟨G, _, _, hS, rfl, _⟩ := h
  exact hS.lt
theorem NetAt.only {w w' : World} {p : Nat} {N : Net0} {K ks : List Nat} (h : NetAt w p N K) (ho : Only w w' ks) (hd : ∀ k ∈ K, k ∉ ks) : NetAt w' p N K := by
  obtain ⟨G, h1, h2, hS, rfl, h5⟩ := h
  exact ⟨G, h1, h2, hS.only ho hd, rfl, h5⟩
/-- A net that the call (begun in w) has made. -/
structure Own (w w' : World) (p : Nat) (N : Net0) (K : List Nat) : Prop where
  at' : NetAt w' p N K
  new : ∀ k ∈ K, w.heap.size ≤ k
  only : Only w w' []
theorem Own.step {w w1 w2 : World} {p : Nat} {N N' : Net0} {K : List Nat} (h : Own w w1 p N K) (h2 : NetTo w1 w2 p N' K) : ∃ K', Own w w2 p N' K' := by
  obtain ⟨K', a1, a2, a3⟩ := h2
  refine ⟨K', a1, fun k hk => (a2 k hk).elim (h.new k) (fun hh => Nat.le_trans h.only.size hh), h.only.trans a3 (fun k hk => .inr (h.new k hk))⟩
theorem Own.onlys {w w1 w2 : World} {p : Nat} {N : Net0} {K ks : List Nat} (h : Own w w1 p N K) (ho : Only w1 w2 ks) (hd : ∀ k ∈ K, k ∉ ks) (hn : ∀ k ∈ ks, w.heap.size ≤ k) : Own w w2 p N K :=
  ⟨h.at'.only ho hd, h.new, h.only.trans ho (fun k hk => .inr (hn k hk))⟩
theorem Own.quiet {w w1 w2 : World} {p : Nat} {N : Net0} {K : List Nat} (h : Own w w1 p N K) (ho : Only w1 w2 []) : Own w w2 p N K := h.onlys ho (fun _ _ => by simp) (fun _ h => by cases h)
/-- A datagram apart from the net. -/
structure Apart (w w' : World) (d : Dg) (K : List Nat) : Prop where
  wf : d.wf
  sep : Sep w' d.items
  out : ∀ k ∈ d.items.map (·.1), k ∉ K
  new : ∀ k ∈ d.items.map (·.1), w.heap.size ≤ k
theorem Own.took {w w1 w2 : World} {p : Nat} {N N' : Net0} {K : List Nat} {c : Int} {x : D0} {e : Ending} (h : Own w w1 p N K) (h2 : Took w1 p N' K c (some x) e w2) :
    ∃ (d : Dg) (K' : List Nat), d.abs = x ∧ e = .returned (.tuple #[.agg d.cells.toArray, .bool true, .int .i64 c]) ∧ Own w w2 p N' K' ∧ Apart w w2 d K' := by
  obtain ⟨d, h1, h2, h3, K', ⟨G, g1, g2, g3, g4, g5⟩, h5, h6⟩ := h2
  have hn : ∀ k ∈ K', w.heap.size ≤ k := fun k hk => (h5 k hk).elim (h.new k) (fun hh => Nat.le_trans h.only.size hh)
  refine ⟨d, G.keys, h1, h3, ⟨⟨G, g1, g2, g3.right, rfl, g5⟩, fun k hk => hn k ?_, h.only.trans h6 (fun k hk => .inr (h.new k hk))⟩, h2, g3.left, fun k hk hk2 => ?_, fun k hk => hn k ?_⟩
  · rw [← g4, List.map_append]; exact List.mem_append_right _ hk
  · have := g3.1
    rw [List.map_append] at this
    exact (List.nodup_append.1 this).2.2 k hk k hk2 rfl
  · rw [← g4, List.map_append]; exact List.mem_append_left _ hk
theorem Apart.bytes {w w' : World} {d : Dg} {K : List Nat} (h : Apart w w' d K) : BytesAt w' d.val d.b := Dg.bytes h.wf h.sep.2
def bstr (b : List Int) : ByteArray := b.foldl (fun r n => r.push (UInt8.ofNat n.toNat)) ByteArray.empty
theorem conv_bytes {w : World} {v : Value} {b : List Int} (h : BytesAt w v b) : (convert 28 9 v).run Try.prog w = .ok (.string (bstr b)) w := by
  obtain ⟨A, c, rfl, hn, hc⟩ := h
  cases A with
  | none =>
    rw [hn rfl]
    exact Lib.run_convert_nil_bytes w _ _ _ c Try.underlying28 Try.underlying5 Try.underlying9
  | some ad =>
    rw [run_convert_bytes_string w _ _ _ (some ad) b.length c Try.underlying28 Try.underlying5 Try.underlying9]
    refine run_bytesToString w ad b.length c b ?_
    have := run_loadCells_list (P := Try.prog) w ad (b.map (Value.int .u8)) (fun j v hj => by
      simp only [List.getElem?_map, Option.map_eq_some_iff] at hj
      obtain ⟨x, hx, rfl⟩ := hj
      exact hc ad rfl j x hx)
    simpa using this
def N2 : Net0 := ⟨2, 0, [], fun _ => [], 0, 0⟩
def dA : D0 := ⟨1, 2, 1, [97], false⟩
theorem al1 : send0 N2 1 2 [97] = ({ N2 with next := 1, way := [dA] }, 0) := rfl
theorem al2 : twin0 { N2 with next := 1, way := [dA] } 0 = ({ N2 with next := 1, way := [dA, dA] }, 0) := rfl
theorem al3 : deliver0 { N2 with next := 1, way := [dA, dA] } 0 = ({ N2 with next := 1, way := [dA], box := upd0 N2.box 2 [dA], ops := 1 }, 0) := rfl
theorem al4 : take0 { N2 with next := 1, way := [dA], box := upd0 N2.box 2 [dA], ops := 1 } 2 = ({ N2 with next := 1, way := [dA], box := upd0 (upd0 N2.box 2 [dA]) 2 [], ops := 2 }, some dA, 0) := rfl
theorem al5 : send0 { N2 with next := 1, way := [dA], box := upd0 (upd0 N2.box 2 [dA]) 2 [], ops := 2 } 1 1 [] = ({ N2 with next := 1, way := [dA], box := upd0 (upd0 N2.box 2 [dA]) 2 [], ops := 2 }, 90) := rfl
theorem alive_c (w : World) : Calls Try.prog 12 #[] w fun e w' => e = .returned (.bool true) ∧ Only w w' [] := by
  have SEND1 : ∀ w0 p K0, Own w w0 p N2 K0 → Calls Try.prog 14 #[.pointer (some ⟨p, 0, none⟩), .int .i64 1, .int .i64 2, .slice (some ⟨w0.heap.size, 0, none⟩) 1 1] (w0.alloc (.cells #[.int .u8 97] 5 (1, 2))) fun e w' => e = .returned (.int .i64 0) ∧ ∃ K, Own w w' p { N2 with next := 1, way := [dA] } K := by
    intro w0 p K0 h0
    have hq := h0.quiet (Only.alloc w0 (.cells #[.int .u8 97] 5 (1, 2)) [])
    have hb : BytesAt (w0.alloc (.cells #[.int .u8 97] 5 (1, 2))) (.slice (some ⟨w0.heap.size, 0, none⟩) [(97 : Int)].length 1) [97] := ⟨_, 1, rfl, (fun h => by cases h), by
      rintro ad ha j x hx
      cases ha
      have hj : j = 0 := by
        have := (List.getElem?_eq_some_iff.1 hx).1
        simp at this
        exact this
      subst hj
      simp at hx
      subst hx
      rw [Addr.add_lit]
      have := cell_of_row _ w0.heap.size 0 _ _ _ (heap_alloc_new w0 (.cells #[.int .u8 97] 5 (1, 2)))
      simpa using this⟩
    have hc := send_c _ p N2 K0 hq.at' 1 2 (some ⟨w0.heap.size, 0, none⟩) 1 [97] hb (by simp) (fun a ha _ hk => by
      cases ha
      have := h0.at'.lt _ hk
      simp at this)
    rw [al1] at hc
    exact hc.mono fun e w' h => ⟨h.1, hq.step h.2⟩
  have TWIN : ∀ w0 p K0, Own w w0 p { N2 with next := 1, way := [dA] } K0 → Calls Try.prog 17 #[.pointer (some ⟨p, 0, none⟩), .int .i64 0] w0 fun e w' => e = .returned (.int .i64 0) ∧ ∃ K, Own w w' p { N2 with next := 1, way := [dA, dA] } K := by
    intro w0 p K0 h0
    have hc := twin_c _ p _ K0 h0.at' 0
    rw [al2] at hc
    exact hc.mono fun e w' h => ⟨h.1, h0.step h.2⟩
  have DELIVER : ∀ w0 p K0, Own w w0 p { N2 with next := 1, way := [dA, dA] } K0 → Calls Try.prog 18 #[.pointer (some ⟨p, 0, none⟩), .int .i64 0] w0 fun e w' => e = .returned (.int .i64 0) ∧ ∃ K, Own w w' p { N2 with next := 1, way := [dA], box := upd0 N2.box 2 [dA], ops := 1 } K := by
    intro w0 p K0 h0
    have hc := deliver_c _ p _ K0 h0.at' 0 (by show (0 : Nat) < _; omega)
    rw [al3] at hc
    exact hc.mono fun e w' h => ⟨h.1, h0.step h.2⟩
  have TAKE : ∀ w0 p K0, Own w w0 p { N2 with next := 1, way := [dA], box := upd0 N2.box 2 [dA], ops := 1 } K0 → Calls Try.prog 33 #[.pointer (some ⟨p, 0, none⟩), .int .i64 2] w0 fun e w' => ∃ d K, Dg.abs d = dA ∧ e = .returned (.tuple #[.agg d.cells.toArray, .bool true, .int .i64 0]) ∧ Own w w' p { N2 with next := 1, way := [dA], box := upd0 (upd0 N2.box 2 [dA]) 2 [], ops := 2 } K ∧ Apart w w' d K := by
    intro w0 p K0 h0
    have hc := take_c _ p _ K0 h0.at' 2 (by show (1 : Nat) < _; omega)
    rw [al4] at hc
    exact hc.mono fun e w' h => h0.took h
  have FLIGHT : ∀ w0 p K0, Own w w0 p { N2 with next := 1, way := [dA], box := upd0 (upd0 N2.box 2 [dA]) 2 [], ops := 2 } K0 → Calls Try.prog 15 #[.pointer (some ⟨p, 0, none⟩)] w0 fun e w' => ∃ A c, e = .returned (.slice A 1 c) ∧ Own w w' p { N2 with next := 1, way := [dA], box := upd0 (upd0 N2.box 2 [dA]) 2 [], ops := 2 } K0 := by
    intro w0 p K0 h0
    refine (flight_c _ p _ K0 h0.at').mono ?_
    rintro e w' ⟨R, rfl, hR, hN, ho⟩
    obtain ⟨A, c, hv⟩ := R.val_slice hN.wf
    have hl : R.ds.length = 1 := by have := congrArg List.length hR; simpa using this
    rw [hl] at hv
    exact ⟨A, c, by rw [hv], h0.quiet ho⟩
  have SEND2 : ∀ w0 p K0, Own w w0 p { N2 with next := 1, way := [dA], box := upd0 (upd0 N2.box 2 [dA]) 2 [], ops := 2 } K0 → Calls Try.prog 14 #[.pointer (some ⟨p, 0, none⟩), .int .i64 1, .int .i64 1, .slice none 0 0] w0 fun e w' => e = .returned (.int .i64 90) ∧ ∃ K, Own w w' p { N2 with next := 1, way := [dA], box := upd0 (upd0 N2.box 2 [dA]) 2 [], ops := 2 } K := by
    intro w0 p K0 h0
    have hc := send_c _ p _ K0 h0.at' 1 1 none 0 [] ⟨none, 0, rfl, fun _ => rfl, fun _ h => by cases h⟩ (by simp) (fun a h => by cases h)
    rw [al5] at hc
    exact hc.mono fun e w' h => ⟨h.1, h0.step h.2⟩
  have H1 := Aside0.mk SEND1
  have H2 := Aside0.mk TWIN
  have H3 := Aside0.mk DELIVER
  have H4 := Aside0.mk TAKE
  have H5 := Aside0.mk FLIGHT
  have H6 := Aside0.mk SEND2
  have hcv : ∀ (w : World) (d : Dg) (K : List Nat) (w5 : World) (A : Option Addr) (n c : Nat), d.abs = dA → Apart w w5 d K → d.val = .slice A n c → ∀ o, (convert 28 9 (.slice A n c)).run Try.prog (w5.alloc o) = .ok (.string ⟨#[97]⟩) (w5.alloc o) := by
    intro w d K w5 A n c h1 h2 h3 o
    have hb : d.b = [97] := by have := congrArg D0.b h1; simpa [Dg.abs, dA] using this
    have := conv_bytes (h2.bytes.only (Only.alloc w5 o []))
    rw [h3, hb] at this
    exact this
  have H7 := Aside0.mk hcv
  have NEW : Calls Try.prog 13 #[.int .i64 2] w fun e w' => ∃ p K, e = .returned (.tuple #[.pointer (some ⟨p, 0, none⟩), .int .i64 0]) ∧ Own w w' p N2 K := (new_c w 2 (by omega)).mono fun e w' ⟨p, K, h1, h2, h3, h4⟩ => ⟨p, K, h1, h2, h3, h4⟩
  have hcs := fun W => Lib.run_convert_bytes_const (P := Try.prog) W 28 5 #[.int .u8 97] 1 1 Try.underlying28 Try.underlying5
  clear SEND1 TWIN DELIVER TAKE FLIGHT SEND2 hcv
  go_enter Try.func12, Try.ntmps12
  go_wp2_with (first
    | (go_at_call 13; refine NEW.mono ?_; rintro e w0 ⟨p, K0, rfl, hN0⟩)
    | (go_at_call 14; refine (H1.out _ _ _ hN0).mono ?_; rintro e w1 ⟨rfl, K1, hN1⟩; clear hN0)
    | (go_at_call 17; refine (H2.out _ _ _ hN1).mono ?_; rintro e w2 ⟨rfl, K2, hN2⟩)
    | (go_at_call 18; refine (H3.out _ _ _ hN2).mono ?_; rintro e w3 ⟨rfl, K3, hN3⟩)
    | (go_at_call 33; refine (H4.out _ _ _ hN3).mono ?_; rintro e w4 ⟨d, K4, hd, rfl, hN4, hA4⟩; obtain ⟨A, n, c, hv⟩ := d.val_slice; have hz4 := H7.out _ d K4 w4 A n c hd hA4 hv (.cells #[.int .i64 d.f, .int .i64 d.t, .int .u64 d.n, .slice A n c, .bool d.sp] 54); have hdn : d.n = 1 := congrArg D0.n hd; rw [hdn] at hz4; simp only [Dg.cells, hv, hdn]; clear hd hA4 hv)
    | (go_at_call 15; refine (H5.out _ _ _ (hN4.quiet (Only.alloc w4 _ []))).mono ?_; rintro e w5 ⟨A5, c5, rfl, hN5⟩)
    | (go_at_call 14; refine (H6.out _ _ _ hN5).mono ?_; rintro e w6 ⟨rfl, K6, hN6⟩))
  go_ret
  exact ⟨rfl, hN6.only⟩
end Go.Proofs.Ytehgneiiajpgpaa
