/- dgram: a call of a script among a row's inputs. -/
import Derived.Test.YtehgneiiajpgpaaDgW
import Derived.ChangeSlices
import Derived.ChangeSame
import Derived.OpenShut
import Derived.Deep.Slices
import Derived.SizedLaws
namespace Go.Proofs.Ytehgneiiajpgpaa
open Go.RowKit Go.ChangeShapes Go.WideShapes
set_option linter.all false

theorem lit_u8 {n : Int} (h : (Lit.int .u8 n).wf = true) : 0 ≤ n ∧ n < 256 := by
  simp only [Lit.wf, Bool.and_eq_true, decide_eq_true_eq, show IntKind.u8.min = 0 from rfl, show IntKind.u8.max = 255 from rfl] at h
  omega
theorem lit_u32 {n : Int} (h : (Lit.int .u32 n).wf = true) : 0 ≤ n ∧ n < 4294967296 := by
  simp only [Lit.wf, Bool.and_eq_true, decide_eq_true_eq, show IntKind.u32.min = 0 from rfl, show IntKind.u32.max = 4294967295 from rfl] at h
  omega
theorem lit_i64 {n : Int} (h : (Lit.int .i64 n).wf = true) : -9223372036854775808 ≤ n ∧ n ≤ 9223372036854775807 := by
  simp only [Lit.wf, Bool.and_eq_true, decide_eq_true_eq, show IntKind.i64.min = -9223372036854775808 from rfl, show IntKind.i64.max = 9223372036854775807 from rfl] at h
  omega
/-- What is known of a call that came in. -/
structure OpAt (W : World) (o : Op0) (A : Option Addr) (c : Nat) (b : List Int) : Prop where
  bytes : BytesAt W (.slice A b.length c) b
  byte : ∀ x ∈ b, 0 ≤ x ∧ x < 256
  m : 0 ≤ o.m ∧ o.m < 4294967296
  kd : -9223372036854775808 ≤ o.kd ∧ o.kd ≤ 9223372036854775807
  f : -9223372036854775808 ≤ o.f ∧ o.f ≤ 9223372036854775807
  t : -9223372036854775808 ≤ o.t ∧ o.t ≤ 9223372036854775807
  i : -9223372036854775808 ≤ o.i ∧ o.i ≤ 9223372036854775807
  at' : -9223372036854775808 ≤ o.at' ∧ o.at' ≤ 9223372036854775807
  old : ∀ a, A = some a → b ≠ [] → a.block < W.heap.size
  cap : b.length ≤ maxLen
set_option maxRecDepth 100000 in
theorem open_op {H : Type} {enc : TypeId × Value → H} {W : World} {fuel : Nat} {cs : List Value} {d : DataW H} {ps : List MemPlace} (hf : DataW.trod enc Try.prog W 0 (fun _ => true) true fuel 51 cs = some (d, ps)) :
    ∃ o A c b, cs = (opCells o A b.length c).toList ∧ OpAt W o A c b ∧ ∀ R, (∀ n ∈ d.weights Try.prog 51, n ≤ R) → b.length ≤ R := by
  obtain ⟨xs, m, rfl, hx, hlen, hxl, hfs⟩ := DataW.trod_struct Try.underlying51 hf
  rw [show Try.prog.cellsOf 51 = 7 by kernel_rfl] at hlen
  obtain ⟨c0, c1, c2, c3, c4, c5, c6, rfl⟩ : ∃ c0 c1 c2 c3 c4 c5 c6, cs = [c0, c1, c2, c3, c4, c5, c6] := by
    rcases cs with _ | ⟨c0, _ | ⟨c1, _ | ⟨c2, _ | ⟨c3, _ | ⟨c4, _ | ⟨c5, _ | ⟨c6, _ | ⟨c7, L⟩⟩⟩⟩⟩⟩⟩⟩ <;> simp at hlen
    exact ⟨_, _, _, _, _, _, _, rfl⟩
  have hxl7 : xs.length = 7 := hxl
  obtain ⟨rfl, rfl⟩ := Prod.mk.inj hx
  have get : ∀ i, i < 7 → ∃ y, xs[i]? = some y := fun i hi => ⟨xs[i], List.getElem?_eq_getElem (by omega)⟩
  obtain ⟨y0, g0⟩ := get 0 (by omega)
  obtain ⟨y1, g1⟩ := get 1 (by omega)
  obtain ⟨y2, g2⟩ := get 2 (by omega)
  obtain ⟨y3, g3⟩ := get 3 (by omega)
  obtain ⟨y4, g4⟩ := get 4 (by omega)
  obtain ⟨y5, g5⟩ := get 5 (by omega)
  obtain ⟨y6, g6⟩ := get 6 (by omega)
  have e0 : DataW.trod enc Try.prog W 0 (fun _ => true) true m 3 [c0] = some y0 := (hfs 0 _ rfl).trans g0
  have e1 : DataW.trod enc Try.prog W 0 (fun _ => true) true m 3 [c1] = some y1 := (hfs 1 _ rfl).trans g1
  have e2 : DataW.trod enc Try.prog W 0 (fun _ => true) true m 3 [c2] = some y2 := (hfs 2 _ rfl).trans g2
  have e3 : DataW.trod enc Try.prog W 0 (fun _ => true) true m 3 [c3] = some y3 := (hfs 3 _ rfl).trans g3
  have e4 : DataW.trod enc Try.prog W 0 (fun _ => true) true m 3 [c4] = some y4 := (hfs 4 _ rfl).trans g4
  have e5 : DataW.trod enc Try.prog W 0 (fun _ => true) true m 24 [c5] = some y5 := (hfs 5 _ rfl).trans g5
  have e6 : DataW.trod enc Try.prog W 0 (fun _ => true) true m 28 [c6] = some y6 := (hfs 6 _ rfl).trans g6
  have hxs : xs = [y0, y1, y2, y3, y4, y5, y6] := by
    rcases xs with _ | ⟨z0, _ | ⟨z1, _ | ⟨z2, _ | ⟨z3, _ | ⟨z4, _ | ⟨z5, _ | ⟨z6, _ | ⟨z7, xs⟩⟩⟩⟩⟩⟩⟩⟩ <;> simp at hxl7
    simp at g0 g1 g2 g3 g4 g5 g6
    rw [g0, g1, g2, g3, g4, g5, g6]
  obtain ⟨n0, k0, _, w0⟩ := DataW.trod_int Try.underlying3 e0
  obtain ⟨n1, k1, _, w1⟩ := DataW.trod_int Try.underlying3 e1
  obtain ⟨n2, k2, _, w2⟩ := DataW.trod_int Try.underlying3 e2
  obtain ⟨n3, k3, _, w3⟩ := DataW.trod_int Try.underlying3 e3
  obtain ⟨n4, k4, _, w4⟩ := DataW.trod_int Try.underlying3 e4
  obtain ⟨n5, k5, _, w5⟩ := DataW.trod_int Try.underlying24 e5
  obtain rfl := (List.cons.inj k0).1
  obtain rfl := (List.cons.inj k1).1
  obtain rfl := (List.cons.inj k2).1
  obtain rfl := (List.cons.inj k3).1
  obtain rfl := (List.cons.inj k4).1
  obtain rfl := (List.cons.inj k5).1
  have hwt : ∀ n, n ∈ y6.1.weights Try.prog 28 → n ∈ DataW.weights Try.prog 51 (.agg (xs.map (·.1))) := by
    intro n hn
    have hu : Try.prog.underlying 51 = some (.struct _) := Try.underlying51
    unfold DataW.weights
    rw [hu]
    refine DataW.weights_mem_each (j := 6) (t := 28) (d := y6.1) rfl (by rw [hxs]; rfl) n hn
  rcases open_ints Try.underlying28 Try.underlying5 (by kernel_rfl) e6 with ⟨h1, h8⟩ | ⟨a, len, cap, zs, h1, h2, h3, h4, h5, h8, h6, h7⟩
  · obtain rfl := (List.cons.inj h1).1
    refine ⟨⟨n0, n1, n2, n3, n4, n5⟩, none, 0, [], rfl, ⟨⟨none, 0, rfl, fun _ => rfl, fun _ h => by cases h⟩, (fun _ h => by cases h), lit_u32 w5, lit_i64 w0, lit_i64 w1, lit_i64 w2, lit_i64 w3, lit_i64 w4, (fun _ h => by cases h), by simp⟩, fun R _ => Nat.zero_le _⟩
  · obtain rfl := (List.cons.inj h1).1
    have hzl : zs.length = cap := by simpa using h5
    have hl : (zs.take len).length = len := by rw [List.length_take]; omega
    have hcell : ∀ (j : Nat) (x : Int), (zs.take len)[j]? = some x → W.cell? (a.add j) = some (.int .u8 x) := by
      intro j x hj
      have hjl : j < len := by
        have := (List.getElem?_eq_some_iff.1 hj).1
        omega
      rw [List.getElem?_take, if_pos hjl] at hj
      rw [h6 j (by omega), List.getD_eq_getElem?_getD, hj]
      rfl
    refine ⟨⟨n0, n1, n2, n3, n4, n5⟩, some a, cap, zs.take len, by rw [hl], ⟨⟨some a, cap, rfl, (fun h => by cases h), ?_⟩, fun x hx => lit_u8 (h7 x (List.mem_of_mem_take hx)), lit_u32 w5, lit_i64 w0, lit_i64 w1, lit_i64 w2, lit_i64 w3, lit_i64 w4, ?_, by rw [hl]; omega⟩, fun R hR => ?_⟩
    · rintro ad ha j x hj
      cases ha
      exact hcell j x hj
    · rintro ad ha hb
      cases ha
      cases hz : zs.take len with
      | nil => exact absurd hz hb
      | cons z q =>
        have := World.block_lt_of_cell? _ _ (hcell 0 z (by rw [hz]; rfl))
        rw [block_add] at this
        exact this
    · rw [hl]
      have hm : (zs.length) * 1 ∈ y6.1.weights Try.prog 28 := by
        rw [h8]
        unfold DataW.weights
        rw [Try.underlying28]
        refine List.mem_cons.2 (.inl ?_)
        rw [show Try.prog.bytesOf 5 = 1 by kernel_rfl]
        simp [lits]
        try omega
      have := hR _ (hwt _ hm)
      omega
end Go.Proofs.Ytehgneiiajpgpaa
