/- A token among a row's inputs: what its datum tells of its cells, and the datum out of the cells again. -/
import Derived.Test.YtgkbmdlelcbmhaaDoorRow
import Derived.ChangeSlices
import Derived.ChangeSame
import Derived.ShutString
import Derived.OpenShut
namespace Go.Proofs.YtgkbmdlelcbmhaaDoor
open Go.RowKit Go.ChangeShapes Go.WideShapes Go.Proofs.YtgkbmdlelcbmhaaDoorW.PrintWords
open Go.ChangeMaps (open_string shut_string)
set_option linter.all false

theorem lit_u8 {n : Int} (h : (Lit.int .u8 n).wf = true) : 0 ≤ n ∧ n < 256 := by
  simp only [Lit.wf, Bool.and_eq_true, decide_eq_true_eq, show IntKind.u8.min = 0 from rfl, show IntKind.u8.max = 255 from rfl] at h
  omega
theorem lit_i64 {n : Int} (h : (Lit.int .i64 n).wf = true) : -9223372036854775808 ≤ n ∧ n ≤ 9223372036854775807 := by
  simp only [Lit.wf, Bool.and_eq_true, decide_eq_true_eq, show IntKind.i64.min = -9223372036854775808 from rfl, show IntKind.i64.max = 9223372036854775807 from rfl] at h
  omega
def tokD {H : Type} (A : Option Addr) (l zs : List Int) : DataW H × List MemPlace :=
  match A with
  | none => (.nil, [])
  | some a => (.slice (lits .u8 (zs.take l.length)) (lits .u8 (zs.drop l.length)), MemPlace.row a zs.length)
theorem mapM_five {α β : Type} {F : α → Option β} {a0 a1 a2 a3 a4 : α} {y0 y1 y2 y3 y4 : β} (h0 : F a0 = some y0) (h1 : F a1 = some y1) (h2 : F a2 = some y2) (h3 : F a3 = some y3) (h4 : F a4 = some y4) :
    [a0, a1, a2, a3, a4].mapM F = some [y0, y1, y2, y3, y4] := by
  simp [List.mapM_cons, h0, h1, h2, h3, h4]
/-- What a token's cells are: the datum's parts. -/
structure TokCells (W : World) (v : Value) (kd : Int) (s : ByteArray) (n : Int) (A : Option Addr) (c : Nat) (l : List Int) (p : Int) (zs : List Int) : Prop where
  val : v = .agg #[.int .i64 kd, .string s, .int .i64 n, .slice A l.length c, .int .i64 p]
  wk : (Lit.int .i64 kd).wf = true
  ws : s.size ≤ maxLen
  wn : (Lit.int .i64 n).wf = true
  wp : (Lit.int .i64 p).wf = true
  row : (A = none ∧ l = [] ∧ c = 0 ∧ zs = []) ∨ ∃ a, A = some a ∧ l.length ≤ c ∧ c ≤ maxLen ∧ zs.length = c ∧ l = zs.take l.length ∧ (∀ i, i < zs.length → W.cell? (a.add i) = some (.int .u8 (zs.getD i 0))) ∧ (∀ z ∈ zs, (Lit.int .u8 z).wf = true) ∧ (zs ≠ [] → a.block < W.heap.size)
set_option maxRecDepth 100000 in
theorem open_token {H : Type} {enc : TypeId × Value → H} {W : World} {r : Reach} {b0 : Nat} {v : Value} {d : DataW H} {ps : List MemPlace}
    (hval : Value.okWide Tryd.prog W r b0 33 v) (hd : DataW.Trod enc Tryd.prog W 0 (fun _ => true) true 33 v d ps) :
    ∃ kd s n A c l p zs, TokCells W v kd s n A c l p zs ∧ d = .agg [.lit (.int .i64 kd), .lit (.string s.data.toList), .lit (.int .i64 n), (tokD A l zs).1, .lit (.int .i64 p)] ∧ ps = (tokD (H := H) A l zs).2 := by
  obtain ⟨cs, rfl, hcs⟩ := okWide_struct Tryd.underlying33 hval
  rw [show Tryd.prog.cellsOf 33 = 5 by kernel_rfl] at hcs
  obtain ⟨fuel, hf⟩ := hd
  obtain ⟨xs, m, rfl, hx, hlen, hxl, hfs⟩ := DataW.trod_struct Tryd.underlying33 hf
  obtain ⟨L⟩ := cs
  obtain ⟨c0, c1, c2, c3, c4, rfl⟩ : ∃ c0 c1 c2 c3 c4, L = [c0, c1, c2, c3, c4] := by
    rcases L with _ | ⟨c0, _ | ⟨c1, _ | ⟨c2, _ | ⟨c3, _ | ⟨c4, _ | ⟨c5, L⟩⟩⟩⟩⟩⟩ <;> simp at hcs
    exact ⟨_, _, _, _, _, rfl⟩
  have hxl5 : xs.length = 5 := hxl
  obtain ⟨rfl, rfl⟩ := Prod.mk.inj hx
  have get : ∀ i, i < 5 → ∃ y, xs[i]? = some y := fun i hi => ⟨xs[i], List.getElem?_eq_getElem (by omega)⟩
  have f0 := hfs 0 _ rfl
  have f1 := hfs 1 _ rfl
  have f2 := hfs 2 _ rfl
  have f3 := hfs 3 _ rfl
  have f4 := hfs 4 _ rfl
  obtain ⟨y0, g0⟩ := get 0 (by omega)
  obtain ⟨y1, g1⟩ := get 1 (by omega)
  obtain ⟨y2, g2⟩ := get 2 (by omega)
  obtain ⟨y3, g3⟩ := get 3 (by omega)
  obtain ⟨y4, g4⟩ := get 4 (by omega)
  rw [g0] at f0
  rw [g1] at f1
  rw [g2] at f2
  rw [g3] at f3
  rw [g4] at f4
  have e0 : DataW.trod enc Tryd.prog W 0 (fun _ => true) true m 3 [c0] = some y0 := f0
  have e1 : DataW.trod enc Tryd.prog W 0 (fun _ => true) true m 9 [c1] = some y1 := f1
  have e2 : DataW.trod enc Tryd.prog W 0 (fun _ => true) true m 2 [c2] = some y2 := f2
  have e3 : DataW.trod enc Tryd.prog W 0 (fun _ => true) true m 31 [c3] = some y3 := f3
  have e4 : DataW.trod enc Tryd.prog W 0 (fun _ => true) true m 3 [c4] = some y4 := f4
  have hxs : xs = [y0, y1, y2, y3, y4] := by
    rcases xs with _ | ⟨z0, _ | ⟨z1, _ | ⟨z2, _ | ⟨z3, _ | ⟨z4, _ | ⟨z5, xs⟩⟩⟩⟩⟩⟩ <;> simp at hxl5
    simp at g0 g1 g2 g3 g4
    rw [g0, g1, g2, g3, g4]
  obtain ⟨kd, k1, k3, k2⟩ := DataW.trod_int Tryd.underlying3 e0
  obtain ⟨s, s1, s3, s2⟩ := DataW.trod_string Tryd.underlying9 e1
  obtain ⟨n, n1, n3, n2⟩ := DataW.trod_int Tryd.underlying2 e2
  obtain ⟨p, p1, p3, p2⟩ := DataW.trod_int Tryd.underlying3 e4
  obtain rfl := (List.cons.inj k1).1
  obtain rfl := (List.cons.inj s1).1
  obtain rfl := (List.cons.inj n1).1
  obtain rfl := (List.cons.inj p1).1
  rcases open_ints Tryd.underlying31 Tryd.underlying5 (by kernel_rfl) e3 with ⟨h1, h8⟩ | ⟨a, len, cap, zs, h1, h2, h3, h4, h5, h8, h6, h7⟩
  · obtain rfl := (List.cons.inj h1).1
    refine ⟨kd, s, n, none, 0, [], p, [], ⟨rfl, k2, s2, n2, p2, .inl ⟨rfl, rfl, rfl, rfl⟩⟩, ?_, ?_⟩
    · rw [hxs, k3, s3, n3, p3, h8]
      rfl
    · rw [hxs, k3, s3, n3, p3, h8]
      rfl
  · obtain rfl := (List.cons.inj h1).1
    have hzl : zs.length = cap := by simpa using h5
    have hl : (zs.take len).length = len := by rw [List.length_take]; omega
    refine ⟨kd, s, n, some a, cap, zs.take len, p, zs, ⟨?_, k2, s2, n2, p2, .inr ⟨a, rfl, by rw [hl]; exact h3, h4, hzl, by rw [hl], h6, h7, ?_⟩⟩, ?_, ?_⟩
    · rw [hl]
    · intro hz
      have h0 : 0 < zs.length := by
        cases zs with
        | nil => exact absurd rfl hz
        | cons z q => simp
      have := h6 0 h0
      rcases Nat.lt_or_ge a.block W.heap.size with hb | hb
      · exact hb
      · unfold World.cell? at this
        rw [block_add, Array.getElem?_eq_none hb] at this
        cases this
    · rw [hxs, k3, s3, n3, p3, h8]
      unfold tokD
      rw [hl]
      rfl
    · rw [hxs, k3, s3, n3, p3, h8]
      unfold tokD
      rw [hl]
      simp
theorem TokCells.reads {W : World} {v : Value} {kd : Int} {s : ByteArray} {n : Int} {A : Option Addr} {c : Nat} {l : List Int} {p : Int} {zs : List Int} (h : TokCells W v kd s n A c l p zs) :
    Kd.C (Kd.int .u8) W A l.length l ∧ l.length ≤ c ∧ (∀ z ∈ l, 0 ≤ z ∧ z < 256) := by
  rcases h.row with ⟨rfl, rfl, rfl, _⟩ | ⟨a, rfl, h1, h2, h3, h4, h5, h6, _⟩
  · exact ⟨⟨rfl, by simp, fun h => absurd h (by simp)⟩, Nat.le_refl _, fun z hz => by cases hz⟩
  · refine ⟨⟨rfl, by unfold maxLen at h2; omega, fun _ => ⟨a, rfl, fun j x hj => ⟨[.int .u8 x], rfl, rfl, fun i u hu => ?_⟩⟩⟩, h1, fun z hz => ?_⟩
    · have hjl : j < l.length := by
        rcases Nat.lt_or_ge j l.length with h | h
        · exact h
        · rw [List.getElem?_eq_none h] at hj; cases hj
      cases i with
      | succ i => simp at hu
      | zero =>
        have hu : Value.int .u8 x = u := by simpa using hu
        subst hu
        have hjz : j < zs.length := by omega
        rw [show (Kd.int .u8).sz = 1 from rfl, show j * 1 + 0 = j by omega, h5 j hjz]
        have e : l[j]? = zs[j]? := by
          conv => lhs; rw [h4]
          rw [List.getElem?_take, if_pos hjl]
        rw [hj] at e
        rw [List.getD_eq_getElem?_getD, ← e]
        rfl
    · rw [h4] at hz
      exact lit_u8 (h6 z (List.mem_of_mem_take hz))
set_option maxRecDepth 100000 in
/-- The same datum is read of a later world that has kept the old blocks. -/
theorem TokCells.shut {W W' : World} {v : Value} {kd : Int} {s : ByteArray} {n : Int} {A : Option Addr} {c : Nat} {l : List Int} {p : Int} {zs : List Int} (h : TokCells W v kd s n A c l p zs) (hb : Below W.heap.size W W')
    {H : Type} {enc : TypeId × Value → H} (sp : Nat → Bool) (hsp : ∀ b, b < W.heap.size → sp b = true) :
    DataW.Trod enc Tryd.prog W' 0 sp true 33 v (.agg [.lit (.int .i64 kd), .lit (.string s.data.toList), .lit (.int .i64 n), (tokD A l zs).1, .lit (.int .i64 p)]) (tokD (H := H) A l zs).2 := by
  have i0 := trod_int_mk (enc := enc) (P := Tryd.prog) (w := W') (base := 0) (spare := sp) (held := true) 2 Tryd.underlying3 h.wk
  have i2 := trod_int_mk (enc := enc) (P := Tryd.prog) (w := W') (base := 0) (spare := sp) (held := true) 2 Tryd.underlying2 h.wn
  have i4 := trod_int_mk (enc := enc) (P := Tryd.prog) (w := W') (base := 0) (spare := sp) (held := true) 2 Tryd.underlying3 h.wp
  have i1 : DataW.trod enc Tryd.prog W' 0 sp true 3 9 [.string s] = some (.lit (.string s.data.toList), []) := by
    unfold DataW.trod
    rw [Tryd.underlying9]
    have := h.ws
    split <;> simp_all
  have i3 : DataW.trod enc Tryd.prog W' 0 sp true 3 31 [.slice A l.length c] = some (tokD A l zs) := by
    rcases h.row with ⟨rfl, rfl, rfl, rfl⟩ | ⟨a, rfl, h1, h2, h3, h4, h5, h6, h7⟩
    · unfold DataW.trod
      rw [Tryd.underlying31]
      rfl
    · have hlen : zs.length = if sp a.block = true then c else l.length := by
        by_cases hz : zs = []
        · rw [hz] at h3 h4
          simp at h4
          rw [hz, h4]
          simp at h3
          simp [← h3]
        · rw [hsp a.block (h7 hz)]
          exact h3
      exact shut_ints 1 Tryd.underlying31 Tryd.underlying5 (by kernel_rfl) (Nat.zero_le _) h1 h2 hlen (fun i hi => by
        have e := h5 i hi
        unfold World.cell? at e ⊢
        rw [block_add] at e ⊢
        rw [hb.block _ (h7 (fun e => by rw [e] at hi; cases hi))]
        exact e) h6
  refine ⟨4, ?_⟩
  rw [h.val]
  have := trod_struct_mk (enc := enc) (P := Tryd.prog) (w := W') (base := 0) (spare := sp) (held := true) (n := 3) (cs := [.int .i64 kd, .string s, .int .i64 n, .slice A l.length c, .int .i64 p]) Tryd.underlying33 (by kernel_rfl) (mapM_five i0 i1 i2 i3 i4)
  refine Eq.trans this ?_
  simp
end Go.Proofs.YtgkbmdlelcbmhaaDoor
