/- A tree among a row's inputs: what its datum tells of its cells. -/
import Derived.Test.YtejidddjkngoiaaDoorRow
import Derived.ChangeSlices
import Derived.ChangeSame
import Derived.ShutString
import Derived.OpenShut
import Derived.Test.YtejidddjkngoiaaDoorGpO
import Derived.Deep.Slices
namespace Go.Proofs.YtejidddjkngoiaaDoor
open Go.RowKit Go.ChangeShapes Go.WideShapes Go.Proofs.YtejidddjkngoiaaDoor.PGram Go.Proofs.YtejidddjkngoiaaDoorW.PrintWords
open Go.ChangeMaps (open_string shut_string)
set_option linter.all false
set_option maxRecDepth 100000

theorem ints_C {W : World} {a : Addr} {len cap : Nat} {zs : List Int} (h3 : len ≤ cap) (h4 : cap ≤ maxLen) (hl : len ≤ zs.length) (h5 : ∀ i, i < zs.length → W.cell? (a.add i) = some (.int .u8 (zs.getD i 0))) :
    Kd.C (Kd.int .u8) W (some a) len (zs.take len) := by
  have hk : (zs.take len).length = len := by rw [List.length_take]; omega
  refine ⟨hk, by unfold maxLen at h4; omega, fun _ => ⟨a, rfl, fun j x hj => ⟨[.int .u8 x], rfl, rfl, fun i u hu => ?_⟩⟩⟩
  have hjl : j < (zs.take len).length := by
    rcases Nat.lt_or_ge j (zs.take len).length with h | h
    · exact h
    · rw [List.getElem?_eq_none h] at hj; cases hj
  cases i with
  | succ i => simp at hu
  | zero =>
    have hu : Value.int .u8 x = u := by simpa using hu
    subst hu
    have hjz : j < zs.length := by omega
    rw [show (Kd.int .u8).sz = 1 from rfl, show j * 1 + 0 = j by omega, h5 j hjz]
    rw [List.getElem?_take, if_pos (by omega)] at hj
    rw [List.getD_eq_getElem?_getD, hj]
    rfl
theorem choose_list {α : Type} {p : Nat → α → Prop} : ∀ (n : Nat), (∀ i, i < n → ∃ x, p i x) → ∃ l : List α, l.length = n ∧ ∀ i x, l[i]? = some x → p i x
  | 0, _ => ⟨[], rfl, fun i x h => by simp at h⟩
  | n + 1, h => by
    obtain ⟨l, hl, hp⟩ := choose_list n (fun i hi => h i (by omega))
    obtain ⟨x, hx⟩ := h n (by omega)
    refine ⟨l ++ [x], by simp [hl], fun i y hy => ?_⟩
    rcases Nat.lt_or_ge i n with hi | hi
    · rw [List.getElem?_append_left (by omega)] at hy
      exact hp i y hy
    · rw [List.getElem?_append_right (by omega)] at hy
      have e : i = n := by
        rcases Nat.lt_or_ge (i - l.length) 1 with h1 | h1
        · omega
        · rw [List.getElem?_eq_none (by simpa using h1)] at hy; cases hy
      subst e
      have : x = y := by simpa [hl] using hy
      exact this ▸ hx
theorem okSL_of : ∀ l : List S28, (∀ (i : Nat) x, l[i]? = some x → okS x) → okSL l
  | [], _ => trivial
  | t :: r, h => by
    unfold okSL
    exact ⟨h 0 t rfl, okSL_of r fun i x hx => h (i + 1) x (by simpa using hx)⟩
/-- A tree's cells. -/
theorem open_tree_n {H : Type} {enc : TypeId × Value → H} {W : World} : ∀ (N fuel : Nat), fuel ≤ N → ∀ (cs : List Value) (y : DataW H × List MemPlace), cs.length = 5 →
    DataW.trod enc Tryd.prog W 0 (fun _ => true) true fuel 28 cs = some y → ∃ x : S28, okS x ∧ k28.K W x cs
  | N, 0, _, cs, y, _, h => by unfold DataW.trod at h; cases h
  | 0, _ + 1, hN, _, _, _, _ => by omega
  | N + 1, fuel + 1, hN, cs, y, hcs, hf => by
    obtain ⟨xs, m, hm, hx, hlen, hxl, hfs⟩ := DataW.trod_struct Tryd.underlying28 hf
    have hm' : m ≤ N := by omega
    obtain ⟨c0, c1, c2, c3, c4, rfl⟩ : ∃ c0 c1 c2 c3 c4, cs = [c0, c1, c2, c3, c4] := by
      rcases cs with _ | ⟨c0, _ | ⟨c1, _ | ⟨c2, _ | ⟨c3, _ | ⟨c4, _ | ⟨c5, L⟩⟩⟩⟩⟩⟩ <;> simp at hcs
      exact ⟨_, _, _, _, _, rfl⟩
    have hxl5 : xs.length = 5 := hxl
    have get : ∀ i, i < 5 → ∃ y, xs[i]? = some y := fun i hi => ⟨xs[i], List.getElem?_eq_getElem (by omega)⟩
    have f0 := hfs 0 _ rfl
    have f1 := hfs 1 _ rfl
    have f2 := hfs 2 _ rfl
    have f3 := hfs 3 _ rfl
    have f4 := hfs 4 _ rfl
    obtain ⟨y0, g0⟩ := get 0 (by omega)
    obtain ⟨y1, g1⟩ := get 1 (by omega)
    obtain ⟨y2, g2⟩ := get 2 (by omega)
    obtain ⟨y3, g3⟩ := get 3 (by omega)
    obtain ⟨y4, g4⟩ := get 4 (by omega)
    rw [g0] at f0
    rw [g1] at f1
    rw [g2] at f2
    rw [g3] at f3
    rw [g4] at f4
    have e0 : DataW.trod enc Tryd.prog W 0 (fun _ => true) true m 3 [c0] = some y0 := f0
    have e1 : DataW.trod enc Tryd.prog W 0 (fun _ => true) true m 9 [c1] = some y1 := f1
    have e2 : DataW.trod enc Tryd.prog W 0 (fun _ => true) true m 2 [c2] = some y2 := f2
    have e3 : DataW.trod enc Tryd.prog W 0 (fun _ => true) true m 25 [c3] = some y3 := f3
    have e4 : DataW.trod enc Tryd.prog W 0 (fun _ => true) true m 26 [c4] = some y4 := f4
    obtain ⟨kd, k1, k3, k2⟩ := DataW.trod_int Tryd.underlying3 e0
    obtain ⟨s, s1, s3, s2⟩ := DataW.trod_string Tryd.underlying9 e1
    obtain ⟨n, n1, n3, n2⟩ := DataW.trod_int Tryd.underlying2 e2
    obtain rfl := (List.cons.inj k1).1
    obtain rfl := (List.cons.inj s1).1
    obtain rfl := (List.cons.inj n1).1
    obtain ⟨A3, c3', b, rfl, l3, q3⟩ : ∃ (A3 : Option Addr) (cc : Nat) (b : List Int), c3 = .slice A3 b.length cc ∧ b.length ≤ cc ∧ Kd.C (Kd.int .u8) W A3 b.length b := by
      rcases open_ints Tryd.underlying25 Tryd.underlying5 (by kernel_rfl) e3 with ⟨h1, h8⟩ | ⟨a, len, cap, zs, h1, h2, h3, h4, h5, h8, h6, h7⟩
      · obtain rfl := (List.cons.inj h1).1
        exact ⟨none, 0, [], rfl, Nat.le_refl _, ⟨rfl, by simp, fun h => absurd h (by simp)⟩⟩
      · obtain rfl := (List.cons.inj h1).1
        have hzl : zs.length = cap := by simpa using h5
        have hk : (zs.take len).length = len := by rw [List.length_take]; omega
        have hC := ints_C h3 h4 (by omega) h6
        exact ⟨some a, cap, zs.take len, by rw [hk], by rw [hk]; exact h3, by rw [hk]; exact hC⟩
    obtain ⟨A4, c4', l, rfl, l4, q4, o4⟩ : ∃ (A4 : Option Addr) (cc : Nat) (l : List S28), c4 = .slice A4 l.length cc ∧ l.length ≤ cc ∧ Kd.C k28 W A4 l.length l ∧ l.length ≤ 9223372036854775807 ∧ okSL l := by
      rcases DataW.trod_slice Tryd.underlying26 e4 with ⟨h1, h8⟩ | ⟨a, len, cap, elems, rest, nn, hnn, h1, hxx, hb, h3, h4, hlen', hel, _, _⟩
      · obtain rfl := (List.cons.inj h1).1
        exact ⟨none, 0, [], rfl, Nat.le_refl _, ⟨rfl, by simp, fun h => absurd h (by simp)⟩, by simp, trivial⟩
      · obtain rfl := (List.cons.inj h1).1
        rw [show Tryd.prog.cellsOf 28 = 5 by kernel_rfl] at hel
        obtain ⟨l, hl, hp⟩ := choose_list (α := S28) (p := fun i x => okS x ∧ ∃ c, c.length = 5 ∧ k28.K W x c ∧ ∀ q u, c[q]? = some u → W.cell? (a.add (i * 5 + q)) = some u) len (fun i hi => by
          have h5 := hel i hi
          rw [List.getElem?_eq_getElem (by omega)] at h5
          obtain ⟨cs', q1, q2⟩ := Option.bind_eq_some_iff.1 h5
          obtain ⟨_, q4, q5⟩ := World.cells?_some q1
          obtain ⟨x, hxo, hx⟩ := open_tree_n N nn (by omega) cs' _ q4 q2
          refine ⟨x, hxo, cs', q4, hx, fun q u hu => ?_⟩
          have hq : q < 5 := by
            rcases Nat.lt_or_ge q 5 with h | h
            · exact h
            · rw [List.getElem?_eq_none (by omega)] at hu; cases hu
          have := (q5 q hq).trans hu
          rw [← this]
          congr 1
          unfold Addr.add
          by_cases h1 : i * 5 = 0 <;> by_cases h2 : q = 0 <;> simp [h1, h2, Nat.add_assoc])
        refine ⟨some a, cap, l, by rw [hl], by rw [hl]; exact h3, ⟨rfl, by unfold maxLen at h4; omega, fun _ => ⟨a, rfl, fun i x hx => ?_⟩⟩, by unfold maxLen at h4; omega, okSL_of l fun i x hx => (hp i x hx).1⟩
        obtain ⟨_, c, g1, g2, g3⟩ := hp i x hx
        exact ⟨c, g1, g2, g3⟩
    exact ⟨⟨kd, s, n, b, l⟩, by unfold okS; exact o4, k28_mk W ⟨kd, s, n, b, l⟩ l3 q3 l4 q4⟩
theorem open_tree {H : Type} {enc : TypeId × Value → H} {W : World} {r : Reach} {b0 : Nat} {v : Value} {d : DataW H} {ps : List MemPlace}
    (hval : Value.okWide Tryd.prog W r b0 28 v) (hd : DataW.Trod enc Tryd.prog W 0 (fun _ => true) true 28 v d ps) :
    ∃ (x : S28) (cs : List Value), v = .agg ⟨cs⟩ ∧ okS x ∧ k28.K W x cs := by
  obtain ⟨cs, rfl, hcs⟩ := okWide_struct Tryd.underlying28 hval
  rw [show Tryd.prog.cellsOf 28 = 5 by kernel_rfl] at hcs
  obtain ⟨fuel, hf⟩ := hd
  obtain ⟨x, ho, hx⟩ := open_tree_n fuel fuel (Nat.le_refl _) _ _ hcs hf
  exact ⟨x, cs.toList, by simp, ho, hx⟩
end Go.Proofs.YtejidddjkngoiaaDoor
