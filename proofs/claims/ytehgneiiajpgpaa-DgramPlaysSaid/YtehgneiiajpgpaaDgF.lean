/- dgram: Send. -/
import Derived.Test.YtehgneiiajpgpaaDgE
namespace Go.Proofs.Ytehgneiiajpgpaa
open Go.RowKit Go.Maps
set_option linter.all false

def nodeB (N : Net0) (k : Int) : Bool := decide (1 ≤ k ∧ k ≤ N.nodes)
def u64s (x : Int) : Int := IntKind.u64.wrap (x + 1)
def send0 (N : Net0) (f t : Int) (b : List Int) : Net0 × Int :=
  if nodeB N f = false ∨ nodeB N t = false ∨ f = t then (N, 90) else if 1212 < b.length then (N, 91) else (put0 { N with next := u64s N.next } ⟨f, t, u64s N.next, b, false⟩, 0)
theorem NetTo.refl {w : World} {p : Nat} {N : Net0} {K : List Nat} (h : NetAt w p N K) : NetTo w w p N K := ⟨K, h, fun _ h => .inl h, Only.refl w K⟩
theorem net_next {w : World} {p : Nat} {N : Net0} {K : List Nat} (h : NetAt w p N K) : NetAt (w.setCell ⟨p, 1, none⟩ (.int .u64 (u64s N.next))) p { N with next := u64s N.next } K ∧ Only w (w.setCell ⟨p, 1, none⟩ (.int .u64 (u64s N.next))) K := by
  obtain ⟨G, rfl, hG, hS, rfl, rfl⟩ := h
  have hp := hS.head
  have hk : G.p ∈ G.keys := by simp [NetG.keys, NetG.items]
  have hnx : 0 ≤ u64s G.next ∧ u64s G.next < 18446744073709551616 := by unfold u64s; simp only [IntKind.wrap]; constructor <;> simp [IntKind.signed, IntKind.bits] <;> omega
  exact ⟨⟨{ G with next := u64s G.next }, rfl, { hG with next := hnx }, NetG.setNet hS (Only.setCell _ _ _) rfl rfl rfl rfl rfl rfl rfl (by
    simp only [NetG.obj] at hp
    rw [heap_setCell hp]
    simp [NetG.obj, NetG.abs]), rfl, rfl⟩, (Only.setCell _ _ _).weaken (fun k h => .inl (by simp at h; rw [h]; exact hk))⟩
/-- A write to a cell of a block in which these bytes don't lie. -/
theorem BytesAt.keep1 {w : World} {v : Value} {b : List Int} (h : BytesAt w v b) (p : Nat) (hne : ∀ A n c, v = .slice (some A) n c → b ≠ [] → A.block ≠ p) {o : Nat} (x : Value) : BytesAt (w.setCell ⟨p, o, none⟩ x) v b := by
  obtain ⟨A, c, h1, h2, h3⟩ := h
  refine ⟨A, c, h1, h2, fun ad ha j y hy => ?_⟩
  have hc := h3 ad ha j y hy
  have hb : b ≠ [] := fun e => by simp [e] at hy
  have hn := hne ad b.length c (by rw [h1, ha]) hb
  have e : (ad.add j).block = ad.block := by unfold Addr.add; split <;> rfl
  exact (World.cell?_of_block ((Only.setCell w ⟨p, o, none⟩ x).block _ (World.block_lt_of_cell? _ _ hc) (by rw [e]; simpa using hn))).trans hc
set_option maxHeartbeats 1000000 in
set_option maxRecDepth 100000 in
theorem send_nil (w : World) (f t : Int) (v : Value) : Calls Try.prog 14 #[.pointer none, .int .i64 f, .int .i64 t, v] w fun e w' => e = .returned (.int .i64 1) ∧ w' = w := by
  go_enter Try.func14, Try.ntmps14
  go_wp2
  go_ret
  exact ⟨rfl, rfl⟩
set_option maxHeartbeats 600000 in
set_option maxRecDepth 100000 in
theorem send_c (w : World) (p : Nat) (N : Net0) (K : List Nat) (hN : NetAt w p N K) (f t : Int) (A : Option Addr) (c : Nat) (b : List Int) (h : BytesAt w (.slice A b.length c) b) (hb : ∀ x ∈ b, 0 ≤ x ∧ x < 256) (hout : ∀ a, A = some a → b ≠ [] → a.block ∉ K) :
    Calls Try.prog 14 #[.pointer (some ⟨p, 0, none⟩), .int .i64 f, .int .i64 t, .slice A b.length c] w fun e w' => e = .returned (.int .i64 (send0 N f t b).2) ∧ NetTo w w' p (send0 N f t b).1 K := by
  obtain ⟨G, hGp, hG, hS, hK, hGN⟩ := id hN
  obtain ⟨A1, c1', hv⟩ := G.way.val_slice hG.way
  have hp := hS.head
  simp only [NetG.obj, hv, hGp] at hp
  have hlt : p < w.heap.size := (Array.getElem?_eq_some_iff.1 hp).1
  obtain ⟨c0, c1, c2, c3, c4, f0, f1, f2, f3, f4⟩ := blk5 hp
  have hnn : N.nodes = G.nodes := by rw [← hGN]; rfl
  by_cases h1 : nodeB N f = true
  · have hd1 : decide (1 ≤ f ∧ f ≤ G.nodes) = true := by simpa [nodeB, hnn] using h1
    by_cases h2 : nodeB N t = true
    · have hd2 : decide (1 ≤ t ∧ t ≤ G.nodes) = true := by simpa [nodeB, hnn] using h2
      by_cases h3 : f = t
      · have e0 : send0 N f t b = (N, 90) := by simp [send0, h3]
        rw [e0]
        subst h3
        go_enter Try.func14, Try.ntmps14
        go_wp2_with (go_at_call 34; refine (node_c _ p _ G.nodes c0).mono ?_; (first | rw [hd1] | rw [hd2]); rintro e w2 ⟨rfl, rfl⟩)
        go_ret
        exact ⟨rfl, .refl hN⟩
      · by_cases h4 : 1212 < b.length
        · have e0 : send0 N f t b = (N, 91) := by simp [send0, h1, h2, h3, h4]
          rw [e0]
          go_enter Try.func14, Try.ntmps14
          go_wp2_with (go_at_call 34; refine (node_c _ p _ G.nodes c0).mono ?_; (first | rw [hd1] | rw [hd2]); rintro e w2 ⟨rfl, rfl⟩)
          go_ret
          exact ⟨rfl, .refl hN⟩
        · have hput : ∀ w1, w1 = w.setCell ⟨p, 1, none⟩ (.int .u64 (IntKind.u64.wrap (G.next + 1))) → Calls Try.prog 35 #[.pointer (some ⟨p, 0, none⟩), .agg #[.int .i64 f, .int .i64 t, .int .u64 (IntKind.u64.wrap (G.next + 1)), .slice A b.length c, .bool false]] w1 fun e w' => e = .returned (.tuple #[]) ∧ NetTo w w' p (put0 { N with next := u64s N.next } ⟨f, t, u64s N.next, b, false⟩) K := by
            rintro w1 rfl
            obtain ⟨q1, q2⟩ := net_next hN
            have hnx : N.next = G.next := by rw [← hGN]; rfl
            rw [← hnx]
            have hpK : p ∈ K := by rw [← hK, ← hGp]; simp [NetG.keys, NetG.items]
            have hbb := h.keep1 p (fun a n c' ha hne e => by
              simp only [Value.slice.injEq] at ha
              exact hout a ha.1 hne (e ▸ hpK)) (o := 1) (.int .u64 (IntKind.u64.wrap (N.next + 1)))
            refine (put_c _ p _ K q1 _ ⟨f, t, u64s N.next, b, false, none, []⟩ hbb (Nat.le_of_not_lt h4) hb (by simpa [nodeB] using h2)).mono ?_
            rintro e w3 ⟨rfl, K3, r1, r2, r3⟩
            exact ⟨rfl, K3, r1, fun k hk => (r2 k hk).imp id (fun h => Nat.le_trans q2.size h), q2.trans r3 (fun _ h => .inl h)⟩
          have e0 : send0 N f t b = (put0 { N with next := u64s N.next } ⟨f, t, u64s N.next, b, false⟩, 0) := by simp [send0, h1, h2, h3, h4]
          rw [e0]
          go_enter Try.func14, Try.ntmps14
          go_wp2_with (first
            | (go_at_call 34; refine (node_c _ p _ G.nodes c0).mono ?_; (first | rw [hd1] | rw [hd2]); rintro e w2 ⟨rfl, rfl⟩)
            | (go_at_call 35; refine (hput _ rfl).mono ?_; rintro e w3 ⟨rfl, hto⟩))
          go_ret
          exact ⟨rfl, hto⟩
    · have e0 : send0 N f t b = (N, 90) := by simp only [Bool.not_eq_true] at h2; simp [send0, h2]
      rw [e0]
      have hd2 : decide (1 ≤ t ∧ t ≤ G.nodes) = false := by simpa [nodeB, hnn] using h2
      go_enter Try.func14, Try.ntmps14
      go_wp2_with (go_at_call 34; refine (node_c _ p _ G.nodes c0).mono ?_; (first | rw [hd1] | rw [hd2]); rintro e w2 ⟨rfl, rfl⟩)
      go_ret
      exact ⟨rfl, .refl hN⟩
  · have e0 : send0 N f t b = (N, 90) := by simp only [Bool.not_eq_true] at h1; simp [send0, h1]
    rw [e0]
    have hd1 : decide (1 ≤ f ∧ f ≤ G.nodes) = false := by simpa [nodeB, hnn] using h1
    go_enter Try.func14, Try.ntmps14
    go_wp2_with (go_at_call 34; refine (node_c _ p _ G.nodes c0).mono ?_; (first | rw [hd1] | rw [hd2]); rintro e w2 ⟨rfl, rfl⟩)
    go_ret
    exact ⟨rfl, .refl hN⟩
end Go.Proofs.Ytehgneiiajpgpaa
