/- dgram: do, at no net and at a net. -/
import Derived.Test.YtehgneiiajpgpaaDgV
namespace Go.Proofs.Ytehgneiiajpgpaa
open Go.RowKit Go.Maps
set_option linter.all false

theorem Done.nil {w : World} {e : Ending} {w'' : World} (h : Done w (fun c W w' => c = 1 ∧ w' = W) e w'') : e = .returned (.tuple #[zeroDg, .bool false, .int .i64 1]) ∧ Only w w'' [] := by
  obtain ⟨c, W, w', he, h1, h2, ⟨rfl, rfl⟩, h4⟩ := h
  exact ⟨he, h1.trans h4 (by simp)⟩
theorem do_nil (w : World) (o : Op0) (A : Option Addr) (c : Nat) (b : List Int) (hkd : 0 ≤ o.kd ∧ o.kd ≤ 6) (hb : BytesAt w (.slice A b.length c) b) (hlb : b.length ≤ 140737488355328) :
    Calls Try.prog 22 #[.pointer none, .agg (opCells o A b.length c)] w fun e w' => e = .returned (.tuple #[zeroDg, .bool false, .int .i64 1]) ∧ Only w w' [] := by
  have hk : o.kd = 0 ∨ o.kd = 1 ∨ o.kd = 2 ∨ o.kd = 3 ∨ o.kd = 4 ∨ o.kd = 5 ∨ o.kd = 6 := by omega
  rcases hk with h | h | h | h | h | h | h
  · refine (do_0 w none o A c b [] (fun c W w' => c = 1 ∧ w' = W) (fun _ h => by cases h) h hb hlb ?_).mono ?_
    · intro W A' c' hW _ _
      refine (send_nil W _ _ _).mono ?_
      rintro e w' ⟨rfl, rfl⟩
      exact ⟨1, rfl, Only.refl _ _, rfl, rfl⟩
    · rintro e w'' ⟨c, W, w', ks, he, h1, ⟨rfl, rfl⟩, h4, h5⟩
      exact ⟨he, h1.trans h4 (fun k hk => .inr (h5 k hk).1)⟩
  · exact (do_1 w none o A _ c [] _ (fun _ h => by cases h) h (fun W hW => (deliver_nil W _).mono fun e w' ⟨h1, h2⟩ => ⟨1, h1, by rw [h2]; exact Only.refl _ _, rfl, h2⟩)).mono fun e w' h => Done.nil h
  · exact (do_2 w none o A _ c [] _ (fun _ h => by cases h) h (fun W hW => (drop_nil W _).mono fun e w' ⟨h1, h2⟩ => ⟨1, h1, by rw [h2]; exact Only.refl _ _, rfl, h2⟩)).mono fun e w' h => Done.nil h
  · exact (do_3 w none o A _ c [] _ (fun _ h => by cases h) h (fun W hW => (twin_nil W _).mono fun e w' ⟨h1, h2⟩ => ⟨1, h1, by rw [h2]; exact Only.refl _ _, rfl, h2⟩)).mono fun e w' h => Done.nil h
  · exact (do_4 w none o A _ c [] _ (fun _ h => by cases h) h (fun W hW => (spoil_nil W _ _ _).mono fun e w' ⟨h1, h2⟩ => ⟨1, h1, by rw [h2]; exact Only.refl _ _, rfl, h2⟩)).mono fun e w' h => Done.nil h
  · refine (do_5 w none o A _ c [] (fun d b c W w' => d = ⟨0, 0, 0, [], false, none, []⟩ ∧ b = false ∧ c = 1 ∧ Only W w' []) (fun _ h => by cases h) h (fun W hW => (take_nil W _).mono fun e w' ⟨h1, h2⟩ => ⟨⟨0, 0, 0, [], false, none, []⟩, false, 1, h1, h2, rfl, rfl, rfl, h2⟩)).mono ?_
    rintro e w'' ⟨d, b, c, W, w', he, h1, h2, ⟨rfl, rfl, rfl, h3⟩, h4⟩
    exact ⟨he, (h1.trans h3 (by simp)).trans h4 (by simp)⟩
  · exact (do_6 w none o A _ c [] _ (fun _ h => by cases h) h (fun W hW => (wipe_nil W _).mono fun e w' ⟨h1, h2⟩ => ⟨1, h1, by rw [h2]; exact Only.refl _ _, rfl, h2⟩)).mono fun e w' h => Done.nil h
def do0 (N : Net0) (o : Op0) (b : List Int) : Net0 × Option D0 × Int :=
  if o.kd = 0 then ((send0 N o.f o.t b).1, none, (send0 N o.f o.t b).2)
  else if o.kd = 1 then ((deliver0 N o.i).1, none, (deliver0 N o.i).2)
  else if o.kd = 2 then ((drop0 N o.i).1, none, (drop0 N o.i).2)
  else if o.kd = 3 then ((twin0 N o.i).1, none, (twin0 N o.i).2)
  else if o.kd = 4 then ((spoil0 N o.i o.at' o.m).1, none, (spoil0 N o.i o.at' o.m).2)
  else if o.kd = 5 then take0 N o.f
  else ((wipe0 N o.f).1, none, (wipe0 N o.f).2)
/-- What do answers, the net being the call's own (begun in w0). -/
def DidN (w0 : World) (p : Nat) (r : Net0 × Option D0 × Int) (e : Ending) (w' : World) : Prop :=
  match r.2.1 with
  | none => e = .returned (.tuple #[zeroDg, .bool false, .int .i64 r.2.2]) ∧ ∃ K', Own w0 w' p r.1 K'
  | some x => ∃ d K', Dg.abs d = x ∧ e = .returned (.tuple #[.agg d.cells.toArray, .bool true, .int .i64 r.2.2]) ∧ Own w0 w' p r.1 K' ∧ Apart w0 w' d K'
/-- The same, and where it lies now. -/
def DidK (w0 w : World) (p : Nat) (K : List Nat) (r : Net0 × Option D0 × Int) (e : Ending) (w' : World) : Prop :=
  match r.2.1 with
  | none => e = .returned (.tuple #[zeroDg, .bool false, .int .i64 r.2.2]) ∧ ∃ K', Own w0 w' p r.1 K' ∧ ∀ k ∈ K', k ∈ K ∨ w.heap.size ≤ k
  | some x => ∃ d K', Dg.abs d = x ∧ e = .returned (.tuple #[.agg d.cells.toArray, .bool true, .int .i64 r.2.2]) ∧ Own w0 w' p r.1 K' ∧ Apart w0 w' d K' ∧ (∀ k ∈ K', k ∈ K ∨ w.heap.size ≤ k) ∧ ∀ k ∈ d.items.map (·.1), k ∈ K ∨ w.heap.size ≤ k
theorem DidK.didN {w0 w : World} {p : Nat} {K : List Nat} {r : Net0 × Option D0 × Int} {e : Ending} {w' : World} (h : DidK w0 w p K r e w') : DidN w0 p r e w' := by
  unfold DidK at h
  unfold DidN
  split at h
  · obtain ⟨h1, K', h2, _⟩ := h
    exact ⟨h1, K', h2⟩
  · obtain ⟨d, K', h1, h2, h3, h4, _⟩ := h
    exact ⟨d, K', h1, h2, h3, h4⟩
theorem Own.stepK {w w1 w2 : World} {p : Nat} {N N' : Net0} {K : List Nat} (h : Own w w1 p N K) (h2 : NetTo w1 w2 p N' K) : ∃ K', Own w w2 p N' K' ∧ ∀ k ∈ K', k ∈ K ∨ w1.heap.size ≤ k := by
  obtain ⟨K', a1, a2, a3⟩ := h2
  exact ⟨K', ⟨a1, fun k hk => (a2 k hk).elim (h.new k) (fun hh => Nat.le_trans h.only.size hh), h.only.trans a3 (fun k hk => .inr (h.new k hk))⟩, a2⟩
theorem Done.net {w0 w : World} {p : Nat} {N N' : Net0} {K : List Nat} {code : Int} {e : Ending} {w'' : World} (hO : Own w0 w p N K) (h : Done w (fun c W w' => c = code ∧ NetTo W w' p N' K) e w'') :
    (e = .returned (.tuple #[zeroDg, .bool false, .int .i64 code]) ∧ ∃ K', Own w0 w'' p N' K' ∧ ∀ k ∈ K', k ∈ K ∨ w.heap.size ≤ k) ∧ Only w w'' K := by
  obtain ⟨c, W, w', he, h1, h2, ⟨rfl, h3⟩, h4⟩ := h
  obtain ⟨K', o1, o2⟩ := (hO.quiet h1).stepK h3
  have h33 : Only W w' K := by obtain ⟨_, _, _, h⟩ := h3; exact h
  refine ⟨⟨he, K', o1.onlys h4 (fun k hk => ?_) (fun k hk => ?_), fun k hk => (o2 k hk).imp id (fun h => by omega)⟩, ((h1.weaken (ks2 := K) (fun _ h => by cases h)).trans h33 (fun k hk => .inl hk)).trans h4 (fun k hk => .inr (by simp at hk; omega))⟩
  · simp only [List.mem_singleton]
    rintro rfl
    rcases o2 _ hk with h | h
    · have := hO.at'.lt _ h
      omega
    · omega
  · have := hO.only.size
    simp at hk
    omega
theorem do_net2 (w0 w : World) (p : Nat) (N : Net0) (K : List Nat) (hO : Own w0 w p N K) (o : Op0) (A : Option Addr) (c : Nat) (b : List Int) (hkd : 0 ≤ o.kd ∧ o.kd ≤ 6) (hb : BytesAt w (.slice A b.length c) b) (hlb : b.length ≤ 140737488355328)
    (hbyte : ∀ x ∈ b, 0 ≤ x ∧ x < 256) (hm : 0 ≤ o.m ∧ o.m < 4294967296) (hops : N.ops < 1000000) :
    Calls Try.prog 22 #[.pointer (some ⟨p, 0, none⟩), .agg (opCells o A b.length c)] w fun e w' => DidK w0 w p K (do0 N o b) e w' ∧ Only w w' K := by
  have hK := hO.at'.lt
  have hk : o.kd = 0 ∨ o.kd = 1 ∨ o.kd = 2 ∨ o.kd = 3 ∨ o.kd = 4 ∨ o.kd = 5 ∨ o.kd = 6 := by omega
  have hq : ∀ W, Only w W [] → NetAt W p N K := fun W h => (hO.quiet h).at'
  have NT : ∀ {W w' : World} {N' : Net0}, NetTo W w' p N' K → Only W w' K := fun h => by obtain ⟨_, _, _, h⟩ := h; exact h
  rcases hk with h | h | h | h | h | h | h
  · have e0 : do0 N o b = ((send0 N o.f o.t b).1, none, (send0 N o.f o.t b).2) := by simp [do0, h]
    rw [e0]
    refine (do_0 w (some ⟨p, 0, none⟩) o A c b K (fun c W w' => c = (send0 N o.f o.t b).2 ∧ NetTo W w' p (send0 N o.f o.t b).1 K) hK h hb hlb ?_).mono ?_
    · intro W A' c' hW hbW hA
      refine (send_c W p N K (hq W hW) o.f o.t A' c' b hbW hbyte (fun a ha _ hm => ?_)).mono ?_
      · have := hA a ha
        have := hK _ hm
        omega
      · rintro e w' ⟨rfl, h2⟩
        exact ⟨_, rfl, NT h2, rfl, h2⟩
    · rintro e w'' ⟨c, W, w', ks, he, h1, ⟨rfl, h3⟩, h4, h5⟩
      obtain ⟨K', o1, o2⟩ := (hO.quiet h1).stepK h3
      refine ⟨⟨he, K', o1.onlys h4 (fun k hk hk2 => ?_) (fun k hk => ?_), fun k hk => (o2 k hk).imp id (fun h => Nat.le_trans h1.size h)⟩, ((h1.weaken (ks2 := K) (fun _ h => by cases h)).trans (NT h3) (fun k hk => .inl hk)).trans h4 (fun k hk => .inr (h5 k hk).1)⟩
      · have := h5 k hk2
        rcases o2 _ hk with h | h
        · have := hK _ h
          omega
        · omega
      · have := hO.only.size
        have := (h5 k hk).1
        omega
  · have e0 : do0 N o b = ((deliver0 N o.i).1, none, (deliver0 N o.i).2) := by simp [do0, h]
    rw [e0]
    exact (do_1 w _ o A _ c K _ hK h (fun W hW => (deliver_c W p N K (hq W hW) o.i hops).mono fun e w' ⟨h1, h2⟩ => ⟨_, h1, NT h2, rfl, h2⟩)).mono fun e w' h => Done.net hO h
  · have e0 : do0 N o b = ((drop0 N o.i).1, none, (drop0 N o.i).2) := by simp [do0, h]
    rw [e0]
    exact (do_2 w _ o A _ c K _ hK h (fun W hW => (drop_c W p N K (hq W hW) o.i).mono fun e w' ⟨h1, h2⟩ => ⟨_, h1, NT h2, rfl, h2⟩)).mono fun e w' h => Done.net hO h
  · have e0 : do0 N o b = ((twin0 N o.i).1, none, (twin0 N o.i).2) := by simp [do0, h]
    rw [e0]
    exact (do_3 w _ o A _ c K _ hK h (fun W hW => (twin_c W p N K (hq W hW) o.i).mono fun e w' ⟨h1, h2⟩ => ⟨_, h1, NT h2, rfl, h2⟩)).mono fun e w' h => Done.net hO h
  · have e0 : do0 N o b = ((spoil0 N o.i o.at' o.m).1, none, (spoil0 N o.i o.at' o.m).2) := by simp [do0, h]
    rw [e0]
    exact (do_4 w _ o A _ c K _ hK h (fun W hW => (spoil_c W p N K (hq W hW) o.i o.at' o.m hm).mono fun e w' ⟨h1, h2⟩ => ⟨_, h1, NT h2, rfl, h2⟩)).mono fun e w' h => Done.net hO h
  · have e0 : do0 N o b = take0 N o.f := by simp [do0, h]
    rw [e0]
    refine (do_5 w (some ⟨p, 0, none⟩) o A _ c K (fun d bb c W w' => Took W p (take0 N o.f).1 K (take0 N o.f).2.2 (take0 N o.f).2.1 (.returned (.tuple #[.agg d.cells.toArray, .bool bb, .int .i64 c])) w') hK h (fun W hW => (take_c W p N K (hq W hW) o.f hops).mono fun e w' h1 => ?_)).mono ?_
    · cases hx : (take0 N o.f).2.1 with
      | none =>
        rw [hx] at h1
        obtain ⟨rfl, h2⟩ := h1
        exact ⟨⟨0, 0, 0, [], false, none, []⟩, false, _, rfl, NT h2, rfl, h2⟩
      | some x =>
        rw [hx] at h1
        obtain ⟨d, h2, h3, rfl, h4⟩ := id h1
        obtain ⟨K', h5, h6, h7⟩ := h4
        exact ⟨d, true, _, rfl, h7, h1⟩
    · rintro e w'' ⟨d, bb, c, W, w', rfl, h1, h2, h3, h4⟩
      have hfr : Only w w'' K := by
        have h3' : Only W w' K := by
          cases hx : (take0 N o.f).2.1 with
          | none => rw [hx] at h3; exact NT h3.2
          | some x => rw [hx] at h3; obtain ⟨_, _, _, _, _, _, _, h⟩ := h3; exact h
        exact ((h1.weaken (ks2 := K) (fun _ h => by cases h)).trans h3' (fun k hk => .inl hk)).trans h4 (fun k hk => .inr (by simp at hk; omega))
      refine ⟨?_, hfr⟩
      unfold DidK
      have hnb : w0.heap.size ≤ w.heap.size + 1 := by have := hO.only.size; omega
      cases hx : (take0 N o.f).2.1 with
      | none =>
        rw [hx] at h3
        obtain ⟨h5, h6⟩ := h3
        obtain ⟨K', o1, o2⟩ := (hO.quiet h1).stepK h6
        refine ⟨h5, K', o1.onlys h4 (fun k hk => ?_) (fun k hk => by simp at hk; omega), fun k hk => (o2 k hk).imp id (fun h => Nat.le_trans h1.size h)⟩
        simp only [List.mem_singleton]
        rintro rfl
        rcases o2 _ hk with h | h
        · have := hK _ h
          omega
        · omega
      | some x =>
        rw [hx] at h3
        obtain ⟨d', h5, h6, h7, K', h8, h9, h10⟩ := id h3
        obtain ⟨d2, K2, g1, g2, g3, g4⟩ := (hO.quiet h1).took h3
        obtain ⟨d3, h5', h6', h7', K3, ⟨G, q1, q2, q3, q4, q5⟩, h9', h10'⟩ := id h3
        have hno : ∀ k ∈ K3, k ≠ w.heap.size + 1 := by
          rintro k hk rfl
          rcases h9' _ hk with h | h
          · have := hK _ h
            omega
          · omega
        have hn3 : ∀ k ∈ K3, w0.heap.size ≤ k := fun k hk => (h9' k hk).elim (hO.new k) (fun hh => Nat.le_trans (hO.quiet h1).only.size hh)
        have hd3 : ∀ k ∈ d3.items.map (·.1), k ∈ K3 := fun k hk => by rw [← q4, List.map_append]; exact List.mem_append_left _ hk
        have hG3 : ∀ k ∈ G.keys, k ∈ K3 := fun k hk => by rw [← q4, List.map_append]; exact List.mem_append_right _ hk
        refine ⟨d3, G.keys, h5', h7', ⟨⟨G, q1, q2, q3.right.only h4 (fun k hk => ?_), rfl, q5⟩, fun k hk => hn3 k (hG3 k hk), ?_⟩, ⟨h6', q3.left.only h4 (fun k hk => ?_), fun k hk hk2 => ?_, fun k hk => hn3 k (hd3 k hk)⟩, fun k hk => (h9' k (hG3 k hk)).imp id (fun h => Nat.le_trans h1.size h), fun k hk => (h9' k (hd3 k hk)).imp id (fun h => Nat.le_trans h1.size h)⟩
        · simpa using hno k (hG3 k hk)
        · exact ((hO.quiet h1).only.trans h10' (fun k hk => .inr (hO.new k hk))).trans h4 (fun k hk => .inr (by simp at hk; omega))
        · simpa using hno k (hd3 k hk)
        · have := q3.1
          rw [List.map_append] at this
          exact (List.nodup_append.1 this).2.2 k hk k hk2 rfl
  · have e0 : do0 N o b = ((wipe0 N o.f).1, none, (wipe0 N o.f).2) := by simp [do0, h]
    rw [e0]
    exact (do_6 w _ o A _ c K _ hK h (fun W hW => (wipe_c W p N K (hq W hW) o.f).mono fun e w' ⟨h1, h2⟩ => ⟨_, h1, NT h2, rfl, h2⟩)).mono fun e w' h => Done.net hO h
theorem do_net (w0 w : World) (p : Nat) (N : Net0) (K : List Nat) (hO : Own w0 w p N K) (o : Op0) (A : Option Addr) (c : Nat) (b : List Int) (hkd : 0 ≤ o.kd ∧ o.kd ≤ 6) (hb : BytesAt w (.slice A b.length c) b) (hlb : b.length ≤ 140737488355328)
    (hbyte : ∀ x ∈ b, 0 ≤ x ∧ x < 256) (hm : 0 ≤ o.m ∧ o.m < 4294967296) (hops : N.ops < 1000000) :
    Calls Try.prog 22 #[.pointer (some ⟨p, 0, none⟩), .agg (opCells o A b.length c)] w fun e w' => DidN w0 p (do0 N o b) e w' ∧ Only w w' K :=
  (do_net2 w0 w p N K hO o A c b hkd hb hlb hbyte hm hops).mono fun e w' h => ⟨h.1.didN, h.2⟩
end Go.Proofs.Ytehgneiiajpgpaa
