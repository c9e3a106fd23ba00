/- DgramFull: 1024 in flight, 64 in a box, and not one more. No condition. -/
import Derived.Test.YtehgneiiajpgpaaDgW
import Derived.Test.YtehgneiiajpgpaaRows
import Derived.WalkKit
import Derived.ProofKit
import Derived.OpenShut
import Derived.ChangeOld
import Derived.Below
import Derived.SizedLaws
import Derived.Carry
namespace Go.Proofs.Ytehgneiiajpgpaa
open Go.RowKit Go.ChangeShapes Go.WideShapes
set_option linter.all false
set_option maxHeartbeats 2000000
set_option maxRecDepth 100000

/-- Behind so many sendings. -/
structure F1 (N : Net0) (i : Nat) : Prop where
  nodes : N.nodes = 3
  len : N.way.length = min i 1024
  lost : N.lost = (i : Int) - (min i 1024 : Nat)
  box : ∀ k, N.box k = []
  ops : N.ops = 0
  to : ∀ d ∈ N.way, d.t = 2 ∨ d.t = 3
theorem F1.send {N : Net0} {i : Nat} (h : F1 N i) (hi : i ≤ 1200) (t : Int) (ht : t = 2 ∨ t = 3) (b : List Int) (hb : b.length = 1) : (send0 N 1 t b).2 = 0 ∧ F1 (send0 N 1 t b).1 (i + 1) := by
  have h1 : nodeB N 1 = true := by simp [nodeB, h.nodes]
  have h2 : nodeB N t = true := by simp [nodeB, h.nodes]; omega
  have h3 : ¬ (1 : Int) = t := by omega
  have e : send0 N 1 t b = (put0 { N with next := u64s N.next } ⟨1, t, u64s N.next, b, false⟩, 0) := by simp [send0, h1, h2, h3, hb]
  rw [e]
  refine ⟨rfl, ?_⟩
  have hl := h.len
  unfold put0
  split
  · rename_i hf
    have hf : 1024 ≤ N.way.length := hf
    refine ⟨h.nodes, ?_, ?_, h.box, h.ops, h.to⟩
    · show N.way.length = _
      omega
    · show wrap64 (N.lost + 1) = _
      rw [h.lost]
      unfold wrap64
      omega
  · rename_i hf
    have hf : ¬ 1024 ≤ N.way.length := hf
    refine ⟨h.nodes, ?_, ?_, h.box, h.ops, fun d hd => ?_⟩
    · show (N.way ++ [_]).length = _
      rw [List.length_append, List.length_singleton]
      omega
    · show N.lost = _
      rw [h.lost]
      omega
    · rcases List.mem_append.1 hd with hd | hd
      · exact h.to d hd
      · rw [List.mem_singleton.1 hd]
        exact ht
/-- Behind so many deliveries. -/
structure F2 (N : Net0) (more : Nat) (j : Nat) : Prop where
  nodes : N.nodes = 3
  len : N.way.length = 1024 - j
  sum : ((N.box 2).length : Int) + (N.box 3).length + N.lost = more + 1 + j
  low : 0 ≤ N.lost
  ops : N.ops ≤ j
  to : ∀ d ∈ N.way, d.t = 2 ∨ d.t = 3
theorem F1.twin {N : Net0} {more : Nat} (hm : more ≤ 100) (h : F1 N (1024 + more)) : (twin0 N 0).2 = 0 ∧ F2 (twin0 N 0).1 more 0 ∧ (twin0 N 0).1.lost = (more : Int) + 1 := by
  have hl := h.len
  have hl2 : N.way.length = 1024 := by omega
  obtain ⟨d, hd⟩ : ∃ d, N.way[0]? = some d := ⟨_, List.getElem?_eq_getElem (by omega)⟩
  have e : twin0 N 0 = (put0 N d, 0) := by simp [twin0, at0, hd]
  rw [e]
  have e2 : put0 N d = { N with lost := wrap64 (N.lost + 1) } := by unfold put0; rw [if_pos (by omega)]
  have hlost : wrap64 (N.lost + 1) = (more : Int) + 1 := by rw [h.lost]; unfold wrap64; omega
  rw [e2]
  refine ⟨rfl, ⟨h.nodes, ?_, ?_, ?_, ?_, h.to⟩, hlost⟩
  · show N.way.length = _; omega
  · show ((N.box 2).length : Int) + (N.box 3).length + wrap64 (N.lost + 1) = _
    rw [h.box, h.box, hlost]
    simp
  · show 0 ≤ wrap64 (N.lost + 1); omega
  · show N.ops ≤ 0; rw [h.ops]; omega
theorem F2.deliver {N : Net0} {more j : Nat} (hm : more ≤ 100) (h : F2 N more j) (hj : j < 200) (i : Int) (hi : 0 ≤ i ∧ i < N.way.length) : (deliver0 N i).2 = 0 ∧ F2 (deliver0 N i).1 more (j + 1) := by
  obtain ⟨k, rfl⟩ : ∃ k : Nat, i = k := ⟨i.toNat, by omega⟩
  have hk : k < N.way.length := by omega
  obtain ⟨d, hd⟩ : ∃ d, N.way[k]? = some d := ⟨_, List.getElem?_eq_getElem hk⟩
  have ha : at0 N k = some d := by
    unfold at0
    rw [if_neg (by omega)]
    simpa using hd
  have hdt := h.to d (List.mem_of_getElem? hd)
  have hle : (N.way.eraseIdx k).length = N.way.length - 1 := by rw [List.length_eraseIdx]; simp [hk]
  have hs := h.sum
  have hl := h.len
  have hlow := h.low
  unfold deliver0
  rw [ha]
  dsimp only
  split
  · refine ⟨rfl, h.nodes, ?_, ?_, ?_, ?_, fun x hx => h.to x (List.mem_of_mem_eraseIdx hx)⟩
    · show (N.way.eraseIdx k).length = _; omega
    · show ((N.box 2).length : Int) + (N.box 3).length + wrap64 (N.lost + 1) = _
      unfold wrap64; omega
    · show 0 ≤ wrap64 (N.lost + 1)
      unfold wrap64; omega
    · show N.ops ≤ j + 1
      have := h.ops
      omega
  · refine ⟨rfl, h.nodes, ?_, ?_, h.low, ?_, fun x hx => h.to x (List.mem_of_mem_eraseIdx hx)⟩
    · show (N.way.eraseIdx k).length = _; omega
    · show ((upd0 N.box d.t (N.box d.t ++ [d]) 2).length : Int) + (upd0 N.box d.t (N.box d.t ++ [d]) 3).length + N.lost = _
      unfold upd0
      rcases hdt with hdt | hdt
      · rw [hdt]
        simp
        omega
      · rw [hdt]
        simp
        omega
    · show N.ops + 1 ≤ j + 1
      have := h.ops
      omega
theorem NetAt.blen {w : World} {p : Nat} {N : Net0} {K : List Nat} (h : NetAt w p N K) (k : Int) : (N.box k).length ≤ 64 := by
  obtain ⟨G, _, hG, _, _, rfl⟩ := h
  simpa [NetG.abs] using hG.blen k
def N3 : Net0 := ⟨3, 0, [], fun _ => [], 0, 0⟩
theorem send_one (w0 wr : World) (p : Nat) (N : Net0) (K : List Nat) (hO : Own w0 wr p N K) (t x : Int) (hx : 0 ≤ x ∧ x < 256) (N' : Net0) (hN : send0 N 1 t [x] = (N', 0)) :
    Calls Try.prog 14 #[.pointer (some ⟨p, 0, none⟩), .int .i64 1, .int .i64 t, .slice (some ⟨wr.heap.size, 0, none⟩) 1 1] (wr.alloc (.cells #[.int .u8 x] 5)) fun e w' => e = .returned (.int .i64 0) ∧ ∃ K', Own w0 w' p N' K' := by
  have hq := hO.quiet (Only.alloc wr (.cells #[.int .u8 x] 5) [])
  have hb : BytesAt (wr.alloc (.cells #[.int .u8 x] 5)) (.slice (some ⟨wr.heap.size, 0, none⟩) [x].length 1) [x] := ⟨_, 1, rfl, (fun h => by cases h), by
    rintro ad ha j y hy
    cases ha
    have hj : j = 0 := by
      have := (List.getElem?_eq_some_iff.1 hy).1
      simp at this
      exact this
    subst hj
    simp at hy
    subst hy
    rw [Addr.add_lit]
    have := cell_of_row _ wr.heap.size 0 _ _ _ (heap_alloc_new wr (.cells #[.int .u8 x] 5))
    simpa using this⟩
  have hc := send_c _ p N K hq.at' 1 t (some ⟨wr.heap.size, 0, none⟩) 1 [x] hb (by simpa using hx) (fun a ha _ hk => by
    cases ha
    have := hO.at'.lt _ hk
    simp at this)
  rw [hN] at hc
  exact hc.mono fun e w' h => ⟨h.1, hq.step h.2⟩
theorem flight_len (w0 w : World) (p : Nat) (N : Net0) (K : List Nat) (hO : Own w0 w p N K) (n : Nat) (hn : N.way.length = n) :
    Calls Try.prog 15 #[.pointer (some ⟨p, 0, none⟩)] w fun e w' => ∃ A c, e = .returned (.slice A n c) ∧ Own w0 w' p N K := by
  refine (flight_c _ p _ K hO.at').mono ?_
  rintro e w' ⟨R, rfl, hR, hN, ho⟩
  obtain ⟨A, c, hv⟩ := R.val_slice hN.wf
  have hl : R.ds.length = n := by have := congrArg List.length hR; simpa [hn] using this
  rw [hl] at hv
  exact ⟨A, c, by rw [hv], hO.quiet ho⟩
theorem lost_is (w0 w : World) (p : Nat) (N : Net0) (K : List Nat) (hO : Own w0 w p N K) (n : Int) (hn : N.lost = n) :
    Calls Try.prog 16 #[.pointer (some ⟨p, 0, none⟩)] w fun e w' => e = .returned (.int .i64 n) ∧ Own w0 w' p N K := by
  refine (lost_c _ p _ K hO.at').mono ?_
  rintro e w' ⟨rfl, rfl⟩
  exact ⟨by rw [hn], hO⟩
theorem box_is (w0 w : World) (p : Nat) (N : Net0) (K : List Nat) (hO : Own w0 w p N K) (k : Int) (hk : (Lit.int .i64 k).wf = true) (n : Nat) (hn : (N.box k).length = n) :
    Calls Try.prog 19 #[.pointer (some ⟨p, 0, none⟩), .int .i64 k] w fun e w' => e = .returned (.int .i64 n) ∧ Own w0 w' p N K := by
  refine (box_c _ p _ K hO.at' k hk).mono ?_
  rintro e w' ⟨rfl, rfl⟩
  exact ⟨by rw [hn], hO⟩
theorem twin_is (w0 w : World) (p : Nat) (N N' : Net0) (K : List Nat) (hO : Own w0 w p N K) (i : Int) (hN : twin0 N i = (N', 0)) :
    Calls Try.prog 17 #[.pointer (some ⟨p, 0, none⟩), .int .i64 i] w fun e w' => e = .returned (.int .i64 0) ∧ ∃ K', Own w0 w' p N' K' := by
  have hc := twin_c _ p _ K hO.at' i
  rw [hN] at hc
  exact hc.mono fun e w' h => ⟨h.1, hO.step h.2⟩
theorem deliver_is (w0 w : World) (p : Nat) (N N' : Net0) (K : List Nat) (hO : Own w0 w p N K) (i : Int) (hops : N.ops < 1000000) (hN : deliver0 N i = (N', 0)) :
    Calls Try.prog 18 #[.pointer (some ⟨p, 0, none⟩), .int .i64 i] w fun e w' => e = .returned (.int .i64 0) ∧ ∃ K', Own w0 w' p N' K' := by
  have hc := deliver_c _ p _ K hO.at' i hops
  rw [hN] at hc
  exact hc.mono fun e w' h => ⟨h.1, hO.step h.2⟩
theorem pair_of {α : Type} {r : α × Int} (h : r.2 = 0) : r = (r.1, 0) := by
  obtain ⟨a, b⟩ := r
  simp at h
  rw [h]
theorem full_walk (more at' : Int) (w : World) (hm : 0 ≤ more ∧ more ≤ 100) (hat : -9223372036854775808 ≤ at' ∧ at' ≤ 9223372036854775807) :
    Calls Try.prog 4 #[.int .i64 more, .int .i64 at'] w fun e w' => e = .returned (.bool true) ∧ Only w w' [] := by
  obtain ⟨mo, rfl⟩ : ∃ mo : Nat, more = mo := ⟨more.toNat, by omega⟩
  have hmo : mo ≤ 100 := by omega
  have hm1 : ¬ ((mo : Int) < 0) := by omega
  have hm2 : ¬ ((100 : Int) < (mo : Int)) := by omega
  have hbig : (1024 : Int) + (mo : Int) ≤ 2000 := by omega
  clear hm
  go_enter Try.func4, Try.ntmps4
  go_wp2_with (first
    | (go_at_call 12; refine (alive_c w).mono ?_; rintro e w1 ⟨rfl, o1⟩)
    | (go_at_call 13; refine (new_c w1 3 (by omega)).mono ?_; rintro e w2 ⟨p, K0, rfl, hN0, hK0, o2⟩))
  have hO0 : Own w w2 p N3 K0 := ⟨hN0, fun k hk => Nat.le_trans o1.size (hK0 k hk), o1.trans o2 (by simp)⟩
  have HO0 := Aside0.mk hO0
  clear hO0 hN0 hK0 o1 o2
  go_loopg [7] (1024 + mo) (fun gk v7 wr => ∃ (d : Nat) (N : Net0) (K : List Nat), d ≤ 1024 + mo ∧ gk = 1024 + mo - d ∧ v7 = .int .i64 (d : Int) ∧ Aside0 (Own w wr p N K) ∧ Aside0 (F1 N d))
  case atStart => exact ⟨0, N3, K0, by omega, rfl, rfl, HO0, ⟨⟨rfl, rfl, rfl, fun _ => rfl, rfl, fun _ h => by cases h⟩⟩⟩
  case round =>
    obtain ⟨d, N, K, hd, rfl, rfl, HN, HF⟩ := hrel
    by_cases hlt : d < 1024 + mo
    · have hlt1 : (d : Int) < 1024 + (mo : Int) := by omega
      have hq : (d : Int).tmod 2 = 0 ∨ (d : Int).tmod 2 = 1 := by
        have : (d : Int).tmod 2 = (d : Int) % 2 := Int.tmod_eq_emod_of_nonneg (by omega)
        omega
      have hlt2 : (d : Int) < (1024 : Int) + mo := hlt1
      have hmo2 : (0 : Int) ≤ (mo : Int) := by omega
      have hd2 : (0 : Int) ≤ (d : Int) := by omega
      have hb256 : 0 ≤ (d : Int) % 256 ∧ (d : Int) % 256 < 256 := by omega
      rcases hq with hq | hq
      · obtain ⟨q1, q2⟩ := F1.send HF.out (by omega) 2 (by omega) [(d : Int) % 256] rfl
        have hs := send_one w wr p N K HN.out 2 ((d : Int) % 256) hb256 (send0 N 1 2 [(d : Int) % 256]).1 (pair_of q1)
        have HS := Aside0.mk hs
        have HQ := Aside0.mk q2
        clear hs q1 q2 hb256
        go_wp2_with (go_at_call 14; refine HS.out.mono ?_; rintro e w3 ⟨rfl, K3, hO3⟩)
        go_roundg (1024 + mo - (d + 1))
        case measure => omega
        case rel => exact ⟨d + 1, _, K3, by omega, rfl, by simp, ⟨hO3⟩, HQ⟩
      · obtain ⟨q1, q2⟩ := F1.send HF.out (by omega) 3 (by omega) [(d : Int) % 256] rfl
        have hs := send_one w wr p N K HN.out 3 ((d : Int) % 256) hb256 (send0 N 1 3 [(d : Int) % 256]).1 (pair_of q1)
        have HS := Aside0.mk hs
        have HQ := Aside0.mk q2
        clear hs q1 q2 hb256
        go_wp2_with (go_at_call 14; refine HS.out.mono ?_; rintro e w3 ⟨rfl, K3, hO3⟩)
        go_roundg (1024 + mo - (d + 1))
        case measure => omega
        case rel => exact ⟨d + 1, _, K3, by omega, rfl, by simp, ⟨hO3⟩, HQ⟩
    · have hdd : d = 1024 + mo := by omega
      subst hdd
      have hl1 : N.way.length = 1024 := by rw [HF.out.len]; omega
      have hl2 : N.lost = (mo : Int) := by rw [HF.out.lost]; omega
      obtain ⟨t1, t2, t3⟩ := F1.twin hmo HF.out
      obtain ⟨N2, hN2⟩ : ∃ N2, N2 = (twin0 N 0).1 := ⟨_, rfl⟩
      rw [← hN2] at t2 t3
      have ht0 : twin0 N 0 = (N2, 0) := by rw [hN2]; exact pair_of t1
      have HL1 := Aside0.mk hl1
      have HL2 := Aside0.mk hl2
      have HT0 := Aside0.mk ht0
      have HT2 := Aside0.mk t2
      have HT3 := Aside0.mk t3
      clear hl1 hl2 ht0 t1 t2 t3 hlt hN2 hd
      go_wp2_with (first
        | (go_at_call 15; refine (flight_len w _ p N K HN.out 1024 HL1.out).mono ?_; rintro e w3 ⟨A3, c3, rfl, hO3⟩)
        | (go_at_call 16; refine (lost_is w _ p N K hO3 mo HL2.out).mono ?_; rintro e w4 ⟨rfl, hO4⟩; clear hO3)
        | (go_at_call 17; refine (twin_is w _ p N N2 K hO4 0 HT0.out).mono ?_; rintro e w5 ⟨rfl, K5, hO5⟩)
        | (go_at_call 16; refine (lost_is w _ p N2 K5 hO5 (mo + 1) HT3.out).mono ?_; rintro e w6 ⟨rfl, hO6⟩))
      · obtain ⟨v, hv⟩ : ∃ v, v = -(at' + 1) := ⟨_, rfl⟩
        have hv0 : 0 ≤ v := by omega
        have hv1 : v ≤ 9223372036854775807 := by omega
        rw [← hv]
        obtain ⟨bb, hbb⟩ : ∃ bb, bb = decide (at' < 0) := ⟨_, rfl⟩
        rw [← hbb]
        clear hbb
        have HV := Aside0.mk hv
        clear hv
        go_loopg [8] 200 (fun gk v8 wr => ∃ (j : Nat) (N : Net0) (K : List Nat), j ≤ 200 ∧ gk = 200 - j ∧ v8 = .int .i64 (j : Int) ∧ Aside0 (Own w wr p N K) ∧ Aside0 (F2 N mo j))
        case atStart => exact ⟨0, N2, K5, by omega, rfl, rfl, ⟨hO6⟩, HT2⟩
        case round =>
          obtain ⟨j, N, K, hj, rfl, rfl, HN, HF⟩ := hrel
          by_cases hj2 : j = 200
          · subst hj2
            obtain ⟨n2, hn2⟩ : ∃ n, (N.box 2).length = n := ⟨_, rfl⟩
            obtain ⟨n3, hn3⟩ : ∃ n, (N.box 3).length = n := ⟨_, rfl⟩
            obtain ⟨l, hl⟩ : ∃ n, N.lost = n := ⟨_, rfl⟩
            have h2 := HN.out.at'.blen 2
            have h3 := HN.out.at'.blen 3
            have hs := HF.out.sum
            have hlow := HF.out.low
            have hn8 : N.way.length = 824 := by rw [HF.out.len]
            rw [hn2] at h2 hs
            rw [hn3] at h3 hs
            rw [hl] at hs hlow
            have k1 : ((n2 : Int) ≤ 64) := by omega
            have k2 : ((n3 : Int) ≤ 64) := by omega
            have k3 : l = (mo : Int) + 201 - n2 - n3 := by omega
            have HB2 := Aside0.mk hn2
            have HB3 := Aside0.mk hn3
            have HL := Aside0.mk (hl.trans k3)
            have HN8 := Aside0.mk hn8
            clear hn2 hn3 hl h2 h3 hs hlow hn8 k3 hj
            go_wp2_with (first
              | (go_at_call 19; refine (box_is w _ p N K hO9 3 (by decide) n3 HB3.out).mono ?_; rintro e w10 ⟨rfl, hO10⟩; clear hO9)
              | (go_at_call 19; refine (box_is w _ p N K hO8 2 (by decide) n2 HB2.out).mono ?_; rintro e w9 ⟨rfl, hO9⟩; clear hO8)
              | (go_at_call 19; refine (box_is w _ p N K hO7 3 (by decide) n3 HB3.out).mono ?_; rintro e w8 ⟨rfl, hO8⟩; clear hO7)
              | (go_at_call 19; refine (box_is w _ p N K HN.out 2 (by decide) n2 HB2.out).mono ?_; rintro e w7 ⟨rfl, hO7⟩)
              | (go_at_call 16; refine (lost_is w _ p N K hO10 _ HL.out).mono ?_; rintro e w11 ⟨rfl, hO11⟩; clear hO10)
              | (go_at_call 15; refine (flight_len w _ p N K hO11 824 HN8.out).mono ?_; rintro e w12 ⟨A9, c9, rfl, hO12⟩; clear hO11))
            go_ret
            exact ⟨rfl, hO12.only⟩
          · have hj3 : (j : Int) < 200 := by omega
            obtain ⟨n, hn⟩ : ∃ n, N.way.length = n := ⟨_, rfl⟩
            have hnl : n = 1024 - j := by rw [← hn, HF.out.len]
            have hn0 : (0 : Int) < (n : Int) := by omega
            have hn1 : ¬ ((n : Int) = 0) := by omega
            have i0 : 0 ≤ v % (n : Int) := Int.emod_nonneg _ (by omega)
            have i1 : v % (n : Int) < (n : Int) := Int.emod_lt_of_pos _ hn0
            obtain ⟨d1, d2⟩ := F2.deliver hmo HF.out (by omega) (v % (n : Int)) ⟨i0, by rw [hn]; exact i1⟩
            have hops : N.ops < 1000000 := by have := HF.out.ops; omega
            have hd := fun W h => deliver_is w W p N (deliver0 N (v % (n : Int))).1 K h (v % (n : Int)) hops (pair_of d1)
            have HD := Aside0.mk hd
            have HD2 := Aside0.mk d2
            have HNN := Aside0.mk hn
            clear hd d1 d2 hops hnl hn i0 i1
            go_wp2_with (first
              | (go_at_call 15; refine (flight_len w _ p N K HN.out n HNN.out).mono ?_; rintro e w7 ⟨A7, c7, rfl, hO7⟩)
              | (go_at_call 18; refine (HD.out _ hO7).mono ?_; rintro e w8 ⟨rfl, K8, hO8⟩; clear hO7))
            go_roundg (200 - (j + 1))
            case measure => omega
            case rel => exact ⟨j + 1, _, K8, by omega, rfl, by simp, ⟨hO8⟩, HD2⟩
      · obtain ⟨v, hv⟩ : ∃ v, v = at' := ⟨_, rfl⟩
        have hv0 : 0 ≤ v := by omega
        have hv1 : v ≤ 9223372036854775807 := by omega
        rw [← hv]
        obtain ⟨bb, hbb⟩ : ∃ bb, bb = decide (v < 0) := ⟨_, rfl⟩
        rw [← hbb]
        clear hbb
        have HV := Aside0.mk hv
        clear hv
        go_loopg [8] 200 (fun gk v8 wr => ∃ (j : Nat) (N : Net0) (K : List Nat), j ≤ 200 ∧ gk = 200 - j ∧ v8 = .int .i64 (j : Int) ∧ Aside0 (Own w wr p N K) ∧ Aside0 (F2 N mo j))
        case atStart => exact ⟨0, N2, K5, by omega, rfl, rfl, ⟨hO6⟩, HT2⟩
        case round =>
          obtain ⟨j, N, K, hj, rfl, rfl, HN, HF⟩ := hrel
          by_cases hj2 : j = 200
          · subst hj2
            obtain ⟨n2, hn2⟩ : ∃ n, (N.box 2).length = n := ⟨_, rfl⟩
            obtain ⟨n3, hn3⟩ : ∃ n, (N.box 3).length = n := ⟨_, rfl⟩
            obtain ⟨l, hl⟩ : ∃ n, N.lost = n := ⟨_, rfl⟩
            have h2 := HN.out.at'.blen 2
            have h3 := HN.out.at'.blen 3
            have hs := HF.out.sum
            have hlow := HF.out.low
            have hn8 : N.way.length = 824 := by rw [HF.out.len]
            rw [hn2] at h2 hs
            rw [hn3] at h3 hs
            rw [hl] at hs hlow
            have k1 : ((n2 : Int) ≤ 64) := by omega
            have k2 : ((n3 : Int) ≤ 64) := by omega
            have k3 : l = (mo : Int) + 201 - n2 - n3 := by omega
            have HB2 := Aside0.mk hn2
            have HB3 := Aside0.mk hn3
            have HL := Aside0.mk (hl.trans k3)
            have HN8 := Aside0.mk hn8
            clear hn2 hn3 hl h2 h3 hs hlow hn8 k3 hj
            go_wp2_with (first
              | (go_at_call 19; refine (box_is w _ p N K hO9 3 (by decide) n3 HB3.out).mono ?_; rintro e w10 ⟨rfl, hO10⟩; clear hO9)
              | (go_at_call 19; refine (box_is w _ p N K hO8 2 (by decide) n2 HB2.out).mono ?_; rintro e w9 ⟨rfl, hO9⟩; clear hO8)
              | (go_at_call 19; refine (box_is w _ p N K hO7 3 (by decide) n3 HB3.out).mono ?_; rintro e w8 ⟨rfl, hO8⟩; clear hO7)
              | (go_at_call 19; refine (box_is w _ p N K HN.out 2 (by decide) n2 HB2.out).mono ?_; rintro e w7 ⟨rfl, hO7⟩)
              | (go_at_call 16; refine (lost_is w _ p N K hO10 _ HL.out).mono ?_; rintro e w11 ⟨rfl, hO11⟩; clear hO10)
              | (go_at_call 15; refine (flight_len w _ p N K hO11 824 HN8.out).mono ?_; rintro e w12 ⟨A9, c9, rfl, hO12⟩; clear hO11))
            go_ret
            exact ⟨rfl, hO12.only⟩
          · have hj3 : (j : Int) < 200 := by omega
            obtain ⟨n, hn⟩ : ∃ n, N.way.length = n := ⟨_, rfl⟩
            have hnl : n = 1024 - j := by rw [← hn, HF.out.len]
            have hn0 : (0 : Int) < (n : Int) := by omega
            have hn1 : ¬ ((n : Int) = 0) := by omega
            have i0 : 0 ≤ v % (n : Int) := Int.emod_nonneg _ (by omega)
            have i1 : v % (n : Int) < (n : Int) := Int.emod_lt_of_pos _ hn0
            obtain ⟨d1, d2⟩ := F2.deliver hmo HF.out (by omega) (v % (n : Int)) ⟨i0, by rw [hn]; exact i1⟩
            have hops : N.ops < 1000000 := by have := HF.out.ops; omega
            have hd := fun W h => deliver_is w W p N (deliver0 N (v % (n : Int))).1 K h (v % (n : Int)) hops (pair_of d1)
            have HD := Aside0.mk hd
            have HD2 := Aside0.mk d2
            have HNN := Aside0.mk hn
            clear hd d1 d2 hops hnl hn i0 i1
            go_wp2_with (first
              | (go_at_call 15; refine (flight_len w _ p N K HN.out n HNN.out).mono ?_; rintro e w7 ⟨A7, c7, rfl, hO7⟩)
              | (go_at_call 18; refine (HD.out _ hO7).mono ?_; rintro e w8 ⟨rfl, K8, hO8⟩; clear hO7))
            go_roundg (200 - (j + 1))
            case measure => omega
            case rel => exact ⟨j + 1, _, K8, by omega, rfl, by simp, ⟨hO8⟩, HD2⟩
theorem full_over (more at' : Int) (w : World) (hm : ¬ (0 ≤ more ∧ more ≤ 100)) :
    Calls Try.prog 4 #[.int .i64 more, .int .i64 at'] w fun e w' => e = .returned (.bool true) ∧ Only w w' [] := by
  by_cases h0 : more < 0
  · go_enter Try.func4, Try.ntmps4
    go_wp2_with (go_at_call 12; refine (alive_c w).mono ?_; rintro e w1 ⟨rfl, o1⟩)
    go_ret
    exact ⟨rfl, o1⟩
  · have h1 : 100 < more := by omega
    go_enter Try.func4, Try.ntmps4
    go_wp2_with (go_at_call 12; refine (alive_c w).mono ?_; rintro e w1 ⟨rfl, o1⟩)
    go_ret
    exact ⟨rfl, o1⟩
namespace dgramFull
open Go.ChangeAt
theorem own : ownKnob Try.prog.godebug = none := by kernel_rfl
theorem laidOut : laidOutB Try.prog = true := by kernel_rfl
set_option maxRecDepth 100000 in
theorem lifted (os : Os) (started : os.Started) (H : Type) (enc : TypeId × Value → H) :
    ReturnsInHanded {} Try.checked os 4 .any (Rows.dgramFullSpec.pre6 enc Try.prog Try.f4 Rows.dgramFullRow.domain false) (Rows.dgramFullSpec.post enc Try.prog Try.f4 false true false false) := by
  refine returnsInHanded_of_change_sized (C := Try.checked) own started (by kernel_rfl) Try.func4
    (ChangeSpec.witness6 (enc := enc) (C := Try.checked) false ⟨#[], #[.int .i64 0, .int .i64 0], []⟩ 8 (by kernel_rfl) (by kernel_rfl) (by kernel_rfl) (by kernel_rfl)) ?_
  intro W base args ds gs before hval0 hW hcnd hsz _
  have hval : ∀ (j : Nat) t v, Try.f4.params[j]? = some t → args[j]? = some v → Value.okWide Try.prog W .any base t v := hval0
  have hW' := hW
  obtain ⟨p, q, hA0, hV, rfl, hfz, hnd⟩ := hW
  have hA : DataW.TrodAll enc Try.prog W 0 (fun _ => true) true Try.f4.params.toList args.toList ds p := hA0
  rw [Try.params4] at hA hval hsz
  obtain ⟨v0, vs0, d0, ds0, p0, q0, hargs, rfl, rfl, h0, r0⟩ := trodAll_cons hA
  obtain ⟨v1, vs1, d1, ds1, p1, q1, rfl, rfl, rfl, h1, r1⟩ := trodAll_cons r0
  obtain ⟨rfl, rfl, rfl⟩ := trodAll_nil r1
  obtain rfl : args = #[v0, v1] := by cases args; simp_all
  obtain ⟨rfl, rfl⟩ := trodVars_none hV
  obtain ⟨a0, rfl, rfl, rfl, w0⟩ := open_int Try.underlying3 (hval 0 3 v0 rfl rfl) h0
  obtain ⟨a1, rfl, rfl, rfl, w1⟩ := open_int Try.underlying3 (hval 1 3 v1 rfl rfl) h1
  clear hA0 hval0
  have hwalk : Calls Try.prog 4 #[.int .i64 a0, .int .i64 a1] W fun e w' => e = .returned (.bool true) ∧ Only W w' [] := by
    by_cases hm : 0 ≤ a0 ∧ a0 ≤ 100
    · exact full_walk a0 a1 W hm (by
        simp only [Lit.wf, Bool.and_eq_true, decide_eq_true_eq, show IntKind.i64.min = -9223372036854775808 from rfl, show IntKind.i64.max = 9223372036854775807 from rfl] at w1
        exact w1)
    · exact full_over a0 a1 W hm
  refine hwalk.mono fun e W' ⟨he, ho⟩ => ?_
  subst he
  have bel : Below W.heap.size W W' := ho.below (by simp) (Nat.le_refl _)
  simp only [List.append_nil] at hW'
  exact ⟨_, rfl, _, _, _, [], _, [], hW', trodAll_mk1 (shut_bool Try.underlying4 _), (trodAll_cons_mk (shut_int Try.underlying3 w0) (trodAll_cons_mk (shut_int Try.underlying3 w1) trodAll_mk0)), rfl, bel.frame _, fun h => by cases h⟩
theorem over : Rows.dgramFullRow.holds Try.pinned (OpenSpec.ofChange Rows.dgramFullSpec) :=
  OpenClaim.holds_of_wide 4 Try.f4 rfl rfl rfl rfl rfl rfl rfl ⟨rfl, rfl, rfl, rfl, rfl⟩ rfl rfl rfl rfl rfl (by kernel_rfl) Try.func4 (by kernel_rfl)
    (of_decide_eq_true (by kernel_rfl)) (by unfold Func.isWrapper; first | (rw [if_pos (by decide +kernel)]; kernel_rfl) | (rw [if_neg (by decide +kernel)]; exact ⟨rfl, rfl⟩))
    (fun os started H enc _ => lifted os started H enc)
end dgramFull
theorem dgramFull_holds : Rows.DgramFullSaid := dgramFull.over
#print axioms dgramFull_holds
end Go.Proofs.Ytehgneiiajpgpaa
