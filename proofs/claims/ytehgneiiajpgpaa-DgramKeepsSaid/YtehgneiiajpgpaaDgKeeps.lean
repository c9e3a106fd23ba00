/- DgramKeeps: nothing is taken that was not sent; nothing twice. No condition. -/
import Derived.Test.YtehgneiiajpgpaaDgRw
import Derived.Deep.QuietTactic
import Derived.BigQuiet
namespace Go.Proofs.Ytehgneiiajpgpaa
open Go.RowKit Go.ChangeShapes Go.WideShapes
set_option linter.all false
set_option maxHeartbeats 4000000
set_option maxRecDepth 100000

/-- What holds at every round's head. -/
structure KS (w wr : World) (p : Nat) (N : Net0) (K : List Nat) (S : List SOp) (T : List Int) (tw : Bool) (d : Nat) (v5 v7 : Value) : Prop where
  own : Own w wr p N K
  kp : Kp N S T tw d
  sent : Rw w wr 51 7 v5 S.length (flatS S) (K ++ bl v7)
  took : Rw w wr 25 1 v7 T.length (T.map (Value.int .u64)) K
  old : ∀ s ∈ S, BytesAt w (.slice s.A s.b.length s.c) s.b ∧ s.b.length ≤ 140737488355328
theorem KS.rows {w wr wx w5 : World} {p : Nat} {N : Net0} {K K' : List Nat} {S : List SOp} {T : List Int} {tw : Bool} {d : Nat} {v5 v7 : Value} (h : KS w wr p N K S T tw d v5 v7) (o4 : Only wr wx []) (o5 : Only wx w5 K) (hk : ∀ k ∈ K', k ∈ K ∨ wx.heap.size ≤ k) :
    Rw w w5 51 7 v5 S.length (flatS S) (K' ++ bl v7) ∧ Rw w w5 25 1 v7 T.length (T.map (Value.int .u64)) K' := by
  have h1 := (h.sent.quiet o4).only o5 (fun b hb hm => h.sent.off b hb (List.mem_append_left _ hm))
  have h2 := (h.took.quiet o4).only o5 h.took.off
  refine ⟨⟨h1.own, fun b hb hm => ?_⟩, ⟨h2.own, fun b hb hm => ?_⟩⟩
  · rcases List.mem_append.1 hm with hm | hm
    · rcases hk b hm with hm | hm
      · exact h.sent.off b hb (List.mem_append_left _ hm)
      · have := (h.sent.lt b hb).2
        have := o4.size
        omega
    · exact h.sent.off b hb (List.mem_append_right _ hm)
  · rcases hk b hm with hm | hm
    · exact h.took.off b hb hm
    · have := (h.took.lt b hb).2
      have := o4.size
      omega
/-- A round without an append. -/
theorem KS.next {w wr wx w5 w6 : World} {p : Nat} {N N' : Net0} {K K' : List Nat} {S : List SOp} {T : List Int} {tw tw' : Bool} {d : Nat} {v5 v7 : Value} (h : KS w wr p N K S T tw d v5 v7) (o4 : Only wr wx []) (o5 : Only wx w5 K) (hk : ∀ k ∈ K', k ∈ K ∨ wx.heap.size ≤ k)
    (hO : Own w w5 p N' K') (hp : Kp N' S T tw' (d + 1)) (o6 : Only w5 w6 []) : KS w w6 p N' K' S T tw' (d + 1) v5 v7 := by
  obtain ⟨r1, r2⟩ := h.rows o4 o5 hk
  exact ⟨hO.quiet o6, hp, r1.quiet o6, r2.quiet o6, h.old⟩
/-- A round in which one call was sent. -/
theorem KS.more {w wr wx w5 w6 w8 : World} {p : Nat} {N N' : Net0} {K K' : List Nat} {S : List SOp} {T : List Int} {tw tw' : Bool} {d : Nat} {v5 v7 v5' : Value} {s : SOp} (h : KS w wr p N K S T tw d v5 v7) (o4 : Only wr wx []) (o5 : Only wx w5 K) (hk : ∀ k ∈ K', k ∈ K ∨ wx.heap.size ≤ k)
    (hO : Own w w5 p N' K') (hp : Kp N' (S ++ [s]) T tw' (d + 1)) (o6 : Only w5 w6 []) (o8 : Only w6 w8 (bl v5)) (hR : Rw w w8 51 7 v5' (S ++ [s]).length (flatS (S ++ [s])) (K' ++ bl v7)) (hs : BytesAt w (.slice s.A s.b.length s.c) s.b ∧ s.b.length ≤ 140737488355328) :
    KS w w8 p N' K' (S ++ [s]) T tw' (d + 1) v5' v7 := by
  obtain ⟨r1, r2⟩ := h.rows o4 o5 hk
  refine ⟨(hO.quiet o6).onlys o8 (fun k hk' hb => r1.off k hb (List.mem_append_left _ hk')) (fun k hb => (r1.lt k hb).1), hp, hR, (r2.quiet o6).only o8 (fun b hb hb5 => r1.off b hb5 (List.mem_append_right _ hb)), fun x hx => ?_⟩
  rcases List.mem_append.1 hx with hx | hx
  · exact h.old x hx
  · rw [List.mem_singleton.1 hx]; exact hs
/-- A round in which one datagram was taken. -/
theorem KS.gain {w wr wx w5 w6 w8 : World} {p : Nat} {N N' : Net0} {K K' : List Nat} {S : List SOp} {T : List Int} {tw tw' : Bool} {d : Nat} {v5 v7 v7' : Value} {n : Int} (h : KS w wr p N K S T tw d v5 v7) (o4 : Only wr wx []) (o5 : Only wx w5 K) (hk : ∀ k ∈ K', k ∈ K ∨ wx.heap.size ≤ k)
    (hO : Own w w5 p N' K') (hp : Kp N' S (T ++ [n]) tw' (d + 1)) (o6 : Only w5 w6 []) (o8 : Only w6 w8 (bl v7)) (hR : Rw w w8 25 1 v7' (T ++ [n]).length ((T ++ [n]).map (Value.int .u64)) K') (hb7 : ∀ b ∈ bl v7', b ∈ bl v7 ∨ w6.heap.size ≤ b) :
    KS w w8 p N' K' S (T ++ [n]) tw' (d + 1) v5 v7' := by
  obtain ⟨r1, r2⟩ := h.rows o4 o5 hk
  have r1' := (r1.quiet o6).only o8 (fun b hb hb7 => r1.off b hb (List.mem_append_right _ hb7))
  refine ⟨(hO.quiet o6).onlys o8 (fun k hk' hb => r2.off k hb hk') (fun k hb => (r2.lt k hb).1), hp, ⟨r1'.own, fun b hb hm => ?_⟩, hR, h.old⟩
  rcases List.mem_append.1 hm with hm | hm
  · exact r1.off b hb (List.mem_append_left _ hm)
  · rcases hb7 b hm with hm | hm
    · exact r1.off b hb (List.mem_append_right _ hm)
    · have := (r1.lt b hb).2
      have := o6.size
      omega
theorem Only.drewN (w : World) (n : Nat) (ks : List Nat) : Only w (w.drewN n) ks := ⟨rfl, rfl, rfl, Nat.le_refl _, fun _ _ _ => rfl⟩
theorem dg_slice {d : Dg} (h : d.wf) : ∃ A c, d.val = .slice A d.b.length c := by
  unfold Dg.val
  cases hg : d.g with
  | none => exact ⟨none, 0, by rw [h.nil hg]; rfl⟩
  | some g => exact ⟨_, _, rfl⟩
theorem sent_not_local {w wr w4 : World} {p : Nat} {N : Net0} {K : List Nat} {S : List SOp} {T : List Int} {tw : Bool} {d : Nat} {v5 v7 : Value} (h : KS w wr p N K S T tw d v5 v7) (o4 : Only wr w4 []) (hm : w4.heap.size ∈ bl v5) : False := by
  have := (h.sent.lt _ hm).2
  have := o4.size
  omega
theorem keeps_walk (A : Option Addr) (L : List SOp) (c : Nat) (w : World) (hL : ScrAt w A L) :
    Calls Try.prog 5 #[.slice A L.length c] w fun e w' => e = .returned (.bool true) ∧ Only w w' [] := by
  have hl := hL.len
  have hm : maxLen = 9223372036854775807 := rfl
  have hl2 : (L.length : Int) ≤ 9223372036854775807 := by omega
  have HL := Aside0.mk hL
  clear hl hm
  go_enter Try.func5, Try.ntmps5
  go_wp2_with (first
    | (go_at_call 12; refine (alive_c w).mono ?_; rintro e w1 ⟨rfl, o1⟩)
    | (go_at_call 13; refine (new_c w3 5 (by omega)).mono ?_; rintro e w2 ⟨p, K0, rfl, hN0, hK0, o2⟩; have HO0 := Aside0.mk (Own.mk hN0 (fun k hk => Nat.le_trans o1.size (hK0 k hk)) (o1.trans o2 (by simp))); clear hN0 hK0 o1 o2)
    | (go_at_call 20; refine (long_c w1 A L c (HL.out.only o1)).mono ?_; rintro e w3 ⟨bb, rfl, rfl⟩))
  · go_ret
    exact ⟨rfl, o1⟩
  · have hbb : bb = false := by first | assumption | simpa using ‹¬ bb = true›
    subst hbb
    go_loopg [5, 6, 7, 8] 301 (fun gk v5 v6 v7 v8 wr => ∃ (d : Nat) (S : List SOp) (T : List Int) (tw : Bool) (N : Net0) (K : List Nat) (A5 : Option Addr) (c5 : Nat) (A7 : Option Addr) (c7 : Nat), d ≤ 300 ∧ d ≤ L.length ∧ gk = 301 - d ∧ v8 = .int .i64 (d : Int) ∧ v6 = .bool tw ∧ v5 = .slice A5 S.length c5 ∧ v7 = .slice A7 T.length c7 ∧ Aside0 (KS w wr p N K S T tw d (.slice A5 S.length c5) (.slice A7 T.length c7)))
    case atStart =>
      exact ⟨0, [], [], false, ⟨5, 0, [], fun _ => [], 0, 0⟩, K0, none, 0, none, 0, by omega, by omega, rfl, rfl, rfl, rfl, rfl, ⟨HO0.out, ⟨rfl, rfl, by simp, by simp, (fun _ h => by cases h), (fun _ _ h => by cases h), by simp, (fun _ n => by
        have : cntN ⟨5, 0, [], fun _ => [], 0, 0⟩ n = 0 := by
          unfold cntN
          have h2 := sumG_zero (cn n) (fun _ => []) (fun _ => rfl) (keysTo (5 : Int).toNat)
          show cn n [] + sumG (cn n) (fun _ => []) (keysTo (5 : Int).toNat) = 0
          rw [h2]
          rfl
        rw [this]
        simp), (fun _ h => by cases h)⟩, Rw.nil _ _ _ _ _, Rw.nil _ _ _ _ _, (fun _ h => by cases h)⟩⟩
    case round =>
      obtain ⟨d, S, T, tw, N, K, A5, c5, A7, c7, hd, hdl, rfl, rfl, rfl, rfl, rfl, HS⟩ := hrel
      by_cases hlt : d < L.length
      · by_cases h300 : d < 300
        · obtain ⟨x, hx⟩ : ∃ x, L[d]? = some x := ⟨_, List.getElem?_eq_getElem hlt⟩
          obtain ⟨g, off, rfl, c0, c1, c2, c3, c4, cc5, c6, hop, hb⟩ := HL.out.cells HS.out.own.only hx
          have z0 : (d : Int) < (L.length : Int) := by omega
          have z1 : (d : Int) < 300 := by omega
          have z4 : 0 ≤ (d : Int) := by omega
          have hk6 := kind0_kd x.o
          obtain ⟨N', ox, code, hr⟩ : ∃ N' ox code, do0 N (kind0 x.o) x.b = (N', ox, code) := ⟨_, _, _, rfl⟩
          have hdid := HS.out.kp.did (by omega) ⟨kind0 x.o, x.A, x.c, x.b⟩ hk6
          dsimp only at hdid
          have hdo := fun (wx : World) (hO : Only wr wx []) => do_net2 w wx p N K (HS.out.own.quiet hO) (kind0 x.o) x.A x.c x.b hk6 (hop.bytes.only (HS.out.own.quiet hO).only) hb hop.byte (by rw [kind0_m]; exact hop.m) (by have := HS.out.kp.ops; omega)
          rw [hr] at hdid hdo
          have HBY : Aside0 (BytesAt w (.slice x.A x.b.length x.c) x.b ∧ x.b.length ≤ 140737488355328) := ⟨hop.bytes, hb⟩
          have HDO := Aside0.mk hdo
          obtain ⟨ko, hko⟩ : ∃ ko, ko = kind0 x.o := ⟨_, rfl⟩
          rw [← hko] at HDO hk6 hdid
          have HDID := Aside0.mk hdid
          have hkc := fun wx => kind_c wx x.o x.A x.b.length x.c
          rw [← hko] at hkc
          have HKC := Aside0.mk hkc
          have HD : Aside0 (d + 1 ≤ 300) := ⟨by omega⟩
          have HD2 : Aside0 (d + 1 ≤ L.length) := ⟨by omega⟩
          have HSL : Aside0 (S.length ≤ 300) := ⟨by have := HS.out.kp.slen; omega⟩
          have HTL : Aside0 (T.length ≤ 300) := ⟨by have := HS.out.kp.tlen; omega⟩
          obtain ⟨kd, kf, kt, ki, ka, km⟩ := ko
          clear hdo hkc hop hb hx hr hko hlt h300 hd hdl hdid
          cases ox with
          | none =>
            by_cases h0 : kd = 0
            · subst h0
              by_cases hc0 : code = 0
              · subst hc0
                go_wp2_with (first
                  | (go_at_call 21; refine (HKC.out wr).mono ?_; rintro e w4 ⟨rfl, o4⟩)
                  | (go_at_call 22; refine (HDO.out _ (o4.trans (Only.alloc w4 _ []) (by simp))).mono ?_; rintro e w5 ⟨⟨rfl, K5, hO5, hk5⟩, o5⟩; have hq5 := op_kept HS.out.own.at'.lt o4 o5; obtain ⟨y0, y1, y2, y3, y4, y5, y6⟩ := blk7 hq5; have hl5 : w4.heap.size < w5.heap.size := (Array.getElem?_eq_some_iff.1 hq5).1; obtain ⟨r1, r2⟩ := HS.out.rows (o4.trans (Only.alloc w4 _ []) (by simp)) o5 hk5; obtain ⟨A9, c9, w8, hrun, hR9, o8, hb9⟩ := sent_app (r1.quiet (Only.alloc w5 (.cells zCells 54) [])) (by have := hO5.only.size; simp; omega) (fun k hk => (List.mem_append.1 hk).elim (fun hk => by have := hO5.at'.lt k hk; simp; omega) (fun hk => by have := (r2.lt k hk).2; simp; omega)) (by have := HSL.out; omega) ⟨⟨0, kf, kt, ki, ka, km⟩, x.A, x.c, x.b⟩; simp only [size_alloc'] at hrun; have k8 : w8.heap[w4.heap.size]? = w5.heap[w4.heap.size]? := (o8.block _ (by simp; omega) (fun hm => by have := (r1.lt _ hm).2; exact sent_not_local HS.out o4 hm)).trans ((Only.alloc w5 _ []).block _ hl5 (by simp)); obtain ⟨yy0, yy1, yy2, yy3, yy4, yy5, yy6⟩ := blk7 (k8.trans hq5); clear hq5)
                  | (at_builtin; refine wpList_append_by rfl _ _ _ _ rfl _ _ rfl rfl _ _ hrun ?_))
                all_goals (
                  go_roundg (301 - (d + 1))
                  case measure => have := HD.out; omega
                  case rel =>
                    refine ⟨d + 1, S ++ [⟨⟨0, kf, kt, ki, ka, km⟩, x.A, x.c, x.b⟩], T, _, N', K5, A9, c9, A7, c7, HD.out, HD2.out, rfl, by simp, rfl, by simp, rfl, ⟨?_⟩⟩
                    have hp := HDID.out.1
                    rw [List.length_append, List.length_singleton]
                    refine HS.out.more (o4.trans (Only.alloc w4 _ []) (by simp)) o5 hk5 hO5 ?_ (Only.alloc w5 _ []) o8 hR9 HBY.out
                    simpa [*] using hp)
              · have hcb : (code == 0) = false := by simpa using hc0
                go_wp2_with (first
                  | (go_at_call 21; refine (HKC.out wr).mono ?_; rintro e w4 ⟨rfl, o4⟩)
                  | (go_at_call 22; refine (HDO.out _ (o4.trans (Only.alloc w4 _ []) (by simp))).mono ?_; rintro e w5 ⟨⟨rfl, K5, hO5, hk5⟩, o5⟩; have hq5 := op_kept HS.out.own.at'.lt o4 o5; obtain ⟨y0, y1, y2, y3, y4, y5, y6⟩ := blk7 hq5; have hl5 : w4.heap.size < w5.heap.size := (Array.getElem?_eq_some_iff.1 hq5).1; clear hq5)
                  | fail)
                all_goals (
                  go_roundg (301 - (d + 1))
                  case measure => have := HD.out; omega
                  case rel =>
                    refine ⟨d + 1, S, T, _, N', K5, A5, c5, A7, c7, HD.out, HD2.out, rfl, by simp, rfl, rfl, rfl, ⟨?_⟩⟩
                    have hp := HDID.out.1
                    refine HS.out.next (o4.trans (Only.alloc w4 _ []) (by simp)) o5 hk5 hO5 ?_ (Only.alloc w5 _ [])
                    simpa [*] using hp)
            · by_cases h3 : kd = 3
              · subst h3
                by_cases hc0 : code = 0
                · subst hc0
                  go_wp2_with (first
                    | (go_at_call 21; refine (HKC.out wr).mono ?_; rintro e w4 ⟨rfl, o4⟩)
                    | (go_at_call 22; refine (HDO.out _ (o4.trans (Only.alloc w4 _ []) (by simp))).mono ?_; rintro e w5 ⟨⟨rfl, K5, hO5, hk5⟩, o5⟩; have hq5 := op_kept HS.out.own.at'.lt o4 o5; obtain ⟨y0, y1, y2, y3, y4, y5, y6⟩ := blk7 hq5; have hl5 : w4.heap.size < w5.heap.size := (Array.getElem?_eq_some_iff.1 hq5).1; clear hq5)
                    | fail)
                  all_goals (
                    go_roundg (301 - (d + 1))
                    case measure => have := HD.out; omega
                    case rel =>
                      refine ⟨d + 1, S, T, _, N', K5, A5, c5, A7, c7, HD.out, HD2.out, rfl, by simp, rfl, rfl, rfl, ⟨?_⟩⟩
                      have hp := HDID.out.1
                      refine HS.out.next (o4.trans (Only.alloc w4 _ []) (by simp)) o5 hk5 hO5 ?_ (Only.alloc w5 _ [])
                      simpa [*] using hp)
                · have hcb : (code == 0) = false := by simpa using hc0
                  go_wp2_with (first
                    | (go_at_call 21; refine (HKC.out wr).mono ?_; rintro e w4 ⟨rfl, o4⟩)
                    | (go_at_call 22; refine (HDO.out _ (o4.trans (Only.alloc w4 _ []) (by simp))).mono ?_; rintro e w5 ⟨⟨rfl, K5, hO5, hk5⟩, o5⟩; have hq5 := op_kept HS.out.own.at'.lt o4 o5; obtain ⟨y0, y1, y2, y3, y4, y5, y6⟩ := blk7 hq5; have hl5 : w4.heap.size < w5.heap.size := (Array.getElem?_eq_some_iff.1 hq5).1; clear hq5)
                    | fail)
                  all_goals (
                    go_roundg (301 - (d + 1))
                    case measure => have := HD.out; omega
                    case rel =>
                      refine ⟨d + 1, S, T, _, N', K5, A5, c5, A7, c7, HD.out, HD2.out, rfl, by simp, rfl, rfl, rfl, ⟨?_⟩⟩
                      have hp := HDID.out.1
                      refine HS.out.next (o4.trans (Only.alloc w4 _ []) (by simp)) o5 hk5 hO5 ?_ (Only.alloc w5 _ [])
                      simpa [*] using hp)
              · have hk0b : (kd == 0) = false := by simpa using h0
                have hk3b : (kd == 3) = false := by simpa using h3
                go_wp2_with (first
                  | (go_at_call 21; refine (HKC.out wr).mono ?_; rintro e w4 ⟨rfl, o4⟩)
                  | (go_at_call 22; refine (HDO.out _ (o4.trans (Only.alloc w4 _ []) (by simp))).mono ?_; rintro e w5 ⟨⟨rfl, K5, hO5, hk5⟩, o5⟩; have hq5 := op_kept HS.out.own.at'.lt o4 o5; obtain ⟨y0, y1, y2, y3, y4, y5, y6⟩ := blk7 hq5; have hl5 : w4.heap.size < w5.heap.size := (Array.getElem?_eq_some_iff.1 hq5).1; clear hq5)
                  | fail)
                all_goals (
                  go_roundg (301 - (d + 1))
                  case measure => have := HD.out; omega
                  case rel =>
                    refine ⟨d + 1, S, T, _, N', K5, A5, c5, A7, c7, HD.out, HD2.out, rfl, by simp, rfl, rfl, rfl, ⟨?_⟩⟩
                    have hp := HDID.out.1
                    refine HS.out.next (o4.trans (Only.alloc w4 _ []) (by simp)) o5 hk5 hO5 ?_ (Only.alloc w5 _ [])
                    simpa [*] using hp)
          | some y =>
            cases tw
            · skip
              obtain ⟨h5, hgood, hyt, hone⟩ := HDID.out.2 y rfl
              have h5 : kd = 5 := h5
              subst h5
              have hyt : y.t = kf := hyt
              obtain ⟨hy1, hy2, s, hs, hsf, hst, hnear⟩ := hgood
              obtain ⟨k, hk⟩ : ∃ k : Nat, y.n = (k : Int) + 1 := ⟨(y.n - 1).toNat, by omega⟩
              have hks : S[k]? = some s := by rw [← hs]; congr 1; omega
              have hkl : k < S.length := by omega
              have hsold := HS.out.old s (List.mem_of_getElem? hks)
              have hlen : s.b.length = y.b.length := hnear.1
              have HNR := Aside0.mk hnear
              have HON := Aside0.mk hone
              have HKS := Aside0.mk hks
              have HSO := Aside0.mk hsold
              have HLE := Aside0.mk hlen
              clear hy1 hy2 hs hnear hone hks hsold hlen
              have u1 : IntKind.u64.wrap (k : Int) = k := by simp only [IntKind.wrap, IntKind.signed, IntKind.bits]; simp; have := HSL.out; omega
              have u2 : IntKind.u64.wrap (S.length : Int) = S.length := by simp only [IntKind.wrap, IntKind.signed, IntKind.bits]; simp; have := HSL.out; omega
              have u3 : ((S.length : Int) % 18446744073709551616) = S.length := by have := HSL.out; omega
              have u4 : ((k : Int) % 18446744073709551616) = k := by have := HSL.out; omega
              have kb1 : ¬ ((k : Int) + 1 < 1) := by omega
              have kb2 : (k : Int) + 1 ≤ (S.length : Int) := by omega
              have kb3 : (k : Int) < (S.length : Int) := by omega
              have kb4 : (0 : Int) ≤ (k : Int) := by omega
              go_wp2_with (first
                | (go_at_call 21; refine (HKC.out wr).mono ?_; rintro e w4 ⟨rfl, o4⟩)
                | (go_at_call 22; fail))
              go_at_call 22
              refine (HDO.out _ (o4.trans (Only.alloc w4 _ []) (by simp))).mono ?_
              rintro e w5 ⟨⟨dg, K5, hdg, rfl, hO5, hA5, hk5, hd5⟩, o5⟩
              have hq5 := op_kept HS.out.own.at'.lt o4 o5
              obtain ⟨y0, y1, y2, y3, y4, y5, y6⟩ := blk7 hq5
              have hl5 : w4.heap.size < w5.heap.size := (Array.getElem?_eq_some_iff.1 hq5).1
              obtain ⟨A9, c9, hv9⟩ := dg_slice hA5.wf
              have hdn : dg.n = (k : Int) + 1 := by rw [← hk, ← hdg]; rfl
              have hdt : dg.t = kf := by rw [← hyt, ← hdg]; rfl
              have hdf : dg.f = s.o.f := by rw [hsf, ← hdg]; rfl
              obtain ⟨r1, r2⟩ := HS.out.rows (o4.trans (Only.alloc w4 _ []) (by simp)) o5 hk5
              obtain ⟨g5, c5', hv5, hc5, hcell5⟩ := r1.cell (by omega)
              have hA5' : A5 = some ⟨g5, 0, none⟩ := by simp only [Value.slice.injEq] at hv5; exact hv5.1
              subst hA5'
              have sc := fun j u hj => hcell5 (k * 7 + j) u (flatS_at S k s HKS.out j u hj)
              have s0 : w5.cell? ⟨g5, k * 7, none⟩ = some (.int .i64 s.o.kd) := sc 0 _ rfl
              have s1 : w5.cell? ⟨g5, k * 7 + 1, none⟩ = some (.int .i64 s.o.f) := sc 1 _ rfl
              have s2 : w5.cell? ⟨g5, k * 7 + 2, none⟩ = some (.int .i64 s.o.t) := sc 2 _ rfl
              have s3 : w5.cell? ⟨g5, k * 7 + 3, none⟩ = some (.int .i64 s.o.i) := sc 3 _ rfl
              have s4 : w5.cell? ⟨g5, k * 7 + 4, none⟩ = some (.int .i64 s.o.at') := sc 4 _ rfl
              have s5 : w5.cell? ⟨g5, k * 7 + 5, none⟩ = some (.int .u32 s.o.m) := sc 5 _ rfl
              have s6 : w5.cell? ⟨g5, k * 7 + 6, none⟩ = some (.slice s.A s.b.length s.c) := sc 6 _ rfl
              have hst2 : s.o.t = kf := by rw [hst, hyt]
              have hl9 : dg.b.length = s.b.length := by rw [HLE.out, ← hdg]; rfl
              have hg5l : g5 < w5.heap.size := World.block_lt_of_cell? _ _ s0
              rw [hst2] at s2
              rw [hl9] at hv9
              have hnr : ∀ W, Only w5 W [] → Calls Try.prog 23 #[.slice s.A s.b.length s.c, .slice A9 s.b.length c9, .bool dg.sp] W fun e w' => e = .returned (.bool true) ∧ Only W w' [] := fun W hW => by
                have hn2 : Near s.b dg.b dg.sp := by rw [← hdg] at HNR; exact HNR.out
                have hb2 : BytesAt W (.slice A9 s.b.length c9) dg.b := by rw [← hv9]; exact hA5.bytes.only hW
                rw [← hl9] at hb2 ⊢
                rw [hl9]
                have hb1 := HSO.out.1.only (hO5.only.trans hW (by simp))
                have := near_c W s.A A9 s.c c9 s.b dg.b dg.sp hn2 hb1 (by rw [hl9] at hb2; rw [hl9]; exact hb2) (by have := hA5.wf.len; omega)
                rwa [hl9] at this
              have HNEAR := Aside0.mk hnr
              clear hq5 hnr sc hcell5 hv5 hc5 hA5 hd5
              simp only [Dg.cells, hv9, hdn, hdt, hdf]
              go_wp2_with (first
                | (go_at_call 23; refine (HNEAR.out _ ((Only.alloc w5 _ []).trans (Only.alloc _ _ []) (by simp))).mono ?_; rintro e w9 ⟨rfl, o9⟩))
              have o59 : Only w5 w9 [] := ((Only.alloc w5 (.cells #[.int .i64 y.f, .int .i64 kf, .int .u64 ((k : Int) + 1), .slice A9 s.b.length c9, .bool dg.sp] 54) []).trans (Only.alloc _ _ []) (by simp)).trans o9 (by simp)
              have hb10 : w9.heap[w5.heap.size]? = some (.cells #[.int .i64 y.f, .int .i64 kf, .int .u64 ((k : Int) + 1), .slice A9 s.b.length c9, .bool dg.sp] 54 (0, 0)) := by
                rw [o9.block _ (by simp; omega) (by simp)]
                exact (Lib.alloc_old _ _ _ (by simp)).trans (heap_alloc_new w5 _)
              have HO59 := Aside0.mk o59
              have HB10 := Aside0.mk hb10
              have HR2 := Aside0.mk r2
              clear o59 hb10 o9 r1 r2 y0 y1 y2 y3 y4 y5 y6 s0 s1 s2 s3 s4 s5 s6 hl5 hg5l u1 u2 u3 u4 c0 c1 c2 c3 c4 cc5 c6
              go_loopg [14] T.length (fun gk v14 wq => ∃ j : Nat, j ≤ T.length ∧ gk = T.length - j ∧ v14 = .int .i64 (j : Int) ∧ Aside0 (Only w9 wq []))
              case atStart => exact ⟨0, Nat.zero_le _, rfl, rfl, ⟨Only.refl _ _⟩⟩
              case round =>
                obtain ⟨j, hj, rfl, rfl, HQ⟩ := hrel
                have hbq : wr.heap[w5.heap.size]? = some (.cells #[.int .i64 y.f, .int .i64 kf, .int .u64 ((k : Int) + 1), .slice A9 s.b.length c9, .bool dg.sp] 54 (0, 0)) := (HQ.out.block _ (Array.getElem?_eq_some_iff.1 HB10.out).1 (by simp)).trans HB10.out
                obtain ⟨q0, q1, q2, q3, q4, _⟩ := blk5 hbq
                have hlq : w5.heap.size < wr.heap.size := (Array.getElem?_eq_some_iff.1 hbq).1
                have HTL2 := HTL.out
                by_cases hjl : j < T.length
                · obtain ⟨tn, htn⟩ : ∃ tn, T[j]? = some tn := ⟨_, List.getElem?_eq_getElem hjl⟩
                  obtain ⟨g7, c7', hv7, hc7, hcell7⟩ := (HR2.out.quiet (HO59.out.trans HQ.out (by simp))).cell (by omega)
                  have hA7' : A7 = some ⟨g7, 0, none⟩ := by simp only [Value.slice.injEq] at hv7; exact hv7.1
                  subst hA7'
                  have t0 := hcell7 j (.int .u64 tn) (by simp [htn])
                  have j1 : (j : Int) < (T.length : Int) := by omega
                  have j2 : (0 : Int) ≤ (j : Int) := by omega
                  have j3 : (T.length : Int) ≤ 300 := by omega
                  have HJL := Aside0.mk hjl
                  have hmem : tn ∈ T := List.mem_of_getElem? htn
                  clear hcell7 hv7 hc7 htn hjl hj HTL2 hbq
                  by_cases he : tn = (k : Int) + 1
                  · first
                    | (exfalso; exact HON.out (by first | trivial | rfl) (by rw [hk, ← he]; exact hmem))
                    | (subst he
                       go_wp2_with fail
                       go_quiet (fail)
                       go_wp2_with fail
                       go_roundg (T.length - (j + 1))
                       case measure => have := HJL.out; omega
                       case rel => exact ⟨j + 1, HJL.out, rfl, by simp, ⟨HQ.out.trans (Only.drewN wr _ []) (by simp)⟩⟩)
                  · have he2 : (tn == (k : Int) + 1) = false := by simpa using he
                    have he3 : decide (tn = (k : Int) + 1) = false := by simpa using he
                    go_wp2_with fail
                    go_quiet (fail)
                    go_wp2_with fail
                    go_roundg (T.length - (j + 1))
                    case measure => have := HJL.out; omega
                    case rel => exact ⟨j + 1, HJL.out, rfl, by simp, ⟨HQ.out.trans (Only.drewN wr _ []) (by simp)⟩⟩
                · have hjj : j = T.length := by omega
                  subst hjj
                  obtain ⟨A8, c8, w8, hrun, hR8, o8, hb8⟩ := took_app (HR2.out.quiet (HO59.out.trans HQ.out (by simp))) (by have := hO5.only.size; have := HO59.out.size; have := HQ.out.size; omega) (fun k hk => by have := hO5.at'.lt k hk; have := HO59.out.size; have := HQ.out.size; omega) (by omega) ((k : Int) + 1)
                  have HRUN := Aside0.mk hrun
                  have HJJ := Aside0.mk hj
                  clear hjl hj HTL2 hbq hrun
                  go_wp2_with (at_builtin; refine wpList_append_by rfl _ _ _ _ rfl _ _ rfl rfl _ _ HRUN.out ?_)
                  go_roundg (301 - (d + 1))
                  case measure => have := HD.out; omega
                  case rel =>
                    refine ⟨d + 1, S, T ++ [(k : Int) + 1], _, N', K5, some ⟨g5, 0, none⟩, c5, A8, c8, HD.out, HD2.out, rfl, by simp, rfl, rfl, by simp, ⟨?_⟩⟩
                    have hp := HDID.out.1
                    rw [List.length_append, List.length_singleton]
                    refine HS.out.gain (o4.trans (Only.alloc w4 _ []) (by simp)) o5 hk5 hO5 ?_ (HO59.out.trans HQ.out (by simp)) o8 hR8 hb8
                    simpa [hk] using hp
            · skip
              obtain ⟨h5, hgood, hyt, hone⟩ := HDID.out.2 y rfl
              have h5 : kd = 5 := h5
              subst h5
              have hyt : y.t = kf := hyt
              obtain ⟨hy1, hy2, s, hs, hsf, hst, hnear⟩ := hgood
              obtain ⟨k, hk⟩ : ∃ k : Nat, y.n = (k : Int) + 1 := ⟨(y.n - 1).toNat, by omega⟩
              have hks : S[k]? = some s := by rw [← hs]; congr 1; omega
              have hkl : k < S.length := by omega
              have hsold := HS.out.old s (List.mem_of_getElem? hks)
              have hlen : s.b.length = y.b.length := hnear.1
              have HNR := Aside0.mk hnear
              have HON := Aside0.mk hone
              have HKS := Aside0.mk hks
              have HSO := Aside0.mk hsold
              have HLE := Aside0.mk hlen
              clear hy1 hy2 hs hnear hone hks hsold hlen
              have u1 : IntKind.u64.wrap (k : Int) = k := by simp only [IntKind.wrap, IntKind.signed, IntKind.bits]; simp; have := HSL.out; omega
              have u2 : IntKind.u64.wrap (S.length : Int) = S.length := by simp only [IntKind.wrap, IntKind.signed, IntKind.bits]; simp; have := HSL.out; omega
              have u3 : ((S.length : Int) % 18446744073709551616) = S.length := by have := HSL.out; omega
              have u4 : ((k : Int) % 18446744073709551616) = k := by have := HSL.out; omega
              have kb1 : ¬ ((k : Int) + 1 < 1) := by omega
              have kb2 : (k : Int) + 1 ≤ (S.length : Int) := by omega
              have kb3 : (k : Int) < (S.length : Int) := by omega
              have kb4 : (0 : Int) ≤ (k : Int) := by omega
              go_wp2_with (first
                | (go_at_call 21; refine (HKC.out wr).mono ?_; rintro e w4 ⟨rfl, o4⟩)
                | (go_at_call 22; fail))
              go_at_call 22
              refine (HDO.out _ (o4.trans (Only.alloc w4 _ []) (by simp))).mono ?_
              rintro e w5 ⟨⟨dg, K5, hdg, rfl, hO5, hA5, hk5, hd5⟩, o5⟩
              have hq5 := op_kept HS.out.own.at'.lt o4 o5
              obtain ⟨y0, y1, y2, y3, y4, y5, y6⟩ := blk7 hq5
              have hl5 : w4.heap.size < w5.heap.size := (Array.getElem?_eq_some_iff.1 hq5).1
              obtain ⟨A9, c9, hv9⟩ := dg_slice hA5.wf
              have hdn : dg.n = (k : Int) + 1 := by rw [← hk, ← hdg]; rfl
              have hdt : dg.t = kf := by rw [← hyt, ← hdg]; rfl
              have hdf : dg.f = s.o.f := by rw [hsf, ← hdg]; rfl
              obtain ⟨r1, r2⟩ := HS.out.rows (o4.trans (Only.alloc w4 _ []) (by simp)) o5 hk5
              obtain ⟨g5, c5', hv5, hc5, hcell5⟩ := r1.cell (by omega)
              have hA5' : A5 = some ⟨g5, 0, none⟩ := by simp only [Value.slice.injEq] at hv5; exact hv5.1
              subst hA5'
              have sc := fun j u hj => hcell5 (k * 7 + j) u (flatS_at S k s HKS.out j u hj)
              have s0 : w5.cell? ⟨g5, k * 7, none⟩ = some (.int .i64 s.o.kd) := sc 0 _ rfl
              have s1 : w5.cell? ⟨g5, k * 7 + 1, none⟩ = some (.int .i64 s.o.f) := sc 1 _ rfl
              have s2 : w5.cell? ⟨g5, k * 7 + 2, none⟩ = some (.int .i64 s.o.t) := sc 2 _ rfl
              have s3 : w5.cell? ⟨g5, k * 7 + 3, none⟩ = some (.int .i64 s.o.i) := sc 3 _ rfl
              have s4 : w5.cell? ⟨g5, k * 7 + 4, none⟩ = some (.int .i64 s.o.at') := sc 4 _ rfl
              have s5 : w5.cell? ⟨g5, k * 7 + 5, none⟩ = some (.int .u32 s.o.m) := sc 5 _ rfl
              have s6 : w5.cell? ⟨g5, k * 7 + 6, none⟩ = some (.slice s.A s.b.length s.c) := sc 6 _ rfl
              have hst2 : s.o.t = kf := by rw [hst, hyt]
              have hl9 : dg.b.length = s.b.length := by rw [HLE.out, ← hdg]; rfl
              have hg5l : g5 < w5.heap.size := World.block_lt_of_cell? _ _ s0
              rw [hst2] at s2
              rw [hl9] at hv9
              have hnr : ∀ W, Only w5 W [] → Calls Try.prog 23 #[.slice s.A s.b.length s.c, .slice A9 s.b.length c9, .bool dg.sp] W fun e w' => e = .returned (.bool true) ∧ Only W w' [] := fun W hW => by
                have hn2 : Near s.b dg.b dg.sp := by rw [← hdg] at HNR; exact HNR.out
                have hb2 : BytesAt W (.slice A9 s.b.length c9) dg.b := by rw [← hv9]; exact hA5.bytes.only hW
                rw [← hl9] at hb2 ⊢
                rw [hl9]
                have hb1 := HSO.out.1.only (hO5.only.trans hW (by simp))
                have := near_c W s.A A9 s.c c9 s.b dg.b dg.sp hn2 hb1 (by rw [hl9] at hb2; rw [hl9]; exact hb2) (by have := hA5.wf.len; omega)
                rwa [hl9] at this
              have HNEAR := Aside0.mk hnr
              clear hq5 hnr sc hcell5 hv5 hc5 hA5 hd5
              simp only [Dg.cells, hv9, hdn, hdt, hdf]
              go_wp2_with (first
                | (go_at_call 23; refine (HNEAR.out _ ((Only.alloc w5 _ []).trans (Only.alloc _ _ []) (by simp))).mono ?_; rintro e w9 ⟨rfl, o9⟩))
              have o59 : Only w5 w9 [] := ((Only.alloc w5 (.cells #[.int .i64 y.f, .int .i64 kf, .int .u64 ((k : Int) + 1), .slice A9 s.b.length c9, .bool dg.sp] 54) []).trans (Only.alloc _ _ []) (by simp)).trans o9 (by simp)
              have hb10 : w9.heap[w5.heap.size]? = some (.cells #[.int .i64 y.f, .int .i64 kf, .int .u64 ((k : Int) + 1), .slice A9 s.b.length c9, .bool dg.sp] 54 (0, 0)) := by
                rw [o9.block _ (by simp; omega) (by simp)]
                exact (Lib.alloc_old _ _ _ (by simp)).trans (heap_alloc_new w5 _)
              have HO59 := Aside0.mk o59
              have HB10 := Aside0.mk hb10
              have HR2 := Aside0.mk r2
              clear o59 hb10 o9 r1 r2 y0 y1 y2 y3 y4 y5 y6 s0 s1 s2 s3 s4 s5 s6 hl5 hg5l u1 u2 u3 u4 c0 c1 c2 c3 c4 cc5 c6
              go_loopg [14] T.length (fun gk v14 wq => ∃ j : Nat, j ≤ T.length ∧ gk = T.length - j ∧ v14 = .int .i64 (j : Int) ∧ Aside0 (Only w9 wq []))
              case atStart => exact ⟨0, Nat.zero_le _, rfl, rfl, ⟨Only.refl _ _⟩⟩
              case round =>
                obtain ⟨j, hj, rfl, rfl, HQ⟩ := hrel
                have hbq : wr.heap[w5.heap.size]? = some (.cells #[.int .i64 y.f, .int .i64 kf, .int .u64 ((k : Int) + 1), .slice A9 s.b.length c9, .bool dg.sp] 54 (0, 0)) := (HQ.out.block _ (Array.getElem?_eq_some_iff.1 HB10.out).1 (by simp)).trans HB10.out
                obtain ⟨q0, q1, q2, q3, q4, _⟩ := blk5 hbq
                have hlq : w5.heap.size < wr.heap.size := (Array.getElem?_eq_some_iff.1 hbq).1
                have HTL2 := HTL.out
                by_cases hjl : j < T.length
                · obtain ⟨tn, htn⟩ : ∃ tn, T[j]? = some tn := ⟨_, List.getElem?_eq_getElem hjl⟩
                  obtain ⟨g7, c7', hv7, hc7, hcell7⟩ := (HR2.out.quiet (HO59.out.trans HQ.out (by simp))).cell (by omega)
                  have hA7' : A7 = some ⟨g7, 0, none⟩ := by simp only [Value.slice.injEq] at hv7; exact hv7.1
                  subst hA7'
                  have t0 := hcell7 j (.int .u64 tn) (by simp [htn])
                  have j1 : (j : Int) < (T.length : Int) := by omega
                  have j2 : (0 : Int) ≤ (j : Int) := by omega
                  have j3 : (T.length : Int) ≤ 300 := by omega
                  have HJL := Aside0.mk hjl
                  have hmem : tn ∈ T := List.mem_of_getElem? htn
                  clear hcell7 hv7 hc7 htn hjl hj HTL2 hbq
                  by_cases he : tn = (k : Int) + 1
                  · first
                    | (exfalso; exact HON.out (by first | trivial | rfl) (by rw [hk, ← he]; exact hmem))
                    | (subst he
                       go_wp2_with fail
                       go_quiet (fail)
                       go_wp2_with fail
                       go_roundg (T.length - (j + 1))
                       case measure => have := HJL.out; omega
                       case rel => exact ⟨j + 1, HJL.out, rfl, by simp, ⟨HQ.out.trans (Only.drewN wr _ []) (by simp)⟩⟩)
                  · have he2 : (tn == (k : Int) + 1) = false := by simpa using he
                    have he3 : decide (tn = (k : Int) + 1) = false := by simpa using he
                    go_wp2_with fail
                    go_quiet (fail)
                    go_wp2_with fail
                    go_roundg (T.length - (j + 1))
                    case measure => have := HJL.out; omega
                    case rel => exact ⟨j + 1, HJL.out, rfl, by simp, ⟨HQ.out.trans (Only.drewN wr _ []) (by simp)⟩⟩
                · have hjj : j = T.length := by omega
                  subst hjj
                  obtain ⟨A8, c8, w8, hrun, hR8, o8, hb8⟩ := took_app (HR2.out.quiet (HO59.out.trans HQ.out (by simp))) (by have := hO5.only.size; have := HO59.out.size; have := HQ.out.size; omega) (fun k hk => by have := hO5.at'.lt k hk; have := HO59.out.size; have := HQ.out.size; omega) (by omega) ((k : Int) + 1)
                  have HRUN := Aside0.mk hrun
                  have HJJ := Aside0.mk hj
                  clear hjl hj HTL2 hbq hrun
                  go_wp2_with (at_builtin; refine wpList_append_by rfl _ _ _ _ rfl _ _ rfl rfl _ _ HRUN.out ?_)
                  go_roundg (301 - (d + 1))
                  case measure => have := HD.out; omega
                  case rel =>
                    refine ⟨d + 1, S, T ++ [(k : Int) + 1], _, N', K5, some ⟨g5, 0, none⟩, c5, A8, c8, HD.out, HD2.out, rfl, by simp, rfl, rfl, by simp, ⟨?_⟩⟩
                    have hp := HDID.out.1
                    rw [List.length_append, List.length_singleton]
                    refine HS.out.gain (o4.trans (Only.alloc w4 _ []) (by simp)) o5 hk5 hO5 ?_ (HO59.out.trans HQ.out (by simp)) o8 hR8 hb8
                    simpa [hk] using hp
        · have hd3 : d = 300 := by omega
          subst hd3
          have z0 : (300 : Int) < (L.length : Int) := by omega
          go_wp2
          go_ret
          exact ⟨rfl, HS.out.own.only⟩
      · have hd3 : d = L.length := by omega
        subst hd3
        clear hlt
        go_wp2
        go_ret
        exact ⟨rfl, HS.out.own.only⟩
namespace dgramKeeps
open Go.ChangeAt
theorem own : ownKnob Try.prog.godebug = none := by kernel_rfl
theorem laidOut : laidOutB Try.prog = true := by kernel_rfl
set_option maxRecDepth 100000 in
theorem lifted (os : Os) (started : os.Started) (H : Type) (enc : TypeId × Value → H) :
    ReturnsInHanded {} Try.checked os 5 .any (Rows.dgramKeepsSpec.pre6 enc Try.prog Try.f5 Rows.dgramKeepsRow.domain false) (Rows.dgramKeepsSpec.post enc Try.prog Try.f5 false true false false) := by
  refine returnsInHanded_of_change_sized (C := Try.checked) own started (by kernel_rfl) Try.func5
    (ChangeSpec.witness6 (enc := enc) (C := Try.checked) false ⟨#[], #[.slice none 0 0], []⟩ 8 (by kernel_rfl) (by kernel_rfl) (by kernel_rfl) (by kernel_rfl)) ?_
  intro W base args ds gs before hval0 hW hcnd hsz _
  have hval : ∀ (j : Nat) t v, Try.f5.params[j]? = some t → args[j]? = some v → Value.okWide Try.prog W .any base t v := hval0
  have hW' := hW
  obtain ⟨p, q, hA0, hV, rfl, hfz, hnd⟩ := hW
  have hA : DataW.TrodAll enc Try.prog W 0 (fun _ => true) true Try.f5.params.toList args.toList ds p := hA0
  rw [Try.params5] at hA hval hsz
  obtain ⟨v1, vs1, d1, ds1, p1, q1, hargs, rfl, rfl, h1, r1⟩ := trodAll_cons hA
  obtain ⟨rfl, rfl, rfl⟩ := trodAll_nil r1
  obtain rfl : args = #[v1] := by cases args; simp_all
  obtain ⟨rfl, rfl⟩ := trodVars_none hV
  have h1k := h1
  have hlt1 : ∀ x ∈ p1, x.block < W.heap.size := fun x hx => by simpa using hW'.lt x (by simp [hx])
  obtain ⟨aa, ll, cc, rfl⟩ := okWide_slice Try.underlying47 (hval 0 47 v1 rfl rfl)
  obtain ⟨fuel, hf⟩ := h1
  obtain ⟨A, L, c, hv, hS⟩ := open_script hf (fun n hn => by
    have hall := List.all_eq_true.1 hsz n (DataW.weights_mem_each (j := 0) (t := 47) rfl rfl n hn)
    have hr := reachBytes_lt
    have : n ≤ reachBytes := by simpa using hall
    omega)
  rw [hv] at hW' h1k ⊢
  clear hA0 hval0
  refine (keeps_walk A L c W hS).mono fun e W' ⟨he, ho⟩ => ?_
  subst he
  have bel : Below W.heap.size W W' := ho.below (by simp) (Nat.le_refl _)
  simp only [List.append_nil] at hW'
  exact ⟨_, rfl, _, _, _, [], _, [], hW', trodAll_mk1 (shut_bool Try.underlying4 _), trodAll_cons_mk (Below.trod laidOut (by kernel_rfl) (of_decide_eq_true (by kernel_rfl)) h1k bel hlt1) trodAll_mk0, rfl, bel.frame _, fun h => by cases h⟩
theorem over : Rows.dgramKeepsRow.holds Try.pinned (OpenSpec.ofChange Rows.dgramKeepsSpec) :=
  OpenClaim.holds_of_wide 5 Try.f5 rfl rfl rfl rfl rfl rfl rfl ⟨rfl, rfl, rfl, rfl, rfl⟩ rfl rfl rfl rfl rfl (by kernel_rfl) Try.func5 (by kernel_rfl)
    (of_decide_eq_true (by kernel_rfl)) (by unfold Func.isWrapper; first | (rw [if_pos (by decide +kernel)]; kernel_rfl) | (rw [if_neg (by decide +kernel)]; exact ⟨rfl, rfl⟩))
    (fun os started H enc _ => lifted os started H enc)
end dgramKeeps
theorem dgramKeeps_holds : Rows.DgramKeepsSaid := dgramKeeps.over
#print axioms dgramKeeps_holds
end Go.Proofs.Ytehgneiiajpgpaa
