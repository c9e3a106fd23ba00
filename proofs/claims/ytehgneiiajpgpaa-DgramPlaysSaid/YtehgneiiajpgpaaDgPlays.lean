/- DgramPlays: any calls, one after the other; what is in flight and in boxes. No condition. -/
import Derived.Test.YtehgneiiajpgpaaDgRn
namespace Go.Proofs.Ytehgneiiajpgpaa
open Go.RowKit Go.ChangeShapes Go.WideShapes
set_option linter.all false
set_option maxHeartbeats 4000000
set_option maxRecDepth 100000

theorem Only.drewQ (w : World) (n : Nat) (ks : List Nat) : Only w (w.drewN n) ks := ⟨rfl, rfl, rfl, Nat.le_refl _, fun _ _ _ => rfl⟩
theorem dg_sliceQ {d : Dg} (h : d.wf) : ∃ A c, d.val = .slice A d.b.length c := by
  unfold Dg.val
  cases hg : d.g with
  | none => exact ⟨none, 0, by rw [h.nil hg]; rfl⟩
  | some g => exact ⟨_, _, rfl⟩
theorem BytesIn.did {w6 w7 w8 : World} {bm bx : Nat} {K D : List Nat} {v : Value} {b : List Int} (hb : bm < w6.heap.size) (hK : ∀ k ∈ K, k < w6.heap.size) (hD : ∀ k ∈ D, k < w6.heap.size) (hbx : bx ∈ D) (h : BytesIn w7 (fun k => Off K bm D k ∨ w6.heap.size ≤ k) v b) (ho2 : Only w7 w8 [bm, bx]) : BytesAt w8 v b := by
  have hto : ∀ k, k < w7.heap.size → Off K bm D k ∨ w6.heap.size ≤ k → Off K bm D k := fun k _ hP => by
    rcases hP with hP | hP
    · exact hP
    · exact ⟨fun hm => by have := hK k hm; omega, by omega, fun hm => by have := hD k hm; omega⟩
  exact ((h.to hto).keep (fun k hk hP => ho2.block k hk (by
    simp only [List.mem_cons, List.not_mem_nil, or_false]
    rintro (rfl | rfl)
    · exact hP.2.1 rfl
    · exact hP.2.2 hbx))).1
theorem set5_heap {w : World} {b : Nat} {t : TypeId} {a0 a1 a2 a3 a4 : Value} (h : w.heap[b]? = some (.cells #[a0, a1, a2, a3, a4] t (0, 0))) (v0 v1 v2 v3 v4 : Value) :
    (((((w.setCell ⟨b, 0, none⟩ v0).setCell ⟨b, 1, none⟩ v1).setCell ⟨b, 2, none⟩ v2).setCell ⟨b, 3, none⟩ v3).setCell ⟨b, 4, none⟩ v4).heap[b]? = some (.cells #[v0, v1, v2, v3, v4] t (0, 0)) :=
  heap_setCell (heap_setCell (heap_setCell (heap_setCell (heap_setCell h 0 v0) 1 v1) 2 v2) 3 v3) 4 v4
theorem plays_bad (nodes : Int) (A : Option Addr) (L : List SOp) (c : Nat) (w : World) (hn : ¬ (1 ≤ nodes ∧ nodes ≤ 64)) :
    Calls Try.prog 6 #[.int .i64 nodes, .slice A L.length c] w fun e w' => e = .returned (.bool true) ∧ Only w w' [] := by
  by_cases h1 : nodes < 1
  · go_enter Try.func6, Try.ntmps6
    go_wp2_with (first
      | (go_at_call 12; refine (alive_c w).mono ?_; rintro e w1 ⟨rfl, o1⟩)
      | (go_at_call 13; refine (new_bad w1 nodes hn).mono ?_; rintro e w2 ⟨rfl, rfl⟩))
    go_ret
    exact ⟨rfl, o1⟩
  · have h2 : 64 < nodes := by omega
    go_enter Try.func6, Try.ntmps6
    go_wp2_with (first
      | (go_at_call 12; refine (alive_c w).mono ?_; rintro e w1 ⟨rfl, o1⟩)
      | (go_at_call 13; refine (new_bad w1 nodes hn).mono ?_; rintro e w2 ⟨rfl, rfl⟩))
    go_ret
    exact ⟨rfl, o1⟩
theorem plays_walk (nodes : Int) (A : Option Addr) (L : List SOp) (c : Nat) (w : World) (hn : 1 ≤ nodes ∧ nodes ≤ 64) (hL : ScrAt w A L) :
    Calls Try.prog 6 #[.int .i64 nodes, .slice A L.length c] w fun e w' => e = .returned (.bool true) ∧ Only w w' [] := by
  have hl := hL.len
  have hm : maxLen = 9223372036854775807 := rfl
  have hl2 : (L.length : Int) ≤ 9223372036854775807 := by omega
  have HL := Aside0.mk hL
  have hn1 := hn.1
  have hn2 := hn.2
  have HNN := Aside0.mk hn
  clear hl hm hn
  go_enter Try.func6, Try.ntmps6
  go_wp2_with (first
    | (go_at_call 12; refine (alive_c w).mono ?_; rintro e w1 ⟨rfl, o1⟩)
    | (go_at_call 13; refine (new_c w1 nodes HNN.out).mono ?_; rintro e w2 ⟨p, K0, rfl, hN0, hK0, o2⟩; have HO0 := Aside0.mk (Own.mk hN0 (fun k hk => Nat.le_trans o1.size (hK0 k hk)) (o1.trans o2 (by simp))); clear hN0 hK0 o1 o2)
    | (go_at_call 20; refine (long_c w2 A L c (HL.out.only HO0.out.only)).mono ?_; rintro e w3 ⟨bb, rfl, rfl⟩))
  · go_ret
    exact ⟨rfl, HO0.out.only⟩
  · have hbb : bb = false := by first | assumption | simpa using ‹¬ bb = true›
    subst hbb
    obtain ⟨wa, hwa⟩ : ∃ wa, wa = w3.alloc (.cells #[.int .i64 nodes, .int .u64 0, .slice none 0 0, .slice none 0 0, .int .i64 0] 59) := ⟨_, rfl⟩
    obtain ⟨bm, hbm⟩ : ∃ bm, bm = w3.heap.size := ⟨_, rfl⟩
    have oa : Only w3 wa [] := by rw [hwa]; exact Only.alloc w3 _ []
    have ba : wa.heap[bm]? = some (.cells #[.int .i64 nodes, .int .u64 0, .slice none 0 0, .slice none 0 0, .int .i64 0] 59 (0, 0)) := by rw [hwa, hbm]; exact heap_alloc_new w3 _
    have hps : PS w wa p bm (N4 nodes) K0 [] ⟨nodes, 0, [], [], 0⟩ (.slice none 0 0) (.slice none 0 0) 0 :=
      ⟨HO0.out.quiet oa, ⟨⟨RRow.nil _ _, RRow.nil _ _⟩, ba, fun hm => by have := HO0.out.at'.lt bm hm; omega, by simp⟩, ⟨rfl, rfl, rfl, rfl, fun _ => rfl⟩, Nat.le_refl _, Nat.le_refl _, by have := HO0.out.only.size; omega⟩
    have HPS := Aside0.mk hps
    rw [← hwa, ← hbm]
    have HBM := Aside0.mk hbm
    clear hwa hbm oa ba hps
    go_loopg [8] 301 (fun gk v8 wr => ∃ (d : Nat) (N : Net0) (K : List Nat) (M : Ref0) (Aw : Option Addr) (cw : Nat) (Ab : Option Addr) (cb : Nat), d ≤ 300 ∧ d ≤ L.length ∧ gk = 301 - d ∧ v8 = .int .i64 (d : Int) ∧ Aside0 (PS w wr p bm N K [] M (.slice Aw M.way.length cw) (.slice Ab M.boxes.length cb) d))
    case atStart => exact ⟨0, N4 nodes, K0, ⟨nodes, 0, [], [], 0⟩, none, 0, none, 0, by omega, by omega, rfl, rfl, HPS⟩
    case round =>
      obtain ⟨d, N, K, M, Aw, cw, Ab, cb, hd, hdl, rfl, rfl, HP⟩ := hrel
      obtain ⟨mn, ms, way, boxes, ml⟩ := M
      by_cases hlt : d < L.length
      · by_cases h300 : d < 300
        · obtain ⟨x, hx⟩ : ∃ x, L[d]? = some x := ⟨_, List.getElem?_eq_getElem hlt⟩
          obtain ⟨g, off, rfl, c0, c1, c2, c3, c4, c5, c6, hop, hb⟩ := HL.out.cells HP.out.own.only hx
          have z0 : (d : Int) < (L.length : Int) := by omega
          have z1 : (d : Int) < 300 := by omega
          have z4 : 0 ≤ (d : Int) := by omega
          have hk6 := kind0_kd x.o
          obtain ⟨N', ox, code, hr⟩ : ∃ N' ox code, do0 N (kind0 x.o) x.b = (N', ox, code) := ⟨_, _, _, rfl⟩
          have hdo := fun (wx : World) (hO : Only wr wx []) => do_net2 w wx p N K (HP.out.own.quiet hO) (kind0 x.o) x.A x.c x.b hk6 (hop.bytes.only (HP.out.own.quiet hO).only) hb hop.byte (by rw [kind0_m]; exact hop.m) (by have := HP.out.ops; omega)
          obtain ⟨hsim, hcod, _⟩ := HP.out.sim.did HP.out.own.at'.wlen (HP.out.own.at'.blen) (kind0 x.o) x.b
          have hops := do0_ops N (kind0 x.o) x.b
          have hbox := rdo0_boxes (Ref0.abs ⟨mn, ms, way, boxes, ml⟩) (kind0 x.o) x.b
          rw [hr] at hdo hsim hcod hops
          obtain ⟨M1, ox1, code1, hr1⟩ : ∃ M1 ox1 code1, rdo0 (Ref0.abs ⟨mn, ms, way, boxes, ml⟩) (kind0 x.o) x.b = (M1, ox1, code1) := ⟨_, _, _, rfl⟩
          rw [hr1] at hsim hcod hbox
          obtain ⟨rfl, rfl⟩ := Prod.mk.inj hcod
          have hrdo := fun (wx : World) (K' D : List Nat) (hPM : PM wx bm K' D ⟨mn, ms, way, boxes, ml⟩ (.slice Aw way.length cw) (.slice Ab boxes.length cb)) (hO : Only w wx []) => rdo_c wx (Off K' bm D) Aw Ab cw cb ⟨mn, ms, way, boxes, ml⟩ hPM.rat HP.out.wlen (by have := HP.out.blen; dsimp only at this ⊢; omega) (kind0 x.o) hk6 (by rw [kind0_m]; exact hop.m) x.A x.c x.b (hop.bytes.only hO) hop.byte hb
          rw [hr1] at hrdo
          have HDO := Aside0.mk hdo
          have HRDO := Aside0.mk hrdo
          have HSIM := Aside0.mk hsim
          have HOPS := Aside0.mk hops
          have HBOX := Aside0.mk hbox
          obtain ⟨ko, hko⟩ : ∃ ko, ko = kind0 x.o := ⟨_, rfl⟩
          have hkc := fun wx => kind_c wx x.o x.A x.b.length x.c
          rw [← hko] at HDO HRDO hkc
          have HKC := Aside0.mk hkc
          obtain ⟨kd, kf, kt, ki, ka, km⟩ := ko
          have HD : Aside0 (d + 1 ≤ 300) := ⟨by omega⟩
          have HD2 : Aside0 (d + 1 ≤ L.length) := ⟨by omega⟩
          obtain ⟨m0, m1, m2, m3, m4, mf0, mf1, mf2, mf3, mf4⟩ := blk5 HP.out.pm.cell
          clear hdo hrdo hkc hop hb hx hr hr1 hko hlt h300 hd hdl hsim hcod hops hbox hk6
          cases ox with
          | none =>
            go_wp2_with (first
              | (go_at_call 21; refine (HKC.out wr).mono ?_; rintro e w4 ⟨rfl, o4⟩)
              | (go_at_call 22; refine (HDO.out _ (o4.trans (Only.alloc w4 _ []) (by simp))).mono ?_; rintro e w5 ⟨⟨rfl, K5, hO5, hk5⟩, o5⟩; have hq5 := op_kept HP.out.own.at'.lt o4 o5; obtain ⟨y0, y1, y2, y3, y4, y5, y6⟩ := blk7 hq5; have hl5 : w4.heap.size < w5.heap.size := (Array.getElem?_eq_some_iff.1 hq5).1; have HM5 := Aside0.mk ((HP.out.pm.step (o4.trans (Only.alloc w4 _ []) (by simp)) (fun _ h => by cases h) (fun _ h => .inl h) (fun _ h => .inr (.inl h))).step (K' := K5) (D' := []) o5 (fun _ h => .inl h) (fun k hk => (hk5 k hk).imp id .inr) (fun _ h => by cases h)); obtain ⟨n0, n1, n2, n3, n4, nf0, nf1, nf2, nf3, nf4⟩ := blk5 HM5.out.cell; have hb5 : bm < w5.heap.size := (Array.getElem?_eq_some_iff.1 HM5.out.cell).1; have HO5 := Aside0.mk hO5; have HO45 := Aside0.mk (And.intro o4 (And.intro o5 hk5)); clear hO5 hk5 o4 o5 hq5)
              | (go_at_call 24; fail))
            have HDL : Aside0 (∀ k ∈ ([] : List Nat), k < w5.heap.size) := ⟨fun _ h => by cases h⟩
            obtain ⟨w6, hw6⟩ : ∃ w6, w6 = (w5.alloc (.cells zCells 54)).alloc (.cells zCells 54) := ⟨_, rfl⟩
            have o56 : Only w5 w6 [] := by rw [hw6]; exact (Only.alloc w5 _ []).trans (Only.alloc _ _ []) (by simp)
            obtain ⟨_, E2, E3⟩ := two_new w5 (.cells zCells 54) (.cells zCells 54)
            rw [← hw6] at E2 E3
            have hs6 : w6.heap.size = w5.heap.size + 1 + 1 := by rw [hw6]; simp
            obtain ⟨D, hD⟩ : ∃ D : List Nat, D = ([] : List Nat) ++ [w5.heap.size, w5.heap.size + 1] := ⟨_, rfl⟩
            have hDn : ∀ k ∈ D, k ∈ ([] : List Nat) ∨ w5.heap.size ≤ k := fun k hk => by rw [hD, List.mem_append] at hk; exact hk.imp id (fun h => by simp at h; omega)
            have hDx : w5.heap.size + 1 ∈ D := by rw [hD]; simp
            have hDd : ∀ k ∈ ([] : List Nat), k ∈ D := fun k hk => by rw [hD]; exact List.mem_append_left _ hk
            have hm6 := HM5.out.step (K' := K5) (D' := D) o56 (fun _ h => by cases h) (fun _ h => .inl h) (fun k hk => .inr ((hDn k hk).imp id id))
            have ho6 := HO5.out.quiet o56
            have hD6 : ∀ k ∈ D, k < w6.heap.size := fun k hk => by
              rw [hD, List.mem_append] at hk
              rcases hk with hk | hk
              · exact Nat.lt_of_lt_of_le (HDL.out k hk) o56.size
              · simp at hk; omega
            rw [← hw6]
            refine (HRDO.out w6 K5 D hm6 ho6.only).mono ?_
            rintro e w7 ⟨⟨nodes', sent', way', boxes', lost'⟩, A7, c7, A7', c7', vx, rfl, hr7, habs, o7, hvx⟩
            have habs : Ref0.abs ⟨nodes', sent', way', boxes', lost'⟩ = M1 := habs
            have hvx : vx = zeroDg := hvx; subst hvx
            have q7 := (o7.block _ (Array.getElem?_eq_some_iff.1 hm6.cell).1 (by simp)).trans hm6.cell
            have e7 := (o7.block _ (Array.getElem?_eq_some_iff.1 E3).1 (by simp)).trans E3
            have d7 := (o7.block _ (Array.getElem?_eq_some_iff.1 E2).1 (by simp)).trans E2
            obtain ⟨wm, hwm⟩ : ∃ wm, wm = ((((w7.setCell ⟨bm, 0, none⟩ (.int .i64 nodes')).setCell ⟨bm, 1, none⟩ (.int .u64 sent')).setCell ⟨bm, 2, none⟩ (.slice A7 way'.length c7)).setCell ⟨bm, 3, none⟩ (.slice A7' boxes'.length c7')).setCell ⟨bm, 4, none⟩ (.int .i64 lost') := ⟨_, rfl⟩
            obtain ⟨w8, hw8⟩ : ∃ w8, w8 = ((((wm.setCell ⟨w5.heap.size + 1, 0, none⟩ (((.int .i64 0 : Value), (.int .i64 0 : Value), (.int .u64 0 : Value), (.bool false : Value))).1).setCell ⟨w5.heap.size + 1, 1, none⟩ (((.int .i64 0 : Value), (.int .i64 0 : Value), (.int .u64 0 : Value), (.bool false : Value))).2.1).setCell ⟨w5.heap.size + 1, 2, none⟩ (((.int .i64 0 : Value), (.int .i64 0 : Value), (.int .u64 0 : Value), (.bool false : Value))).2.2.1).setCell ⟨w5.heap.size + 1, 3, none⟩ (.slice none 0 0)).setCell ⟨w5.heap.size + 1, 4, none⟩ (((.int .i64 0 : Value), (.int .i64 0 : Value), (.int .u64 0 : Value), (.bool false : Value))).2.2.2 := ⟨_, rfl⟩
            dsimp only at hw8
            have om : Only w7 wm [bm] := by rw [hwm]; exact Only.set5 _ _ _ _ _ _ _ _ (by simp)
            have qm := set5_heap q7 (.int .i64 nodes') (.int .u64 sent') (.slice A7 way'.length c7) (.slice A7' boxes'.length c7') (.int .i64 lost')
            rw [← hwm] at qm
            have o8 : Only wm w8 [w5.heap.size + 1] := by rw [hw8]; exact Only.set5 _ _ _ _ _ _ _ _ (by simp)
            have e8 := set5_heap ((om.block _ (Array.getElem?_eq_some_iff.1 e7).1 (by simp; omega)).trans e7) (((.int .i64 0 : Value), (.int .i64 0 : Value), (.int .u64 0 : Value), (.bool false : Value))).1 (((.int .i64 0 : Value), (.int .i64 0 : Value), (.int .u64 0 : Value), (.bool false : Value))).2.1 (((.int .i64 0 : Value), (.int .i64 0 : Value), (.int .u64 0 : Value), (.bool false : Value))).2.2.1 (.slice none 0 0) (((.int .i64 0 : Value), (.int .i64 0 : Value), (.int .u64 0 : Value), (.bool false : Value))).2.2.2
            dsimp only at e8
            rw [← hw8] at e8
            have q8 := (o8.block _ (Array.getElem?_eq_some_iff.1 qm).1 (by simp; omega)).trans qm
            have d8 := (o8.block _ (by have := om.size; have := (Array.getElem?_eq_some_iff.1 d7).1; omega) (by simp)).trans ((om.block _ (Array.getElem?_eq_some_iff.1 d7).1 (by simp; omega)).trans d7)
            have o78 : Only w7 w8 [bm, w5.heap.size + 1] := (om.weaken (ks2 := [bm, w5.heap.size + 1]) (by simp)).trans o8 (by simp)
            have hm8 : PM w8 bm K5 D ⟨nodes', sent', way', boxes', lost'⟩ (.slice A7 way'.length c7) (.slice A7' boxes'.length c7') := hm6.did (fun k hk => ho6.at'.lt k hk) hD6 hDx hr7 o7 o78 q8
            have hk5m : bm ∉ K5 := hm6.offK
            have hO8 : Own w w8 p N' K5 := (ho6.quiet o7).onlys o78 (fun k hk hm => by have := HO5.out.at'.lt k hk; simp at hm; rcases hm with rfl | rfl; exact hk5m hk; omega) (fun k hk => by have := HP.out.lo; have := HO5.out.only.size; simp at hk; omega)
            have hps : PS w w8 p bm N' K5 D ⟨nodes', sent', way', boxes', lost'⟩ (.slice A7 way'.length c7) (.slice A7' boxes'.length c7') (d + 1) := ⟨hO8, hm8, by rw [habs]; exact HSIM.out, by have h1 := HBOX.out; rw [← habs] at h1; have h2 := HP.out.blen; simp [Ref0.abs] at h1 h2 ⊢; omega, by have := HOPS.out; have := HP.out.ops; omega, HP.out.lo⟩
            have HPS := Aside0.mk hps
            have ho58 : Only w5 w8 [bm, w5.heap.size + 1] := ((o56.trans o7 (by simp)).weaken (ks2 := [bm, w5.heap.size + 1]) (by simp)).trans o78 (fun k hk => .inl hk)
            have HO58 := Aside0.mk ho58
            have hlo : N'.lost = lost' := hps.sim.lost
            have hlost : ∀ W, Only w8 W [] → Calls Try.prog 16 #[.pointer (some ⟨p, 0, none⟩)] W fun e w' => e = .returned (.int .i64 lost') ∧ w' = W := fun W hW => by
              have := lost_c W p N' K5 (hO8.quiet hW).at'
              rwa [hlo] at this
            have HLOST := Aside0.mk hlost
            have hsame : ∀ W, Only w8 W [] → Calls Try.prog 25 #[.agg zCells, .agg #[(((.int .i64 0 : Value), (.int .i64 0 : Value), (.int .u64 0 : Value), (.bool false : Value))).1, (((.int .i64 0 : Value), (.int .i64 0 : Value), (.int .u64 0 : Value), (.bool false : Value))).2.1, (((.int .i64 0 : Value), (.int .i64 0 : Value), (.int .u64 0 : Value), (.bool false : Value))).2.2.1, (.slice none 0 0), (((.int .i64 0 : Value), (.int .i64 0 : Value), (.int .u64 0 : Value), (.bool false : Value))).2.2.2]] W fun e w' => e = .returned (.bool true) ∧ Only W w' [] := (fun W _ => same_c W ⟨0, 0, 0, [], false⟩ (.slice none 0 0) (.slice none 0 0) ⟨none, 0, rfl, fun _ => rfl, fun _ h => by cases h⟩ ⟨none, 0, rfl, fun _ => rfl, fun _ h => by cases h⟩)
            dsimp only at hsame
            have HSAME := Aside0.mk hsame
            have HQ8 := Aside0.mk q8
            have HE8 := Aside0.mk e8
            have HD8 := Aside0.mk d8
            have HDD := Aside0.mk hDd
            obtain ⟨m0, m1, m2, m3, m4, mf0, mf1, mf2, mf3, mf4⟩ := blk5 q7
            obtain ⟨e0, e1, e2, e3, e4, ef0, ef1, ef2, ef3, ef4⟩ := blk5 e7
            have HW8 := Aside0.mk hw8
            have HWM := Aside0.mk hwm
            clear ho58 hw6 hwm hw8 om qm o8 e8 q8 d8 o78 hm8 hO8 hps hm6 ho6 hr7 habs q7 e7 d7 E2 E3 hlo hlost hsame hD hDn hDx hDd hD6
            go_wp2
            rw [← HWM.out, ← HW8.out]
            clear m0 m1 m2 m3 m4 mf0 mf1 mf2 mf3 mf4 e0 e1 e2 e3 e4 ef0 ef1 ef2 ef3 ef4
            have hall : ∀ W, Only w8 W [] → W.cell? ⟨w5.heap.size, 0, none⟩ = (zCells)[0]? ∧ W.cell? ⟨w5.heap.size, 1, none⟩ = (zCells)[1]? ∧ W.cell? ⟨w5.heap.size, 2, none⟩ = (zCells)[2]? ∧ W.cell? ⟨w5.heap.size, 3, none⟩ = (zCells)[3]? ∧ W.cell? ⟨w5.heap.size, 4, none⟩ = (zCells)[4]? ∧ W.cell? ⟨w5.heap.size + 1, 0, none⟩ = some (((.int .i64 0 : Value), (.int .i64 0 : Value), (.int .u64 0 : Value), (.bool false : Value))).1 ∧ W.cell? ⟨w5.heap.size + 1, 1, none⟩ = some (((.int .i64 0 : Value), (.int .i64 0 : Value), (.int .u64 0 : Value), (.bool false : Value))).2.1 ∧ W.cell? ⟨w5.heap.size + 1, 2, none⟩ = some (((.int .i64 0 : Value), (.int .i64 0 : Value), (.int .u64 0 : Value), (.bool false : Value))).2.2.1 ∧ W.cell? ⟨w5.heap.size + 1, 3, none⟩ = some (.slice none 0 0) ∧ W.cell? ⟨w5.heap.size + 1, 4, none⟩ = some (((.int .i64 0 : Value), (.int .i64 0 : Value), (.int .u64 0 : Value), (.bool false : Value))).2.2.2 ∧ W.cell? ⟨bm, 4, none⟩ = some (.int .i64 lost') := fun W hW => by
              obtain ⟨r0, r1, r2, r3, r4, _⟩ := blk5 ((hW.block _ (Array.getElem?_eq_some_iff.1 HD8.out).1 (by simp)).trans HD8.out)
              obtain ⟨s0, s1, s2, s3, s4, _⟩ := blk5 ((hW.block _ (Array.getElem?_eq_some_iff.1 HE8.out).1 (by simp)).trans HE8.out)
              obtain ⟨_, _, _, _, t4, _⟩ := blk5 ((hW.block _ (Array.getElem?_eq_some_iff.1 HQ8.out).1 (by simp)).trans HQ8.out)
              exact ⟨r0, r1, r2, r3, r4, s0, s1, s2, s3, s4, t4⟩
            simp only [zCells, List.getElem?_toArray, List.getElem?_cons_zero, List.getElem?_cons_succ] at hall
            have HALL := Aside0.mk hall
            clear hall
            go_region_held3 (fun W => W.cell? ⟨w5.heap.size, 0, none⟩ = some (.int .i64 0) ∧ W.cell? ⟨w5.heap.size, 1, none⟩ = some (.int .i64 0) ∧ W.cell? ⟨w5.heap.size, 2, none⟩ = some (.int .u64 0) ∧ W.cell? ⟨w5.heap.size, 3, none⟩ = some (.slice none 0 0) ∧ W.cell? ⟨w5.heap.size, 4, none⟩ = some (.bool false) ∧ W.cell? ⟨w5.heap.size + 1, 0, none⟩ = some (.int .i64 0) ∧ W.cell? ⟨w5.heap.size + 1, 1, none⟩ = some (.int .i64 0) ∧ W.cell? ⟨w5.heap.size + 1, 2, none⟩ = some (.int .u64 0) ∧ W.cell? ⟨w5.heap.size + 1, 3, none⟩ = some (.slice none 0 0) ∧ W.cell? ⟨w5.heap.size + 1, 4, none⟩ = some (.bool false) ∧ W.cell? ⟨bm, 4, none⟩ = some (.int .i64 lost'))
              (first | exact HALL.out _ (by (repeat (first | (with_reducible assumption) | (with_reducible exact Only.refl _ _) | (with_reducible refine Only.allocs ?_ _) | (with_reducible refine Only.drews ?_)))))
              (first
                | (go_at_call 25; refine (HSAME.out _ (by (repeat (first | (with_reducible assumption) | (with_reducible exact Only.refl _ _) | (with_reducible refine Only.allocs ?_ _) | (with_reducible refine Only.drews ?_))))).mono ?_; rintro e w9 ⟨rfl, o9⟩; have o89 : Only w8 w9 [] := Only.trans (by (repeat (first | (with_reducible assumption) | (with_reducible exact Only.refl _ _) | (with_reducible refine Only.allocs ?_ _) | (with_reducible refine Only.drews ?_)))) o9 (by simp))
                | (go_at_call 16; refine (HLOST.out _ (by (repeat (first | (with_reducible assumption) | (with_reducible exact Only.refl _ _) | (with_reducible refine Only.allocs ?_ _) | (with_reducible refine Only.drews ?_))))).mono ?_; rintro e w10 ⟨rfl, rfl⟩))
            all_goals go_wp2
            go_loopg [16] 0 (fun gk v16 wq => gk = 0 ∧ v16 = .int .i64 0 ∧ Aside0 (Only w8 wq []))
            case atStart => exact ⟨rfl, rfl, ⟨by (repeat (first | (with_reducible assumption) | (with_reducible exact Only.refl _ _) | (with_reducible refine Only.allocs ?_ _) | (with_reducible refine Only.drews ?_)))⟩⟩
            case round =>
              obtain ⟨rfl, rfl, HQ0⟩ := hrel
              obtain ⟨wz, rfl⟩ : ∃ wz, wz = wr := ⟨_, rfl⟩
              have HPZ := Aside0.mk (HPS.out.quiet HQ0.out)
              obtain ⟨_, _, _, a3, _⟩ := HALL.out wz HQ0.out
              by_cases h5 : (d : Int) % 5 = 4
              · have h5b : ((d : Int) % 5 == 4) = true := by simpa using h5
                clear h5
                obtain ⟨b0, b1, b2, b3, b4, bf0, bf1, bf2, bf3, bf4⟩ := blk5 HPZ.out.pm.cell
                have hfl := flight_c wz p N' K5 HPZ.out.own.at'
                have HFL := Aside0.mk hfl
                clear hfl
                go_wp2_with (first
                  | (go_at_call 15; refine HFL.out.mono ?_; rintro e w12 ⟨R, rfl, hR, hNew, o12⟩; obtain ⟨AR, cR, hvR⟩ := R.val_slice hNew.wf; obtain ⟨r0, r1, r2, r3, r4, rf0, rf1, rf2, rf3, rf4⟩ := blk5 ((HPZ.out.quiet o12).pm.cell); have HVR := Aside0.mk hvR; have HR := Aside0.mk hR; have HNEW := Aside0.mk hNew; have HO12 := Aside0.mk o12; rw [hvR]; clear hR hNew o12 hvR)
                  | (go_at_call 26; fail))
                have hal := all_c w12 (fun k => wz.heap.size ≤ k) (Off K5 bm D) R.val (.slice A7 way'.length c7) (R.ds.map fun d => (d.abs, d.val)) way' HNEW.out.rrow (HPZ.out.quiet HO12.out).pm.rat.way (by rw [List.map_map]; have h1 := HR.out; have h2 := HPZ.out.sim.way; rw [h2] at h1; exact h1) (by have h1 := congrArg List.length HR.out; have h2 := HPZ.out.own.at'.wlen; simp at h1 ⊢; omega)
                rw [HVR.out] at hal
                have hln : R.ds.length ≤ 1024 := by have h1 := congrArg List.length HR.out; have h2 := HPZ.out.own.at'.wlen; simp at h1; omega
                refine hal.mono ?_
                rintro e w13 ⟨rfl, o13⟩
                have hz13 : Aside0 (Zer w13 R) := ⟨HNEW.out.zer.only o13⟩
                have o0 : Aside0 (Only wz w13 []) := ⟨HO12.out.trans o13 (by simp)⟩
                obtain ⟨n, hnR⟩ : ∃ n, n = R.ds.length := ⟨_, rfl⟩
                rw [← hnR] at hln
                rw [← hnR]
                have HNR := Aside0.mk hnR
                clear hal o13 r0 r1 r2 r3 r4 rf0 rf1 rf2 rf3 rf4 b0 b1 b2 b3 b4 bf0 bf1 bf2 bf3 bf4 hnR
                have hln2 : (n : Int) ≤ 1024 := by omega
                go_wp2
                go_loopg [18] n (fun gk v18 wq => ∃ t : Nat, t ≤ n ∧ gk = n - t ∧ v18 = .int .i64 (t : Int) ∧ Aside0 (Only wz wq []) ∧ Aside0 (Zer wq R))
                case atStart => exact ⟨0, Nat.zero_le _, rfl, rfl, o0, hz13⟩
                case round =>
                  obtain ⟨t, ht, rfl, rfl, HQ, HZ⟩ := hrel
                  by_cases htn : t < n
                  · obtain ⟨dt, hdt⟩ : ∃ dt, R.ds[t]? = some dt := ⟨_, List.getElem?_eq_getElem (by rw [← HNR.out]; exact htn)⟩
                    have hdm : dt ∈ R.ds := List.mem_of_getElem? hdt
                    obtain ⟨gR, hgR⟩ : ∃ gR, R.g = some gR := by
                      cases hg : R.g with
                      | none => have := (HNEW.out.wf.nil hg).1; rw [this] at hdm; cases hdm
                      | some g => exact ⟨g, rfl⟩
                    have hdw := HNEW.out.wf.one dt hdm
                    have hAR : AR = some ⟨gR, R.pre.length, none⟩ := by have := HVR.out; simp only [Row.val, hgR] at this; simp only [Value.slice.injEq] at this; exact this.1.symm
                    subst hAR
                    obtain ⟨At, ct, hvt⟩ := dg_sliceQ hdw
                    obtain ⟨_, _, _, x3, _⟩ := Row.at (HZ.out.row gR hgR) t dt hdt
                    rw [hvt] at x3
                    have hbl := hdw.len
                    obtain ⟨nb, hnb⟩ : ∃ nb, nb = dt.b.length := ⟨_, rfl⟩
                    rw [← hnb] at x3 hbl hvt
                    have HNB := Aside0.mk hnb
                    have z5 : (t : Int) < (n : Int) := by omega
                    have z6 : (0 : Int) ≤ (t : Int) := by omega
                    have hbl2 : (nb : Int) ≤ 1212 := by omega
                    have HDM := Aside0.mk (And.intro hdm (And.intro hdt (And.intro hgR hvt)))
                    have HTN := Aside0.mk htn
                    clear hdm hdt hgR hdw hvt htn ht hnb
                    go_wp2
                    obtain ⟨wo, rfl⟩ : ∃ wo, wo = wr := ⟨_, rfl⟩
                    go_loopg [19] nb (fun gk v19 wq => ∃ j : Nat, j ≤ nb ∧ gk = nb - j ∧ v19 = .int .i64 (j : Int) ∧ Aside0 (Only wz wq []) ∧ Aside0 (Zer wq R))
                    case atStart => exact ⟨0, Nat.zero_le _, rfl, rfl, HQ, HZ⟩
                    case round =>
                      obtain ⟨j, hj, rfl, rfl, HQ2, HZ2⟩ := hrel
                      obtain ⟨hdm, hdt, hgR, hvt⟩ := HDM.out
                      obtain ⟨_, _, _, x3', _⟩ := Row.at (HZ2.out.row gR hgR) t dt hdt
                      rw [hvt] at x3'
                      by_cases hjn : j < nb
                      · obtain ⟨gd, hgd⟩ : ∃ gd, dt.g = some gd := by
                          cases hg : dt.g with
                          | none => have := (HNEW.out.wf.one dt hdm).nil hg; have h2 := HNB.out; rw [this] at h2; simp at h2; omega
                          | some g => exact ⟨g, rfl⟩
                        obtain ⟨cur, hc1, hc2⟩ := HZ2.out.bytes dt hdm gd hgd
                        obtain ⟨hne, hge⟩ := HNEW.out.apart hdm hgd
                        have hAt : At = some ⟨gd, 0, none⟩ := by have := hvt; simp only [Dg.val, hgd] at this; simp only [Value.slice.injEq] at this; exact this.1.symm
                        subst hAt
                        have hjc : j < cur.size := by have := HNB.out; omega
                        have hcj : wr.cell? ⟨gd, j, none⟩ = some cur[j] := by rw [Lib.cell_of_heap hc1]; exact Array.getElem?_eq_getElem hjc
                        have hfj : wr.frozen? ⟨gd, j, none⟩ = false := Lib.frozen_of_heap hc1 j
                        have z7 : (j : Int) < (nb : Int) := by omega
                        have z8 : (0 : Int) ≤ (j : Int) := by omega
                        have HZN : Aside0 (Zer (wr.setCell ⟨gd, j, none⟩ (.int .u8 0)) R) := ⟨HZ2.out.set hdm hgd hne j _⟩
                        have HON : Aside0 (Only wz (wr.setCell ⟨gd, j, none⟩ (.int .u8 0)) []) := ⟨HQ2.out.setNew _ hge _⟩
                        have HJN := Aside0.mk hjn
                        clear hdm hdt hgR hvt hgd hc1 hc2 hne hge hjn hj
                        go_wp2
                        go_roundg (nb - (j + 1))
                        case measure => have := HJN.out; omega
                        case rel => exact ⟨j + 1, HJN.out, rfl, by simp, HON, HZN⟩
                      · have hjj : j = nb := by omega
                        subst hjj
                        clear hdm hdt hgR hvt hjn hj
                        go_wp2
                        go_roundg (n - (t + 1))
                        case measure => have := HTN.out; omega
                        case rel => exact ⟨t + 1, HTN.out, rfl, by simp, HQ2, HZ2⟩
                  · have htt : t = n := by omega
                    subst htt
                    clear htn ht
                    have HBK := (HPZ.out.quiet HQ.out).free
                    go_wp2
                    go_roundg (301 - (d + 1))
                    case measure => have := HD.out; omega
                    case rel => exact ⟨d + 1, N', K5, ⟨nodes', sent', way', boxes', lost'⟩, A7, c7, A7', c7', HD.out, HD2.out, rfl, by simp, ⟨HBK⟩⟩
              · have h5b : ((d : Int) % 5 == 4) = false := by simpa using h5
                clear h5
                have HBK := HPZ.out.free
                go_wp2
                go_roundg (301 - (d + 1))
                case measure => have := HD.out; omega
                case rel => exact ⟨d + 1, N', K5, ⟨nodes', sent', way', boxes', lost'⟩, A7, c7, A7', c7', HD.out, HD2.out, rfl, by simp, ⟨HBK⟩⟩
          | some y =>
            go_wp2_with (first
              | (go_at_call 21; refine (HKC.out wr).mono ?_; rintro e w4 ⟨rfl, o4⟩)
              | (go_at_call 22; refine (HDO.out _ (o4.trans (Only.alloc w4 _ []) (by simp))).mono ?_; rintro e w5 ⟨⟨dg, K5, rfl, rfl, hO5, hA5, hk5, hd5⟩, o5⟩; have hq5 := op_kept HP.out.own.at'.lt o4 o5; obtain ⟨y0, y1, y2, y3, y4, y5, y6⟩ := blk7 hq5; have hl5 : w4.heap.size < w5.heap.size := (Array.getElem?_eq_some_iff.1 hq5).1; have HM5 := Aside0.mk ((HP.out.pm.step (o4.trans (Only.alloc w4 _ []) (by simp)) (fun _ h => by cases h) (fun _ h => .inl h) (fun _ h => .inr (.inl h))).step (K' := K5) (D' := dg.items.map (·.1)) o5 (fun _ h => .inl h) (fun k hk => (hk5 k hk).imp id .inr) (fun k hk => (hd5 k hk).imp id .inr)); obtain ⟨n0, n1, n2, n3, n4, nf0, nf1, nf2, nf3, nf4⟩ := blk5 HM5.out.cell; have hb5 : bm < w5.heap.size := (Array.getElem?_eq_some_iff.1 HM5.out.cell).1; have HO5 := Aside0.mk hO5; have HO45 := Aside0.mk (And.intro o4 (And.intro o5 hk5)); have HA5 := Aside0.mk hA5; obtain ⟨A9, c9, hv9⟩ := dg_sliceQ hA5.wf; obtain ⟨nb, hnb⟩ : ∃ nb, nb = dg.b.length := ⟨_, rfl⟩; have hlb := hA5.wf.len; rw [← hnb] at hv9 hlb; have HDL : Aside0 (∀ k ∈ dg.items.map (·.1), k < w5.heap.size) := ⟨hA5.sep.lt⟩; simp only [Dg.cells, hv9]; have HV9 := Aside0.mk hv9; have HNB := Aside0.mk hnb; clear hO5 hk5 o4 o5 hq5 hA5 hd5 hv9 hnb)
              | (go_at_call 24; fail))
            obtain ⟨w6, hw6⟩ : ∃ w6, w6 = (w5.alloc (.cells #[.int .i64 dg.f, .int .i64 dg.t, .int .u64 dg.n, .slice A9 nb c9, .bool dg.sp] 54)).alloc (.cells zCells 54) := ⟨_, rfl⟩
            have o56 : Only w5 w6 [] := by rw [hw6]; exact (Only.alloc w5 _ []).trans (Only.alloc _ _ []) (by simp)
            obtain ⟨_, E2, E3⟩ := two_new w5 (.cells #[.int .i64 dg.f, .int .i64 dg.t, .int .u64 dg.n, .slice A9 nb c9, .bool dg.sp] 54) (.cells zCells 54)
            rw [← hw6] at E2 E3
            have hs6 : w6.heap.size = w5.heap.size + 1 + 1 := by rw [hw6]; simp
            obtain ⟨D, hD⟩ : ∃ D : List Nat, D = (dg.items.map (·.1)) ++ [w5.heap.size, w5.heap.size + 1] := ⟨_, rfl⟩
            have hDn : ∀ k ∈ D, k ∈ (dg.items.map (·.1)) ∨ w5.heap.size ≤ k := fun k hk => by rw [hD, List.mem_append] at hk; exact hk.imp id (fun h => by simp at h; omega)
            have hDx : w5.heap.size + 1 ∈ D := by rw [hD]; simp
            have hDd : ∀ k ∈ (dg.items.map (·.1)), k ∈ D := fun k hk => by rw [hD]; exact List.mem_append_left _ hk
            have hm6 := HM5.out.step (K' := K5) (D' := D) o56 (fun _ h => by cases h) (fun _ h => .inl h) (fun k hk => .inr ((hDn k hk).imp id id))
            have ho6 := HO5.out.quiet o56
            have hD6 : ∀ k ∈ D, k < w6.heap.size := fun k hk => by
              rw [hD, List.mem_append] at hk
              rcases hk with hk | hk
              · exact Nat.lt_of_lt_of_le (HDL.out k hk) o56.size
              · simp at hk; omega
            rw [← hw6]
            refine (HRDO.out w6 K5 D hm6 ho6.only).mono ?_
            rintro e w7 ⟨⟨nodes', sent', way', boxes', lost'⟩, A7, c7, A7', c7', vx, rfl, hr7, habs, o7, hvx⟩
            have habs : Ref0.abs ⟨nodes', sent', way', boxes', lost'⟩ = M1 := habs
            (obtain ⟨v2, hvx0, hb2, _⟩ := hvx; obtain ⟨⟨A2, c2, hv20, _⟩, _⟩ := id hb2; have hv2 : v2 = .slice A2 nb c2 := (by rw [hv20, HNB.out]; rfl); clear hv20; have hvx9 : vx = .agg #[.int .i64 dg.f, .int .i64 dg.t, .int .u64 dg.n, .slice A2 nb c2, .bool dg.sp] := (by rw [hvx0, hv2]; rfl); clear hvx0; rw [hv2] at hb2; subst hvx9; clear hv2)
            have q7 := (o7.block _ (Array.getElem?_eq_some_iff.1 hm6.cell).1 (by simp)).trans hm6.cell
            have e7 := (o7.block _ (Array.getElem?_eq_some_iff.1 E3).1 (by simp)).trans E3
            have d7 := (o7.block _ (Array.getElem?_eq_some_iff.1 E2).1 (by simp)).trans E2
            obtain ⟨wm, hwm⟩ : ∃ wm, wm = ((((w7.setCell ⟨bm, 0, none⟩ (.int .i64 nodes')).setCell ⟨bm, 1, none⟩ (.int .u64 sent')).setCell ⟨bm, 2, none⟩ (.slice A7 way'.length c7)).setCell ⟨bm, 3, none⟩ (.slice A7' boxes'.length c7')).setCell ⟨bm, 4, none⟩ (.int .i64 lost') := ⟨_, rfl⟩
            obtain ⟨w8, hw8⟩ : ∃ w8, w8 = ((((wm.setCell ⟨w5.heap.size + 1, 0, none⟩ (((.int .i64 dg.f : Value), (.int .i64 dg.t : Value), (.int .u64 dg.n : Value), (.bool dg.sp : Value))).1).setCell ⟨w5.heap.size + 1, 1, none⟩ (((.int .i64 dg.f : Value), (.int .i64 dg.t : Value), (.int .u64 dg.n : Value), (.bool dg.sp : Value))).2.1).setCell ⟨w5.heap.size + 1, 2, none⟩ (((.int .i64 dg.f : Value), (.int .i64 dg.t : Value), (.int .u64 dg.n : Value), (.bool dg.sp : Value))).2.2.1).setCell ⟨w5.heap.size + 1, 3, none⟩ (.slice A2 nb c2)).setCell ⟨w5.heap.size + 1, 4, none⟩ (((.int .i64 dg.f : Value), (.int .i64 dg.t : Value), (.int .u64 dg.n : Value), (.bool dg.sp : Value))).2.2.2 := ⟨_, rfl⟩
            dsimp only at hw8
            have om : Only w7 wm [bm] := by rw [hwm]; exact Only.set5 _ _ _ _ _ _ _ _ (by simp)
            have qm := set5_heap q7 (.int .i64 nodes') (.int .u64 sent') (.slice A7 way'.length c7) (.slice A7' boxes'.length c7') (.int .i64 lost')
            rw [← hwm] at qm
            have o8 : Only wm w8 [w5.heap.size + 1] := by rw [hw8]; exact Only.set5 _ _ _ _ _ _ _ _ (by simp)
            have e8 := set5_heap ((om.block _ (Array.getElem?_eq_some_iff.1 e7).1 (by simp; omega)).trans e7) (((.int .i64 dg.f : Value), (.int .i64 dg.t : Value), (.int .u64 dg.n : Value), (.bool dg.sp : Value))).1 (((.int .i64 dg.f : Value), (.int .i64 dg.t : Value), (.int .u64 dg.n : Value), (.bool dg.sp : Value))).2.1 (((.int .i64 dg.f : Value), (.int .i64 dg.t : Value), (.int .u64 dg.n : Value), (.bool dg.sp : Value))).2.2.1 (.slice A2 nb c2) (((.int .i64 dg.f : Value), (.int .i64 dg.t : Value), (.int .u64 dg.n : Value), (.bool dg.sp : Value))).2.2.2
            dsimp only at e8
            rw [← hw8] at e8
            have q8 := (o8.block _ (Array.getElem?_eq_some_iff.1 qm).1 (by simp; omega)).trans qm
            have d8 := (o8.block _ (by have := om.size; have := (Array.getElem?_eq_some_iff.1 d7).1; omega) (by simp)).trans ((om.block _ (Array.getElem?_eq_some_iff.1 d7).1 (by simp; omega)).trans d7)
            have o78 : Only w7 w8 [bm, w5.heap.size + 1] := (om.weaken (ks2 := [bm, w5.heap.size + 1]) (by simp)).trans o8 (by simp)
            have hm8 : PM w8 bm K5 D ⟨nodes', sent', way', boxes', lost'⟩ (.slice A7 way'.length c7) (.slice A7' boxes'.length c7') := hm6.did (fun k hk => ho6.at'.lt k hk) hD6 hDx hr7 o7 o78 q8
            have hk5m : bm ∉ K5 := hm6.offK
            have hO8 : Own w w8 p N' K5 := (ho6.quiet o7).onlys o78 (fun k hk hm => by have := HO5.out.at'.lt k hk; simp at hm; rcases hm with rfl | rfl; exact hk5m hk; omega) (fun k hk => by have := HP.out.lo; have := HO5.out.only.size; simp at hk; omega)
            have hps : PS w w8 p bm N' K5 D ⟨nodes', sent', way', boxes', lost'⟩ (.slice A7 way'.length c7) (.slice A7' boxes'.length c7') (d + 1) := ⟨hO8, hm8, by rw [habs]; exact HSIM.out, by have h1 := HBOX.out; rw [← habs] at h1; have h2 := HP.out.blen; simp [Ref0.abs] at h1 h2 ⊢; omega, by have := HOPS.out; have := HP.out.ops; omega, HP.out.lo⟩
            have HPS := Aside0.mk hps
            have ho58 : Only w5 w8 [bm, w5.heap.size + 1] := ((o56.trans o7 (by simp)).weaken (ks2 := [bm, w5.heap.size + 1]) (by simp)).trans o78 (fun k hk => .inl hk)
            have HO58 := Aside0.mk ho58
            have hlo : N'.lost = lost' := hps.sim.lost
            have hlost : ∀ W, Only w8 W [] → Calls Try.prog 16 #[.pointer (some ⟨p, 0, none⟩)] W fun e w' => e = .returned (.int .i64 lost') ∧ w' = W := fun W hW => by
              have := lost_c W p N' K5 (hO8.quiet hW).at'
              rwa [hlo] at this
            have HLOST := Aside0.mk hlost
            have hsame : ∀ W, Only w8 W [] → Calls Try.prog 25 #[.agg #[.int .i64 dg.f, .int .i64 dg.t, .int .u64 dg.n, .slice A9 nb c9, .bool dg.sp], .agg #[(((.int .i64 dg.f : Value), (.int .i64 dg.t : Value), (.int .u64 dg.n : Value), (.bool dg.sp : Value))).1, (((.int .i64 dg.f : Value), (.int .i64 dg.t : Value), (.int .u64 dg.n : Value), (.bool dg.sp : Value))).2.1, (((.int .i64 dg.f : Value), (.int .i64 dg.t : Value), (.int .u64 dg.n : Value), (.bool dg.sp : Value))).2.2.1, (.slice A2 nb c2), (((.int .i64 dg.f : Value), (.int .i64 dg.t : Value), (.int .u64 dg.n : Value), (.bool dg.sp : Value))).2.2.2]] W fun e w' => e = .returned (.bool true) ∧ Only W w' [] := (fun W hW => by (have hs8 : Sep W dg.items := (HA5.out.sep.only ho58 (fun k hk => by (have h1 := HA5.out.sep.lt k hk; have h2 := HM5.out.offD; simp; exact ⟨fun e => h2 (e ▸ hk), by omega⟩))).only hW (by simp); have h1 : BytesAt W (.slice A9 nb c9) dg.b := (by rw [← HV9.out]; exact Dg.bytes HA5.out.wf hs8.2); have h2 : BytesAt W (.slice A2 nb c2) dg.b := (BytesIn.did (by omega) (fun k hk => ho6.at'.lt k hk) hD6 hDx hb2 o78).only hW; exact same_c W dg.abs _ _ h1 h2))
            dsimp only at hsame
            have HSAME := Aside0.mk hsame
            have HQ8 := Aside0.mk q8
            have HE8 := Aside0.mk e8
            have HD8 := Aside0.mk d8
            have HDD := Aside0.mk hDd
            obtain ⟨m0, m1, m2, m3, m4, mf0, mf1, mf2, mf3, mf4⟩ := blk5 q7
            obtain ⟨e0, e1, e2, e3, e4, ef0, ef1, ef2, ef3, ef4⟩ := blk5 e7
            have HW8 := Aside0.mk hw8
            have HWM := Aside0.mk hwm
            clear ho58 hw6 hwm hw8 om qm o8 e8 q8 d8 o78 hm8 hO8 hps hm6 ho6 hr7 habs q7 e7 d7 E2 E3 hlo hlost hsame hD hDn hDx hDd hD6
            go_wp2
            rw [← HWM.out, ← HW8.out]
            clear m0 m1 m2 m3 m4 mf0 mf1 mf2 mf3 mf4 e0 e1 e2 e3 e4 ef0 ef1 ef2 ef3 ef4
            have hall : ∀ W, Only w8 W [] → W.cell? ⟨w5.heap.size, 0, none⟩ = (#[.int .i64 dg.f, .int .i64 dg.t, .int .u64 dg.n, .slice A9 nb c9, .bool dg.sp])[0]? ∧ W.cell? ⟨w5.heap.size, 1, none⟩ = (#[.int .i64 dg.f, .int .i64 dg.t, .int .u64 dg.n, .slice A9 nb c9, .bool dg.sp])[1]? ∧ W.cell? ⟨w5.heap.size, 2, none⟩ = (#[.int .i64 dg.f, .int .i64 dg.t, .int .u64 dg.n, .slice A9 nb c9, .bool dg.sp])[2]? ∧ W.cell? ⟨w5.heap.size, 3, none⟩ = (#[.int .i64 dg.f, .int .i64 dg.t, .int .u64 dg.n, .slice A9 nb c9, .bool dg.sp])[3]? ∧ W.cell? ⟨w5.heap.size, 4, none⟩ = (#[.int .i64 dg.f, .int .i64 dg.t, .int .u64 dg.n, .slice A9 nb c9, .bool dg.sp])[4]? ∧ W.cell? ⟨w5.heap.size + 1, 0, none⟩ = some (((.int .i64 dg.f : Value), (.int .i64 dg.t : Value), (.int .u64 dg.n : Value), (.bool dg.sp : Value))).1 ∧ W.cell? ⟨w5.heap.size + 1, 1, none⟩ = some (((.int .i64 dg.f : Value), (.int .i64 dg.t : Value), (.int .u64 dg.n : Value), (.bool dg.sp : Value))).2.1 ∧ W.cell? ⟨w5.heap.size + 1, 2, none⟩ = some (((.int .i64 dg.f : Value), (.int .i64 dg.t : Value), (.int .u64 dg.n : Value), (.bool dg.sp : Value))).2.2.1 ∧ W.cell? ⟨w5.heap.size + 1, 3, none⟩ = some (.slice A2 nb c2) ∧ W.cell? ⟨w5.heap.size + 1, 4, none⟩ = some (((.int .i64 dg.f : Value), (.int .i64 dg.t : Value), (.int .u64 dg.n : Value), (.bool dg.sp : Value))).2.2.2 ∧ W.cell? ⟨bm, 4, none⟩ = some (.int .i64 lost') := fun W hW => by
              obtain ⟨r0, r1, r2, r3, r4, _⟩ := blk5 ((hW.block _ (Array.getElem?_eq_some_iff.1 HD8.out).1 (by simp)).trans HD8.out)
              obtain ⟨s0, s1, s2, s3, s4, _⟩ := blk5 ((hW.block _ (Array.getElem?_eq_some_iff.1 HE8.out).1 (by simp)).trans HE8.out)
              obtain ⟨_, _, _, _, t4, _⟩ := blk5 ((hW.block _ (Array.getElem?_eq_some_iff.1 HQ8.out).1 (by simp)).trans HQ8.out)
              exact ⟨r0, r1, r2, r3, r4, s0, s1, s2, s3, s4, t4⟩
            simp only [zCells, List.getElem?_toArray, List.getElem?_cons_zero, List.getElem?_cons_succ] at hall
            have HALL := Aside0.mk hall
            clear hall
            clear hb2
            go_region_held3 (fun W => W.cell? ⟨w5.heap.size, 0, none⟩ = some (.int .i64 dg.f) ∧ W.cell? ⟨w5.heap.size, 1, none⟩ = some (.int .i64 dg.t) ∧ W.cell? ⟨w5.heap.size, 2, none⟩ = some (.int .u64 dg.n) ∧ W.cell? ⟨w5.heap.size, 3, none⟩ = some (.slice A9 nb c9) ∧ W.cell? ⟨w5.heap.size, 4, none⟩ = some (.bool dg.sp) ∧ W.cell? ⟨w5.heap.size + 1, 0, none⟩ = some (.int .i64 dg.f) ∧ W.cell? ⟨w5.heap.size + 1, 1, none⟩ = some (.int .i64 dg.t) ∧ W.cell? ⟨w5.heap.size + 1, 2, none⟩ = some (.int .u64 dg.n) ∧ W.cell? ⟨w5.heap.size + 1, 3, none⟩ = some (.slice A2 nb c2) ∧ W.cell? ⟨w5.heap.size + 1, 4, none⟩ = some (.bool dg.sp) ∧ W.cell? ⟨bm, 4, none⟩ = some (.int .i64 lost'))
              (first | exact HALL.out _ (by (repeat (first | (with_reducible assumption) | (with_reducible exact Only.refl _ _) | (with_reducible refine Only.allocs ?_ _) | (with_reducible refine Only.drews ?_)))))
              (first
                | (go_at_call 25; refine (HSAME.out _ (by (repeat (first | (with_reducible assumption) | (with_reducible exact Only.refl _ _) | (with_reducible refine Only.allocs ?_ _) | (with_reducible refine Only.drews ?_))))).mono ?_; rintro e w9 ⟨rfl, o9⟩; have o89 : Only w8 w9 [] := Only.trans (by (repeat (first | (with_reducible assumption) | (with_reducible exact Only.refl _ _) | (with_reducible refine Only.allocs ?_ _) | (with_reducible refine Only.drews ?_)))) o9 (by simp))
                | (go_at_call 16; refine (HLOST.out _ (by (repeat (first | (with_reducible assumption) | (with_reducible exact Only.refl _ _) | (with_reducible refine Only.allocs ?_ _) | (with_reducible refine Only.drews ?_))))).mono ?_; rintro e w10 ⟨rfl, rfl⟩))
            all_goals go_wp2
            have hs8 : Sep w8 dg.items := HA5.out.sep.only HO58.out (fun k hk => by have h1 := HA5.out.sep.lt k hk; have h2 := HM5.out.offD; simp; exact ⟨fun e => h2 (e ▸ hk), by omega⟩)
            have HS8 := Aside0.mk hs8
            clear hs8
            have hlb2 : (nb : Int) ≤ 1212 := by omega
            go_loopg [16] nb (fun gk v16 wq => ∃ j : Nat, j ≤ nb ∧ gk = nb - j ∧ v16 = .int .i64 (j : Int) ∧ Aside0 (PS w wq p bm N' K5 D ⟨nodes', sent', way', boxes', lost'⟩ (.slice A7 way'.length c7) (.slice A7' boxes'.length c7') (d + 1)) ∧ Aside0 (wq.heap[w5.heap.size]? = some (.cells #[.int .i64 dg.f, .int .i64 dg.t, .int .u64 dg.n, .slice A9 nb c9, .bool dg.sp] 54 (0, 0))) ∧ Aside0 (∀ g, dg.g = some g → ∃ cur : Array Value, wq.heap[g]? = some (.cells cur 5 (0, 0)) ∧ nb ≤ cur.size))
            case atStart =>
              have o8x : ∀ W, Only w8 W [] → PS w W p bm N' K5 D ⟨nodes', sent', way', boxes', lost'⟩ (.slice A7 way'.length c7) (.slice A7' boxes'.length c7') (d + 1) ∧ W.heap[w5.heap.size]? = some (.cells #[.int .i64 dg.f, .int .i64 dg.t, .int .u64 dg.n, .slice A9 nb c9, .bool dg.sp] 54 (0, 0)) ∧ (∀ g, dg.g = some g → ∃ cur : Array Value, W.heap[g]? = some (.cells cur 5 (0, 0)) ∧ nb ≤ cur.size) := fun W hW =>
                ⟨HPS.out.quiet hW, (hW.block _ (Array.getElem?_eq_some_iff.1 HD8.out).1 (by simp)).trans HD8.out, fun g hg => ⟨_, (HS8.out.only hW (by simp)).block (o := dg.obj) (by simp [Dg.items_of hg]), by rw [HNB.out]; simp⟩⟩
              obtain ⟨g1, g2, g3⟩ := o8x _ (by (repeat (first | (with_reducible assumption) | (with_reducible exact Only.refl _ _) | (with_reducible refine Only.allocs ?_ _) | (with_reducible refine Only.drews ?_))))
              exact ⟨0, Nat.zero_le _, rfl, rfl, ⟨g1⟩, ⟨g2⟩, ⟨g3⟩⟩
            case round =>
              obtain ⟨j, hj, rfl, rfl, HPZ, HDZ, HBZ⟩ := hrel
              obtain ⟨_, _, _, a3, _⟩ := blk5 HDZ.out
              by_cases hjn : j < nb
              · obtain ⟨gd, hgd⟩ : ∃ gd, dg.g = some gd := by
                  cases hg : dg.g with
                  | none => have := HA5.out.wf.nil hg; have h2 := HNB.out; rw [this] at h2; simp at h2; omega
                  | some g => exact ⟨g, rfl⟩
                obtain ⟨cur, hc1, hc2⟩ := HBZ.out gd hgd
                have hAt : A9 = some ⟨gd, 0, none⟩ := by have := HV9.out; simp only [Dg.val, hgd] at this; simp only [Value.slice.injEq] at this; exact this.1.symm
                subst hAt
                have hjc : j < cur.size := by omega
                have hcj : wr.cell? ⟨gd, j, none⟩ = some cur[j] := by rw [Lib.cell_of_heap hc1]; exact Array.getElem?_eq_getElem hjc
                have hfj : wr.frozen? ⟨gd, j, none⟩ = false := Lib.frozen_of_heap hc1 j
                have hmem : gd ∈ dg.items.map (·.1) := by simp [Dg.items_of hgd]
                have hlt5 : gd < w5.heap.size := HDL.out gd hmem
                have z7 : (j : Int) < (nb : Int) := by omega
                have z8 : (0 : Int) ≤ (j : Int) := by omega
                have os := Only.setCell wr ⟨gd, j, none⟩ (.int .u8 0)
                have HPN : Aside0 (PS w (wr.setCell ⟨gd, j, none⟩ (.int .u8 0)) p bm N' K5 D ⟨nodes', sent', way', boxes', lost'⟩ (.slice A7 way'.length c7) (.slice A7' boxes'.length c7') (d + 1)) := ⟨HPZ.out.zero os (fun k hk => by rw [List.mem_singleton.1 hk]; exact ⟨HDD.out gd hmem, HA5.out.out gd hmem, HA5.out.new gd hmem⟩)⟩
                have HDN : Aside0 ((wr.setCell ⟨gd, j, none⟩ (.int .u8 0)).heap[w5.heap.size]? = some (.cells #[.int .i64 dg.f, .int .i64 dg.t, .int .u64 dg.n, .slice (some ⟨gd, 0, none⟩) nb c9, .bool dg.sp] 54 (0, 0))) := ⟨(os.block _ (Array.getElem?_eq_some_iff.1 HDZ.out).1 (by simp; omega)).trans HDZ.out⟩
                have HBN : Aside0 (∀ g, dg.g = some g → ∃ cur : Array Value, (wr.setCell ⟨gd, j, none⟩ (.int .u8 0)).heap[g]? = some (.cells cur 5 (0, 0)) ∧ nb ≤ cur.size) := ⟨fun g hg => by
                  rw [hgd] at hg
                  obtain rfl := Option.some.inj hg
                  exact ⟨_, heap_setCell hc1 j _, by simpa using hc2⟩⟩
                have HJN := Aside0.mk hjn
                clear hgd hc1 hc2 hmem os hjn hj
                go_wp2
                go_roundg (nb - (j + 1))
                case measure => have := HJN.out; omega
                case rel => exact ⟨j + 1, HJN.out, rfl, by simp, HPN, HDN, HBN⟩
              · have hjj : j = nb := by omega
                subst hjj
                clear hjn hj
                obtain ⟨wz, rfl⟩ : ∃ wz, wz = wr := ⟨_, rfl⟩
                by_cases h5 : (d : Int) % 5 = 4
                · have h5b : ((d : Int) % 5 == 4) = true := by simpa using h5
                  clear h5
                  obtain ⟨b0, b1, b2, b3, b4, bf0, bf1, bf2, bf3, bf4⟩ := blk5 HPZ.out.pm.cell
                  have hfl := flight_c wz p N' K5 HPZ.out.own.at'
                  have HFL := Aside0.mk hfl
                  clear hfl
                  go_wp2_with (first
                    | (go_at_call 15; refine HFL.out.mono ?_; rintro e w12 ⟨R, rfl, hR, hNew, o12⟩; obtain ⟨AR, cR, hvR⟩ := R.val_slice hNew.wf; obtain ⟨r0, r1, r2, r3, r4, rf0, rf1, rf2, rf3, rf4⟩ := blk5 ((HPZ.out.quiet o12).pm.cell); have HVR := Aside0.mk hvR; have HR := Aside0.mk hR; have HNEW := Aside0.mk hNew; have HO12 := Aside0.mk o12; rw [hvR]; clear hR hNew o12 hvR)
                    | (go_at_call 26; fail))
                  have hal := all_c w12 (fun k => wz.heap.size ≤ k) (Off K5 bm D) R.val (.slice A7 way'.length c7) (R.ds.map fun d => (d.abs, d.val)) way' HNEW.out.rrow (HPZ.out.quiet HO12.out).pm.rat.way (by rw [List.map_map]; have h1 := HR.out; have h2 := HPZ.out.sim.way; rw [h2] at h1; exact h1) (by have h1 := congrArg List.length HR.out; have h2 := HPZ.out.own.at'.wlen; simp at h1 ⊢; omega)
                  rw [HVR.out] at hal
                  have hln : R.ds.length ≤ 1024 := by have h1 := congrArg List.length HR.out; have h2 := HPZ.out.own.at'.wlen; simp at h1; omega
                  refine hal.mono ?_
                  rintro e w13 ⟨rfl, o13⟩
                  have hz13 : Aside0 (Zer w13 R) := ⟨HNEW.out.zer.only o13⟩
                  have o0 : Aside0 (Only wz w13 []) := ⟨HO12.out.trans o13 (by simp)⟩
                  obtain ⟨n, hnR⟩ : ∃ n, n = R.ds.length := ⟨_, rfl⟩
                  rw [← hnR] at hln
                  rw [← hnR]
                  have HNR := Aside0.mk hnR
                  clear hal o13 r0 r1 r2 r3 r4 rf0 rf1 rf2 rf3 rf4 b0 b1 b2 b3 b4 bf0 bf1 bf2 bf3 bf4 hnR
                  have hln2 : (n : Int) ≤ 1024 := by omega
                  go_wp2
                  go_loopg [18] n (fun gk v18 wq => ∃ t : Nat, t ≤ n ∧ gk = n - t ∧ v18 = .int .i64 (t : Int) ∧ Aside0 (Only wz wq []) ∧ Aside0 (Zer wq R))
                  case atStart => exact ⟨0, Nat.zero_le _, rfl, rfl, o0, hz13⟩
                  case round =>
                    obtain ⟨t, ht, rfl, rfl, HQ, HZ⟩ := hrel
                    by_cases htn : t < n
                    · obtain ⟨dt, hdt⟩ : ∃ dt, R.ds[t]? = some dt := ⟨_, List.getElem?_eq_getElem (by rw [← HNR.out]; exact htn)⟩
                      have hdm : dt ∈ R.ds := List.mem_of_getElem? hdt
                      obtain ⟨gR, hgR⟩ : ∃ gR, R.g = some gR := by
                        cases hg : R.g with
                        | none => have := (HNEW.out.wf.nil hg).1; rw [this] at hdm; cases hdm
                        | some g => exact ⟨g, rfl⟩
                      have hdw := HNEW.out.wf.one dt hdm
                      have hAR : AR = some ⟨gR, R.pre.length, none⟩ := by have := HVR.out; simp only [Row.val, hgR] at this; simp only [Value.slice.injEq] at this; exact this.1.symm
                      subst hAR
                      obtain ⟨At, ct, hvt⟩ := dg_sliceQ hdw
                      obtain ⟨_, _, _, x3, _⟩ := Row.at (HZ.out.row gR hgR) t dt hdt
                      rw [hvt] at x3
                      have hbl := hdw.len
                      obtain ⟨nb, hnb⟩ : ∃ nb, nb = dt.b.length := ⟨_, rfl⟩
                      rw [← hnb] at x3 hbl hvt
                      have HNB := Aside0.mk hnb
                      have z5 : (t : Int) < (n : Int) := by omega
                      have z6 : (0 : Int) ≤ (t : Int) := by omega
                      have hbl2 : (nb : Int) ≤ 1212 := by omega
                      have HDM := Aside0.mk (And.intro hdm (And.intro hdt (And.intro hgR hvt)))
                      have HTN := Aside0.mk htn
                      clear hdm hdt hgR hdw hvt htn ht hnb
                      go_wp2
                      obtain ⟨wo, rfl⟩ : ∃ wo, wo = wr := ⟨_, rfl⟩
                      go_loopg [19] nb (fun gk v19 wq => ∃ j : Nat, j ≤ nb ∧ gk = nb - j ∧ v19 = .int .i64 (j : Int) ∧ Aside0 (Only wz wq []) ∧ Aside0 (Zer wq R))
                      case atStart => exact ⟨0, Nat.zero_le _, rfl, rfl, HQ, HZ⟩
                      case round =>
                        obtain ⟨j, hj, rfl, rfl, HQ2, HZ2⟩ := hrel
                        obtain ⟨hdm, hdt, hgR, hvt⟩ := HDM.out
                        obtain ⟨_, _, _, x3', _⟩ := Row.at (HZ2.out.row gR hgR) t dt hdt
                        rw [hvt] at x3'
                        by_cases hjn : j < nb
                        · obtain ⟨gd, hgd⟩ : ∃ gd, dt.g = some gd := by
                            cases hg : dt.g with
                            | none => have := (HNEW.out.wf.one dt hdm).nil hg; have h2 := HNB.out; rw [this] at h2; simp at h2; omega
                            | some g => exact ⟨g, rfl⟩
                          obtain ⟨cur, hc1, hc2⟩ := HZ2.out.bytes dt hdm gd hgd
                          obtain ⟨hne, hge⟩ := HNEW.out.apart hdm hgd
                          have hAt : At = some ⟨gd, 0, none⟩ := by have := hvt; simp only [Dg.val, hgd] at this; simp only [Value.slice.injEq] at this; exact this.1.symm
                          subst hAt
                          have hjc : j < cur.size := by have := HNB.out; omega
                          have hcj : wr.cell? ⟨gd, j, none⟩ = some cur[j] := by rw [Lib.cell_of_heap hc1]; exact Array.getElem?_eq_getElem hjc
                          have hfj : wr.frozen? ⟨gd, j, none⟩ = false := Lib.frozen_of_heap hc1 j
                          have z7 : (j : Int) < (nb : Int) := by omega
                          have z8 : (0 : Int) ≤ (j : Int) := by omega
                          have HZN : Aside0 (Zer (wr.setCell ⟨gd, j, none⟩ (.int .u8 0)) R) := ⟨HZ2.out.set hdm hgd hne j _⟩
                          have HON : Aside0 (Only wz (wr.setCell ⟨gd, j, none⟩ (.int .u8 0)) []) := ⟨HQ2.out.setNew _ hge _⟩
                          have HJN := Aside0.mk hjn
                          clear hdm hdt hgR hvt hgd hc1 hc2 hne hge hjn hj
                          go_wp2
                          go_roundg (nb - (j + 1))
                          case measure => have := HJN.out; omega
                          case rel => exact ⟨j + 1, HJN.out, rfl, by simp, HON, HZN⟩
                        · have hjj : j = nb := by omega
                          subst hjj
                          clear hdm hdt hgR hvt hjn hj
                          go_wp2
                          go_roundg (n - (t + 1))
                          case measure => have := HTN.out; omega
                          case rel => exact ⟨t + 1, HTN.out, rfl, by simp, HQ2, HZ2⟩
                    · have htt : t = n := by omega
                      subst htt
                      clear htn ht
                      have HBK := (HPZ.out.quiet HQ.out).free
                      go_wp2
                      go_roundg (301 - (d + 1))
                      case measure => have := HD.out; omega
                      case rel => exact ⟨d + 1, N', K5, ⟨nodes', sent', way', boxes', lost'⟩, A7, c7, A7', c7', HD.out, HD2.out, rfl, by simp, ⟨HBK⟩⟩
                · have h5b : ((d : Int) % 5 == 4) = false := by simpa using h5
                  clear h5
                  have HBK := HPZ.out.free
                  go_wp2
                  go_roundg (301 - (d + 1))
                  case measure => have := HD.out; omega
                  case rel => exact ⟨d + 1, N', K5, ⟨nodes', sent', way', boxes', lost'⟩, A7, c7, A7', c7', HD.out, HD2.out, rfl, by simp, ⟨HBK⟩⟩
        · have hd3 : d = 300 := by omega
          subst hd3
          have z0 : (300 : Int) < (L.length : Int) := by omega
          clear hlt h300 hd hdl
          obtain ⟨wz, rfl⟩ : ∃ wz, wz = wr := ⟨_, rfl⟩
          have hbl := HP.out.blen
          have hbl2 : boxes.length ≤ 100000 := by have h1 := hbl; dsimp only at h1; omega
          have hcell := HP.out.pm.cell
          have hall : ∀ W, Only wz W [] → W.cell? ⟨bm, 0, none⟩ = some (.int .i64 mn) ∧ W.cell? ⟨bm, 1, none⟩ = some (.int .u64 ms) ∧ W.cell? ⟨bm, 2, none⟩ = some (.slice Aw way.length cw) ∧ W.cell? ⟨bm, 3, none⟩ = some (.slice Ab boxes.length cb) ∧ W.cell? ⟨bm, 4, none⟩ = some (.int .i64 ml) := fun W hW => by
            obtain ⟨t0, t1, t2, t3, t4, _⟩ := blk5 ((hW.block _ (Array.getElem?_eq_some_iff.1 hcell).1 (by simp)).trans hcell)
            exact ⟨t0, t1, t2, t3, t4⟩
          have HALL := Aside0.mk hall
          have hbx : ∀ W k, Only wz W [] → -1 ≤ k ∧ k ≤ 66 → Calls Try.prog 19 #[.pointer (some ⟨p, 0, none⟩), .int .i64 k] W fun e w' => e = .returned (.int .i64 (cntT k boxes)) ∧ w' = W := fun W k hW hk => by
            have h1 := box_c W p N K (HP.out.own.quiet hW).at' k (WalkArith.wf_i64 (by omega))
            have h2 : (N.box k).length = cntT k boxes := by rw [HP.out.sim.box k]; exact cntB_map k boxes
            rwa [h2] at h1
          have HBX := Aside0.mk hbx
          have hrb : ∀ W k, Only wz W [] → Calls Try.prog 27 #[.agg #[.int .i64 mn, .int .u64 ms, .slice Aw way.length cw, .slice Ab boxes.length cb, .int .i64 ml], .int .i64 k] W fun e w' => e = .returned (.int .i64 (cntT k boxes)) ∧ Only W w' [] := fun W k hW => rbox_c W _ ⟨mn, ms, way, boxes, ml⟩ (.slice Aw way.length cw) (.slice Ab boxes.length cb) k (HP.out.quiet hW).pm.rat.boxes hbl2
          have HRB := Aside0.mk hrb
          have hfl : ∀ W, Only wz W [] → _ := fun W hW => flight_c W p N K (HP.out.own.quiet hW).at'
          have HFL := Aside0.mk hfl
          clear hbl hbl2 hcell hall hbx hrb hfl
          go_wp2
          go_loopg [20] 67 (fun gk v20 wq => ∃ (j : Nat) (kk : Int), j ≤ 67 ∧ gk = 67 - j ∧ v20 = .int .i64 kk ∧ -1 ≤ kk ∧ kk ≤ 66 ∧ Aside0 (kk = (j : Int) - 1) ∧ Aside0 (Only wz wq []))
          case atStart => exact ⟨0, -1, by omega, rfl, rfl, by omega, by omega, ⟨rfl⟩, ⟨Only.refl _ _⟩⟩
          case round =>
            obtain ⟨j, kk, hj, rfl, rfl, hk0, hk1, HKJ, HQ⟩ := hrel
            by_cases h66 : kk ≤ 65
            · have o0 := HQ.out
              obtain ⟨cn, hcn⟩ : ∃ cn, cn = cntT kk boxes := ⟨_, rfl⟩
              have hb1 := fun W (hW : Only wz W []) => HBX.out W kk hW ⟨hk0, by omega⟩
              have hb2 := fun W (hW : Only wz W []) => HRB.out W kk hW
              rw [← hcn] at hb1 hb2
              have HB1 := Aside0.mk hb1
              have HB2 := Aside0.mk hb2
              clear hb1 hb2 hcn
              go_wp2
              go_region_held3 (fun W => W.cell? ⟨bm, 0, none⟩ = some (.int .i64 mn) ∧ W.cell? ⟨bm, 1, none⟩ = some (.int .u64 ms) ∧ W.cell? ⟨bm, 2, none⟩ = some (.slice Aw way.length cw) ∧ W.cell? ⟨bm, 3, none⟩ = some (.slice Ab boxes.length cb) ∧ W.cell? ⟨bm, 4, none⟩ = some (.int .i64 ml))
                (first | exact HALL.out _ (by (repeat (first | (with_reducible assumption) | (with_reducible exact Only.refl _ _) | (with_reducible refine Only.allocs ?_ _) | (with_reducible refine Only.drews ?_)))))
                (first
                  | (go_at_call 19; refine (HB1.out _ (by (repeat (first | (with_reducible assumption) | (with_reducible exact Only.refl _ _) | (with_reducible refine Only.allocs ?_ _) | (with_reducible refine Only.drews ?_))))).mono ?_; rintro e w10 ⟨rfl, rfl⟩)
                  | (go_at_call 27; refine (HB2.out _ (by (repeat (first | (with_reducible assumption) | (with_reducible exact Only.refl _ _) | (with_reducible refine Only.allocs ?_ _) | (with_reducible refine Only.drews ?_))))).mono ?_; rintro e w9 ⟨rfl, o9⟩; have o89 : Only wz w9 [] := Only.trans (by (repeat (first | (with_reducible assumption) | (with_reducible exact Only.refl _ _) | (with_reducible refine Only.allocs ?_ _) | (with_reducible refine Only.drews ?_)))) o9 (by simp)))
              all_goals go_wp2
              all_goals (
                go_roundg (67 - (j + 1))
                case measure => have := HKJ.out; omega
                case rel => exact ⟨j + 1, _, by have := HKJ.out; omega, rfl, rfl, by omega, by omega, ⟨by have := HKJ.out; omega⟩, ⟨by (repeat (first | (with_reducible assumption) | (with_reducible exact Only.refl _ _) | (with_reducible refine Only.allocs ?_ _) | (with_reducible refine Only.drews ?_)))⟩⟩)
            · have hkk : kk = 66 := by omega
              subst hkk
              clear h66 hk0 hk1
              have o0 := HQ.out
              go_wp2
              go_region_held3 (fun W => W.cell? ⟨bm, 0, none⟩ = some (.int .i64 mn) ∧ W.cell? ⟨bm, 1, none⟩ = some (.int .u64 ms) ∧ W.cell? ⟨bm, 2, none⟩ = some (.slice Aw way.length cw) ∧ W.cell? ⟨bm, 3, none⟩ = some (.slice Ab boxes.length cb) ∧ W.cell? ⟨bm, 4, none⟩ = some (.int .i64 ml))
                (first | exact HALL.out _ (by (repeat (first | (with_reducible assumption) | (with_reducible exact Only.refl _ _) | (with_reducible refine Only.allocs ?_ _) | (with_reducible refine Only.drews ?_)))))
                (first
                  | (go_at_call 15; refine (HFL.out _ (by (repeat (first | (with_reducible assumption) | (with_reducible exact Only.refl _ _) | (with_reducible refine Only.allocs ?_ _) | (with_reducible refine Only.drews ?_))))).mono ?_; rintro e w12 ⟨R, rfl, hR, hNew, o12⟩; have o012 : Only wz w12 [] := Only.trans (by (repeat (first | (with_reducible assumption) | (with_reducible exact Only.refl _ _) | (with_reducible refine Only.allocs ?_ _) | (with_reducible refine Only.drews ?_)))) o12 (by simp); obtain ⟨AR, cR, hvR⟩ := R.val_slice hNew.wf; have HVR := Aside0.mk hvR; have HR := Aside0.mk hR; have HNEW := Aside0.mk hNew; have hal := all_c w12 (fun k => _ ≤ k) (Off K bm []) R.val (.slice Aw way.length cw) (R.ds.map fun d => (d.abs, d.val)) way hNew.rrow (HP.out.quiet o012).pm.rat.way (by rw [List.map_map]; have h2 := HP.out.sim.way; rw [h2] at hR; exact hR) (by have h1 := congrArg List.length hR; have h2 := HP.out.own.at'.wlen; simp at h1 ⊢; omega); rw [hvR] at hal; have HAL := Aside0.mk hal; rw [hvR]; clear hR hNew o12 hvR hal)
                  | (go_at_call 26; refine HAL.out.mono ?_; rintro e w13 ⟨rfl, o13⟩; have o013 : Only wz w13 [] := o012.trans o13 (by simp)))
              all_goals go_wp2
              all_goals go_ret
              all_goals exact ⟨rfl, HP.out.own.only.trans (ks2 := []) (by (repeat (first | (with_reducible assumption) | (with_reducible exact Only.refl _ _) | (with_reducible refine Only.allocs ?_ _) | (with_reducible refine Only.drews ?_)))) (by simp)⟩
      · have hd3 : d = L.length := by omega
        subst hd3
        clear hlt hdl
        obtain ⟨wz, rfl⟩ : ∃ wz, wz = wr := ⟨_, rfl⟩
        have hbl := HP.out.blen
        have hbl2 : boxes.length ≤ 100000 := by have h1 := hbl; dsimp only at h1; omega
        have hcell := HP.out.pm.cell
        have hall : ∀ W, Only wz W [] → W.cell? ⟨bm, 0, none⟩ = some (.int .i64 mn) ∧ W.cell? ⟨bm, 1, none⟩ = some (.int .u64 ms) ∧ W.cell? ⟨bm, 2, none⟩ = some (.slice Aw way.length cw) ∧ W.cell? ⟨bm, 3, none⟩ = some (.slice Ab boxes.length cb) ∧ W.cell? ⟨bm, 4, none⟩ = some (.int .i64 ml) := fun W hW => by
          obtain ⟨t0, t1, t2, t3, t4, _⟩ := blk5 ((hW.block _ (Array.getElem?_eq_some_iff.1 hcell).1 (by simp)).trans hcell)
          exact ⟨t0, t1, t2, t3, t4⟩
        have HALL := Aside0.mk hall
        have hbx : ∀ W k, Only wz W [] → -1 ≤ k ∧ k ≤ 66 → Calls Try.prog 19 #[.pointer (some ⟨p, 0, none⟩), .int .i64 k] W fun e w' => e = .returned (.int .i64 (cntT k boxes)) ∧ w' = W := fun W k hW hk => by
          have h1 := box_c W p N K (HP.out.own.quiet hW).at' k (WalkArith.wf_i64 (by omega))
          have h2 : (N.box k).length = cntT k boxes := by rw [HP.out.sim.box k]; exact cntB_map k boxes
          rwa [h2] at h1
        have HBX := Aside0.mk hbx
        have hrb : ∀ W k, Only wz W [] → Calls Try.prog 27 #[.agg #[.int .i64 mn, .int .u64 ms, .slice Aw way.length cw, .slice Ab boxes.length cb, .int .i64 ml], .int .i64 k] W fun e w' => e = .returned (.int .i64 (cntT k boxes)) ∧ Only W w' [] := fun W k hW => rbox_c W _ ⟨mn, ms, way, boxes, ml⟩ (.slice Aw way.length cw) (.slice Ab boxes.length cb) k (HP.out.quiet hW).pm.rat.boxes hbl2
        have HRB := Aside0.mk hrb
        have hfl : ∀ W, Only wz W [] → _ := fun W hW => flight_c W p N K (HP.out.own.quiet hW).at'
        have HFL := Aside0.mk hfl
        clear hbl hbl2 hcell hall hbx hrb hfl
        go_wp2
        go_loopg [20] 67 (fun gk v20 wq => ∃ (j : Nat) (kk : Int), j ≤ 67 ∧ gk = 67 - j ∧ v20 = .int .i64 kk ∧ -1 ≤ kk ∧ kk ≤ 66 ∧ Aside0 (kk = (j : Int) - 1) ∧ Aside0 (Only wz wq []))
        case atStart => exact ⟨0, -1, by omega, rfl, rfl, by omega, by omega, ⟨rfl⟩, ⟨Only.refl _ _⟩⟩
        case round =>
          obtain ⟨j, kk, hj, rfl, rfl, hk0, hk1, HKJ, HQ⟩ := hrel
          by_cases h66 : kk ≤ 65
          · have o0 := HQ.out
            obtain ⟨cn, hcn⟩ : ∃ cn, cn = cntT kk boxes := ⟨_, rfl⟩
            have hb1 := fun W (hW : Only wz W []) => HBX.out W kk hW ⟨hk0, by omega⟩
            have hb2 := fun W (hW : Only wz W []) => HRB.out W kk hW
            rw [← hcn] at hb1 hb2
            have HB1 := Aside0.mk hb1
            have HB2 := Aside0.mk hb2
            clear hb1 hb2 hcn
            go_wp2
            go_region_held3 (fun W => W.cell? ⟨bm, 0, none⟩ = some (.int .i64 mn) ∧ W.cell? ⟨bm, 1, none⟩ = some (.int .u64 ms) ∧ W.cell? ⟨bm, 2, none⟩ = some (.slice Aw way.length cw) ∧ W.cell? ⟨bm, 3, none⟩ = some (.slice Ab boxes.length cb) ∧ W.cell? ⟨bm, 4, none⟩ = some (.int .i64 ml))
              (first | exact HALL.out _ (by (repeat (first | (with_reducible assumption) | (with_reducible exact Only.refl _ _) | (with_reducible refine Only.allocs ?_ _) | (with_reducible refine Only.drews ?_)))))
              (first
                | (go_at_call 19; refine (HB1.out _ (by (repeat (first | (with_reducible assumption) | (with_reducible exact Only.refl _ _) | (with_reducible refine Only.allocs ?_ _) | (with_reducible refine Only.drews ?_))))).mono ?_; rintro e w10 ⟨rfl, rfl⟩)
                | (go_at_call 27; refine (HB2.out _ (by (repeat (first | (with_reducible assumption) | (with_reducible exact Only.refl _ _) | (with_reducible refine Only.allocs ?_ _) | (with_reducible refine Only.drews ?_))))).mono ?_; rintro e w9 ⟨rfl, o9⟩; have o89 : Only wz w9 [] := Only.trans (by (repeat (first | (with_reducible assumption) | (with_reducible exact Only.refl _ _) | (with_reducible refine Only.allocs ?_ _) | (with_reducible refine Only.drews ?_)))) o9 (by simp)))
            all_goals go_wp2
            all_goals (
              go_roundg (67 - (j + 1))
              case measure => have := HKJ.out; omega
              case rel => exact ⟨j + 1, _, by have := HKJ.out; omega, rfl, rfl, by omega, by omega, ⟨by have := HKJ.out; omega⟩, ⟨by (repeat (first | (with_reducible assumption) | (with_reducible exact Only.refl _ _) | (with_reducible refine Only.allocs ?_ _) | (with_reducible refine Only.drews ?_)))⟩⟩)
          · have hkk : kk = 66 := by omega
            subst hkk
            clear h66 hk0 hk1
            have o0 := HQ.out
            go_wp2
            go_region_held3 (fun W => W.cell? ⟨bm, 0, none⟩ = some (.int .i64 mn) ∧ W.cell? ⟨bm, 1, none⟩ = some (.int .u64 ms) ∧ W.cell? ⟨bm, 2, none⟩ = some (.slice Aw way.length cw) ∧ W.cell? ⟨bm, 3, none⟩ = some (.slice Ab boxes.length cb) ∧ W.cell? ⟨bm, 4, none⟩ = some (.int .i64 ml))
              (first | exact HALL.out _ (by (repeat (first | (with_reducible assumption) | (with_reducible exact Only.refl _ _) | (with_reducible refine Only.allocs ?_ _) | (with_reducible refine Only.drews ?_)))))
              (first
                | (go_at_call 15; refine (HFL.out _ (by (repeat (first | (with_reducible assumption) | (with_reducible exact Only.refl _ _) | (with_reducible refine Only.allocs ?_ _) | (with_reducible refine Only.drews ?_))))).mono ?_; rintro e w12 ⟨R, rfl, hR, hNew, o12⟩; have o012 : Only wz w12 [] := Only.trans (by (repeat (first | (with_reducible assumption) | (with_reducible exact Only.refl _ _) | (with_reducible refine Only.allocs ?_ _) | (with_reducible refine Only.drews ?_)))) o12 (by simp); obtain ⟨AR, cR, hvR⟩ := R.val_slice hNew.wf; have HVR := Aside0.mk hvR; have HR := Aside0.mk hR; have HNEW := Aside0.mk hNew; have hal := all_c w12 (fun k => _ ≤ k) (Off K bm []) R.val (.slice Aw way.length cw) (R.ds.map fun d => (d.abs, d.val)) way hNew.rrow (HP.out.quiet o012).pm.rat.way (by rw [List.map_map]; have h2 := HP.out.sim.way; rw [h2] at hR; exact hR) (by have h1 := congrArg List.length hR; have h2 := HP.out.own.at'.wlen; simp at h1 ⊢; omega); rw [hvR] at hal; have HAL := Aside0.mk hal; rw [hvR]; clear hR hNew o12 hvR hal)
                | (go_at_call 26; refine HAL.out.mono ?_; rintro e w13 ⟨rfl, o13⟩; have o013 : Only wz w13 [] := o012.trans o13 (by simp)))
            all_goals go_wp2
            all_goals go_ret
            all_goals exact ⟨rfl, HP.out.own.only.trans (ks2 := []) (by (repeat (first | (with_reducible assumption) | (with_reducible exact Only.refl _ _) | (with_reducible refine Only.allocs ?_ _) | (with_reducible refine Only.drews ?_)))) (by simp)⟩
namespace dgramPlays
open Go.ChangeAt
theorem own : ownKnob Try.prog.godebug = none := by kernel_rfl
theorem laidOut : laidOutB Try.prog = true := by kernel_rfl
set_option maxRecDepth 100000 in
theorem lifted (os : Os) (started : os.Started) (H : Type) (enc : TypeId × Value → H) :
    ReturnsInHanded {} Try.checked os 6 .any (Rows.dgramPlaysSpec.pre6 enc Try.prog Try.f6 Rows.dgramPlaysRow.domain false) (Rows.dgramPlaysSpec.post enc Try.prog Try.f6 false true false false) := by
  refine returnsInHanded_of_change_sized (C := Try.checked) own started (by kernel_rfl) Try.func6
    (ChangeSpec.witness6 (enc := enc) (C := Try.checked) false ⟨#[], #[.int .i64 0, .slice none 0 0], []⟩ 8 (by kernel_rfl) (by kernel_rfl) (by kernel_rfl) (by kernel_rfl)) ?_
  intro W base args ds gs before hval0 hW hcnd hsz _
  have hval : ∀ (j : Nat) t v, Try.f6.params[j]? = some t → args[j]? = some v → Value.okWide Try.prog W .any base t v := hval0
  have hW' := hW
  obtain ⟨p, q, hA0, hV, rfl, hfz, hnd⟩ := hW
  have hA : DataW.TrodAll enc Try.prog W 0 (fun _ => true) true Try.f6.params.toList args.toList ds p := hA0
  rw [Try.params6] at hA hval hsz
  obtain ⟨v0, vs0, d0, ds0, p0, q0, hargs, rfl, rfl, h0, r0⟩ := trodAll_cons hA
  obtain ⟨v1, vs1, d1, ds1, p1, q1, rfl, rfl, rfl, h1, r1⟩ := trodAll_cons r0
  obtain ⟨rfl, rfl, rfl⟩ := trodAll_nil r1
  obtain rfl : args = #[v0, v1] := by cases args; simp_all
  obtain ⟨rfl, rfl⟩ := trodVars_none hV
  obtain ⟨a0, rfl, rfl, rfl, w0⟩ := open_int Try.underlying3 (hval 0 3 v0 rfl rfl) h0
  have h1k := h1
  have hlt1 : ∀ x ∈ p1, x.block < W.heap.size := fun x hx => by simpa using hW'.lt x (by simp [hx])
  obtain ⟨aa, ll, cc, rfl⟩ := okWide_slice Try.underlying47 (hval 1 47 v1 rfl rfl)
  obtain ⟨fuel, hf⟩ := h1
  obtain ⟨A, L, c, hv, hS⟩ := open_script hf (fun n hn => by
    have hall := List.all_eq_true.1 hsz n (DataW.weights_mem_each (j := 1) (t := 47) rfl rfl n hn)
    have hr := reachBytes_lt
    have : n ≤ reachBytes := by simpa using hall
    omega)
  rw [hv] at hW' h1k ⊢
  clear hA0 hval0
  have hwalk : Calls Try.prog 6 #[.int .i64 a0, .slice A L.length c] W fun e w' => e = .returned (.bool true) ∧ Only W w' [] := by
    by_cases hm : 1 ≤ a0 ∧ a0 ≤ 64
    · exact plays_walk a0 A L c W hm hS
    · exact plays_bad a0 A L c W hm
  refine hwalk.mono fun e W' ⟨he, ho⟩ => ?_
  subst he
  have bel : Below W.heap.size W W' := ho.below (by simp) (Nat.le_refl _)
  simp only [List.append_nil] at hW'
  exact ⟨_, rfl, _, _, _, [], _, [], hW', trodAll_mk1 (shut_bool Try.underlying4 _), (trodAll_cons_mk (shut_int Try.underlying3 w0) (trodAll_cons_mk (Below.trod laidOut (by kernel_rfl) (of_decide_eq_true (by kernel_rfl)) h1k bel hlt1) trodAll_mk0)), rfl, bel.frame _, fun h => by cases h⟩
theorem over : Rows.dgramPlaysRow.holds Try.pinned (OpenSpec.ofChange Rows.dgramPlaysSpec) :=
  OpenClaim.holds_of_wide 6 Try.f6 rfl rfl rfl rfl rfl rfl rfl ⟨rfl, rfl, rfl, rfl, rfl⟩ rfl rfl rfl rfl rfl (by kernel_rfl) Try.func6 (by kernel_rfl)
    (of_decide_eq_true (by kernel_rfl)) (by unfold Func.isWrapper; first | (rw [if_pos (by decide +kernel)]; kernel_rfl) | (rw [if_neg (by decide +kernel)]; exact ⟨rfl, rfl⟩))
    (fun os started H enc _ => lifted os started H enc)
end dgramPlays
theorem dgramPlays_holds : Rows.DgramPlaysSaid := dgramPlays.over
#print axioms dgramPlays_holds
end Go.Proofs.Ytehgneiiajpgpaa
