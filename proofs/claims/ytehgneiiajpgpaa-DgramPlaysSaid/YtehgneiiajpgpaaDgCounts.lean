/- DgramCounts: what was sent and twinned is in flight, in a box, taken, or lost. No condition. -/
import Derived.Test.YtehgneiiajpgpaaDgZ
import Derived.Test.YtehgneiiajpgpaaDgFull
namespace Go.Proofs.Ytehgneiiajpgpaa
open Go.RowKit Go.ChangeShapes Go.WideShapes
set_option linter.all false
set_option maxHeartbeats 4000000
set_option maxRecDepth 100000

theorem ScrAt.cells {w wr : World} {A : Option Addr} {L : List SOp} (h : ScrAt w A L) (ho : Only w wr []) {i : Nat} {s : SOp} (hs : L[i]? = some s) :
    ∃ g off, A = some ⟨g, off, none⟩ ∧ wr.cell? ⟨g, off + i * 7, none⟩ = some (.int .i64 s.o.kd) ∧ wr.cell? ⟨g, off + i * 7 + 1, none⟩ = some (.int .i64 s.o.f) ∧ wr.cell? ⟨g, off + i * 7 + 2, none⟩ = some (.int .i64 s.o.t) ∧
      wr.cell? ⟨g, off + i * 7 + 3, none⟩ = some (.int .i64 s.o.i) ∧ wr.cell? ⟨g, off + i * 7 + 4, none⟩ = some (.int .i64 s.o.at') ∧ wr.cell? ⟨g, off + i * 7 + 5, none⟩ = some (.int .u32 s.o.m) ∧ wr.cell? ⟨g, off + i * 7 + 6, none⟩ = some (.slice s.A s.b.length s.c) ∧
      OpAt w s.o s.A s.c s.b ∧ s.b.length ≤ 140737488355328 := by
  obtain ⟨g, off, rfl, hc, h1, h2⟩ := h.at' i s hs
  have hk : ∀ j u, (opCells s.o s.A s.b.length s.c)[j]? = some u → wr.cell? ⟨g, off + i * 7 + j, none⟩ = some u := fun j u hj => by
    have := hc j u hj
    exact (World.cell?_of_block (ho.block _ (World.block_lt_of_cell? _ _ this) (by simp))).trans this
  exact ⟨g, off, rfl, hk 0 _ rfl, hk 1 _ rfl, hk 2 _ rfl, hk 3 _ rfl, hk 4 _ rfl, hk 5 _ rfl, hk 6 _ rfl, h1, h2⟩
theorem OpAt.mono {w w' : World} {o : Op0} {A : Option Addr} {c : Nat} {b : List Int} (h : OpAt w o A c b) (ho : Only w w' []) : OpAt w' o A c b :=
  { h with bytes := h.bytes.only ho, old := fun a ha hb => Nat.lt_of_lt_of_le (h.old a ha hb) ho.size }
theorem ScrAt.only {w w' : World} {A : Option Addr} {L : List SOp} (h : ScrAt w A L) (ho : Only w w' []) : ScrAt w' A L :=
  ⟨fun i s hs => by
    obtain ⟨g, off, rfl, hc, h1, h2⟩ := h.at' i s hs
    refine ⟨g, off, rfl, fun j u hj => ?_, h1.mono ho, h2⟩
    have := hc j u hj
    exact (World.cell?_of_block (ho.block _ (World.block_lt_of_cell? _ _ this) (by simp))).trans this, h.len⟩
theorem kind0_kd (o : Op0) : 0 ≤ (kind0 o).kd ∧ (kind0 o).kd ≤ 6 := by
  unfold kind0
  split
  · exact ⟨(by decide : (0 : Int) ≤ 6), (by decide : (6 : Int) ≤ 6)⟩
  · omega
theorem kind0_m (o : Op0) : (kind0 o).m = o.m := by unfold kind0; split <;> rfl
/-- The call's own copy of the operation, behind the call. -/
theorem op_kept {wr w4 w5 : World} {K : List Nat} {cs : Array Value} {t : TypeId} (hK : ∀ k ∈ K, k < wr.heap.size) (o4 : Only wr w4 []) (o5 : Only (w4.alloc (.cells cs t)) w5 K) : w5.heap[w4.heap.size]? = some (.cells cs t (0, 0)) := by
  rw [o5.block _ (by simp) (fun h => by have := hK _ h; have := o4.size; omega)]
  exact heap_alloc_new w4 _
theorem keysTo_succ (j : Nat) : keysTo (j + 1) = keysTo j ++ [(j : Int) + 1] := by simp [keysTo, List.range_succ]
theorem sumL_snoc (f : Int → List D0) (l : List Int) (k : Int) : sumL f (l ++ [k]) = sumL f l + (f k).length := by simp [sumL]
theorem sumL_le {f : Int → List D0} (h : ∀ k, (f k).length ≤ 64) : ∀ j : Nat, sumL f (keysTo j) ≤ 64 * j
  | 0 => by simp [sumL, keysTo]
  | j + 1 => by
    have := sumL_le h j
    have := h ((j : Int) + 1)
    rw [keysTo_succ, sumL_snoc]
    omega
theorem counts_bad (nodes : Int) (A : Option Addr) (L : List SOp) (c : Nat) (w : World) (hn : ¬ (1 ≤ nodes ∧ nodes ≤ 64)) :
    Calls Try.prog 7 #[.int .i64 nodes, .slice A L.length c] w fun e w' => e = .returned (.bool true) ∧ Only w w' [] := by
  go_enter Try.func7, Try.ntmps7
  go_wp2_with (first
    | (go_at_call 12; refine (alive_c w).mono ?_; rintro e w1 ⟨rfl, o1⟩)
    | (go_at_call 13; refine (new_bad w1 nodes hn).mono ?_; rintro e w2 ⟨rfl, rfl⟩))
  go_ret
  exact ⟨rfl, o1⟩
def N4 (nodes : Int) : Net0 := ⟨nodes, 0, [], fun _ => [], 0, 0⟩
theorem N4_cnt {nodes : Int} (hn : 1 ≤ nodes ∧ nodes ≤ 64) : Cnt (N4 nodes) 0 0 := by
  have h0 : ∀ l : List Int, sumL (fun _ => []) l = 0 := by
    intro l
    induction l with
    | nil => rfl
    | cons a l ih => simp only [sumL, List.map_cons, List.sum_cons] at ih ⊢; simpa using ih
  have : boxSum (N4 nodes) = 0 := h0 _
  exact ⟨hn, Int.le_refl _, by rw [this]; rfl, Int.le_refl _, (fun x h => by cases h), Nat.le_refl _⟩
theorem put0_nodes (N : Net0) (d : D0) : (put0 N d).nodes = N.nodes := by unfold put0; split <;> rfl
theorem do0_nodes (N : Net0) (o : Op0) (b : List Int) : (do0 N o b).1.nodes = N.nodes := by
  unfold do0
  split
  · unfold send0
    split
    · rfl
    · split
      · rfl
      · exact put0_nodes _ _
  · split
    · unfold deliver0
      split
      · rfl
      · split <;> rfl
    · split
      · unfold drop0
        split <;> rfl
      · split
        · unfold twin0
          split
          · rfl
          · exact put0_nodes _ _
        · split
          · unfold spoil0
            split
            · rfl
            · split
              · rfl
              · split <;> rfl
          · split
            · unfold take0
              split
              · rfl
              · split <;> rfl
            · unfold wipe0
              split <;> rfl
theorem counts_walk (nodes : Int) (A : Option Addr) (L : List SOp) (c : Nat) (w : World) (hn : 1 ≤ nodes ∧ nodes ≤ 64) (hL : ScrAt w A L) :
    Calls Try.prog 7 #[.int .i64 nodes, .slice A L.length c] w fun e w' => e = .returned (.bool true) ∧ Only w w' [] := by
  have hl := hL.len
  have hm : maxLen = 9223372036854775807 := rfl
  have hl2 : (L.length : Int) ≤ 9223372036854775807 := by omega
  have HL := Aside0.mk hL
  clear hl hm
  go_enter Try.func7, Try.ntmps7
  go_wp2_with (first
    | (go_at_call 12; refine (alive_c w).mono ?_; rintro e w1 ⟨rfl, o1⟩)
    | (go_at_call 13; refine (new_c w1 nodes hn).mono ?_; rintro e w2 ⟨p, K0, rfl, hN0, hK0, o2⟩; have HO0 := Aside0.mk (Own.mk hN0 (fun k hk => Nat.le_trans o1.size (hK0 k hk)) (o1.trans o2 (by simp))); clear hN0 hK0 o1 o2)
    | (go_at_call 20; refine (long_c w2 A L c (HL.out.only HO0.out.only)).mono ?_; rintro e w3 ⟨bb, rfl, rfl⟩))
  · go_ret
    exact ⟨rfl, HO0.out.only⟩
  · have hbb : bb = false := by first | assumption | simpa using ‹¬ bb = true›
    subst hbb
    go_loopg [7, 8] 301 (fun gk v7 v8 wr => ∃ (d : Nat) (all : Int) (N : Net0) (K : List Nat), d ≤ 300 ∧ d ≤ L.length ∧ gk = 301 - d ∧ v8 = .int .i64 (d : Int) ∧ v7 = .int .i64 all ∧ Aside0 (Own w wr p N K) ∧ Aside0 (Cnt N all d) ∧ Aside0 (N.nodes = nodes))
    case atStart => exact ⟨0, 0, N4 nodes, K0, by omega, by omega, rfl, rfl, rfl, HO0, ⟨N4_cnt hn⟩, ⟨rfl⟩⟩
    case round =>
      obtain ⟨d, all, N, K, hd, hdl, rfl, rfl, rfl, HN, HC, HE⟩ := hrel
      by_cases hlt : d < L.length
      · by_cases h300 : d < 300
        · obtain ⟨x, hx⟩ : ∃ x, L[d]? = some x := ⟨_, List.getElem?_eq_getElem hlt⟩
          obtain ⟨g, off, rfl, c0, c1, c2, c3, c4, c5, c6, hop, hb⟩ := HL.out.cells HN.out.only hx
          have z0 : (d : Int) < (L.length : Int) := by omega
          have z1 : (d : Int) < 300 := by omega
          have z4 : 0 ≤ (d : Int) := by omega
          have hk6 := kind0_kd x.o
          have hall0 : 0 ≤ all := by have := HC.out.sum; have := HC.out.low; omega
          have hall1 : all ≤ 300 := by have := HC.out.top; omega
          have hcn := HC.out.did (by omega) (kind0 x.o) x.b hk6
          have hnod : (do0 N (kind0 x.o) x.b).1.nodes = nodes := (do0_nodes N _ _).trans HE.out
          obtain ⟨N', ox, code, hr⟩ : ∃ N' ox code, do0 N (kind0 x.o) x.b = (N', ox, code) := ⟨_, _, _, rfl⟩
          have hdo := fun (wx : World) (Kx : List Nat) (hO : Own w wx p N Kx) => do_net w wx p N Kx hO (kind0 x.o) x.A x.c x.b hk6 (hop.bytes.only hO.only) hb hop.byte (by rw [kind0_m]; exact hop.m) (by have := HC.out.ops; omega)
          rw [hr] at hcn hnod hdo
          have HDO := Aside0.mk hdo
          have HCN := Aside0.mk hcn
          have HND := Aside0.mk hnod
          obtain ⟨ko, hko⟩ : ∃ ko, ko = kind0 x.o := ⟨_, rfl⟩
          rw [← hko] at HDO HCN hk6
          have hkc := fun wx => kind_c wx x.o x.A x.b.length x.c
          rw [← hko] at hkc
          have HKC := Aside0.mk hkc
          obtain ⟨kd, kf, kt, ki, ka, km⟩ := ko
          have HD : Aside0 (d + 1 ≤ 300) := ⟨by omega⟩
          have HD2 : Aside0 (d + 1 ≤ L.length) := ⟨by omega⟩
          clear hdo hcn hkc hop hb hx hr hko hlt h300 hd hdl hnod
          cases ox with
          | none =>
            go_wp2_with (first
              | (go_at_call 21; refine (HKC.out wr).mono ?_; rintro e w4 ⟨rfl, o4⟩)
              | (go_at_call 22; refine (HDO.out _ K (HN.out.quiet (o4.trans (Only.alloc w4 _ []) (by simp)))).mono ?_; rintro e w5 ⟨⟨rfl, K5, hO5⟩, o5⟩; have hk5 := op_kept HN.out.at'.lt o4 o5; obtain ⟨y0, y1, y2, y3, y4, y5, y6⟩ := blk7 hk5; have hl5 : w4.heap.size < w5.heap.size := (Array.getElem?_eq_some_iff.1 hk5).1; clear hk5))
            all_goals (
              go_roundg (301 - (d + 1))
              case measure => have := HD.out; omega
              case rel =>
                refine ⟨d + 1, _, N', K5, HD.out, HD2.out, rfl, by simp, rfl, ⟨hO5.quiet (Only.alloc w5 _ [])⟩, ⟨?_⟩, HND⟩
                have hfin := HCN.out
                first
                  | (have hc : code = 0 := by simpa using ‹(code == 0) = true›
                     simpa [addOf, hc, Int.sub_eq_add_neg, *] using hfin)
                  | (have hc : ¬ code = 0 := by simpa using ‹(code == 0) = false›
                     simpa [addOf, hc, Int.sub_eq_add_neg, *] using hfin)
                  | simpa [addOf, Int.sub_eq_add_neg, *] using hfin)
          | some y =>
            go_wp2_with (first
              | (go_at_call 21; refine (HKC.out wr).mono ?_; rintro e w4 ⟨rfl, o4⟩)
              | (go_at_call 22; refine (HDO.out _ K (HN.out.quiet (o4.trans (Only.alloc w4 _ []) (by simp)))).mono ?_; rintro e w5 ⟨⟨dg, K5, hdg, rfl, hO5, hA5⟩, o5⟩; have hk5 := op_kept HN.out.at'.lt o4 o5; obtain ⟨y0, y1, y2, y3, y4, y5, y6⟩ := blk7 hk5; have hl5 : w4.heap.size < w5.heap.size := (Array.getElem?_eq_some_iff.1 hk5).1; clear hk5 hA5; obtain ⟨A9, n9, c9, hv9⟩ := dg.val_slice; simp only [Dg.cells, hv9]))
            all_goals (
              go_roundg (301 - (d + 1))
              case measure => have := HD.out; omega
              case rel =>
                refine ⟨d + 1, _, N', K5, HD.out, HD2.out, rfl, by simp, rfl, ⟨hO5.quiet (Only.alloc w5 _ [])⟩, ⟨?_⟩, HND⟩
                have hfin := HCN.out
                first
                  | (have hc : code = 0 := by simpa using ‹(code == 0) = true›
                     simpa [addOf, hc, Int.sub_eq_add_neg, *] using hfin)
                  | (have hc : ¬ code = 0 := by simpa using ‹(code == 0) = false›
                     simpa [addOf, hc, Int.sub_eq_add_neg, *] using hfin)
                  | simpa [addOf, Int.sub_eq_add_neg, *] using hfin)
        · have hd3 : d = 300 := by omega
          subst hd3
          have z0 : (300 : Int) < (L.length : Int) := by omega
          have HD9 : Aside0 ((300 : Nat) ≤ 300) := ⟨by omega⟩
          clear hlt h300 hd hdl
          go_wp2
          have hnd := HE.out
          have hblen := HN.out.at'.blen
          have hkj : ∀ j : Nat, sumL N.box (keysTo j) ≤ 64 * j := sumL_le hblen
          go_loopg [13, 14] 66 (fun gk v13 v14 wq => ∃ j : Nat, (j : Int) ≤ nodes ∧ gk = 66 - j ∧ v14 = .int .i64 ((j : Int) + 1) ∧ v13 = .int .i64 (sumL N.box (keysTo j) : Nat) ∧ Aside0 (Own w wq p N K))
          case atStart => exact ⟨0, by have := hn.1; simp; omega, rfl, rfl, rfl, HN⟩
          case round =>
            obtain ⟨j, hj, rfl, rfl, rfl, HQ⟩ := hrel
            have hj64 : (j : Int) ≤ 64 := by have := hn.2; omega
            obtain ⟨s, hs⟩ : ∃ s, sumL N.box (keysTo j) = s := ⟨_, rfl⟩
            have hs1 := hkj j
            rw [hs] at hs1
            rw [hs]
            have s1 : (s : Int) ≤ 4096 := by omega
            have HKJ := Aside0.mk hkj
            have HBL := Aside0.mk hblen
            clear hkj hblen hs1
            by_cases hlt2 : (j : Int) + 1 ≤ nodes
            · obtain ⟨b, hb⟩ : ∃ b, (N.box ((j : Int) + 1)).length = b := ⟨_, rfl⟩
              have hb64 : (b : Int) ≤ 64 := by have := HBL.out ((j : Int) + 1); omega
              have hwf : (Lit.int .i64 ((j : Int) + 1)).wf = true := WalkArith.wf_i64 (by omega)
              have HB := Aside0.mk hb
              have HS := Aside0.mk hs
              clear hb hs
              go_wp2_with (go_at_call 19; refine (box_is w _ p N K HQ.out ((j : Int) + 1) hwf b HB.out).mono ?_; rintro e w7 ⟨rfl, hO7⟩)
              go_roundg (66 - (j + 1))
              case measure => omega
              case rel =>
                refine ⟨j + 1, by omega, rfl, by simp, ?_, ⟨hO7⟩⟩
                rw [keysTo_succ, sumL_snoc, HS.out, HB.out]
                simp
            · have hjn : (j : Int) = nodes := by omega
              subst hjn
              obtain ⟨n, hnn⟩ : ∃ n, N.way.length = n := ⟨_, rfl⟩
              obtain ⟨l, hll⟩ : ∃ l, N.lost = l := ⟨_, rfl⟩
              have hsum := HC.out.sum
              have htop := HC.out.top
              have hlow := HC.out.low
              have hbs : boxSum N = s := by
                unfold boxSum
                rw [hnd, ← hs]
                rfl
              rw [hnn, hll, hbs] at hsum
              rw [hll] at hlow
              have e1 : all = (n : Int) + s + l := hsum
              have hd9 := HD9.out
              have b1 : (n : Int) ≤ 400 := by omega
              have b2 : l ≤ 400 := by omega
              have HNN := Aside0.mk hnn
              have HLL := Aside0.mk hll
              subst e1
              clear hd9 hnn hll hsum htop hbs hs hnd hlt2
              go_wp2_with (first
                | (go_at_call 15; refine (flight_len w _ p N K HQ.out n HNN.out).mono ?_; rintro e w7 ⟨A7, c7, rfl, hO7⟩)
                | (go_at_call 16; refine (lost_is w _ p N K hO7 l HLL.out).mono ?_; rintro e w8 ⟨rfl, hO8⟩))
              go_ret
              exact ⟨rfl, hO8.only⟩
      · have hd3 : d = L.length := by omega
        subst hd3
        have HD9 := Aside0.mk hd
        clear hlt hd hdl
        go_wp2
        have hnd := HE.out
        have hblen := HN.out.at'.blen
        have hkj : ∀ j : Nat, sumL N.box (keysTo j) ≤ 64 * j := sumL_le hblen
        go_loopg [13, 14] 66 (fun gk v13 v14 wq => ∃ j : Nat, (j : Int) ≤ nodes ∧ gk = 66 - j ∧ v14 = .int .i64 ((j : Int) + 1) ∧ v13 = .int .i64 (sumL N.box (keysTo j) : Nat) ∧ Aside0 (Own w wq p N K))
        case atStart => exact ⟨0, by have := hn.1; simp; omega, rfl, rfl, rfl, HN⟩
        case round =>
          obtain ⟨j, hj, rfl, rfl, rfl, HQ⟩ := hrel
          have hj64 : (j : Int) ≤ 64 := by have := hn.2; omega
          obtain ⟨s, hs⟩ : ∃ s, sumL N.box (keysTo j) = s := ⟨_, rfl⟩
          have hs1 := hkj j
          rw [hs] at hs1
          rw [hs]
          have s1 : (s : Int) ≤ 4096 := by omega
          have HKJ := Aside0.mk hkj
          have HBL := Aside0.mk hblen
          clear hkj hblen hs1
          by_cases hlt2 : (j : Int) + 1 ≤ nodes
          · obtain ⟨b, hb⟩ : ∃ b, (N.box ((j : Int) + 1)).length = b := ⟨_, rfl⟩
            have hb64 : (b : Int) ≤ 64 := by have := HBL.out ((j : Int) + 1); omega
            have hwf : (Lit.int .i64 ((j : Int) + 1)).wf = true := WalkArith.wf_i64 (by omega)
            have HB := Aside0.mk hb
            have HS := Aside0.mk hs
            clear hb hs
            go_wp2_with (go_at_call 19; refine (box_is w _ p N K HQ.out ((j : Int) + 1) hwf b HB.out).mono ?_; rintro e w7 ⟨rfl, hO7⟩)
            go_roundg (66 - (j + 1))
            case measure => omega
            case rel =>
              refine ⟨j + 1, by omega, rfl, by simp, ?_, ⟨hO7⟩⟩
              rw [keysTo_succ, sumL_snoc, HS.out, HB.out]
              simp
          · have hjn : (j : Int) = nodes := by omega
            subst hjn
            obtain ⟨n, hnn⟩ : ∃ n, N.way.length = n := ⟨_, rfl⟩
            obtain ⟨l, hll⟩ : ∃ l, N.lost = l := ⟨_, rfl⟩
            have hsum := HC.out.sum
            have htop := HC.out.top
            have hlow := HC.out.low
            have hbs : boxSum N = s := by
              unfold boxSum
              rw [hnd, ← hs]
              rfl
            rw [hnn, hll, hbs] at hsum
            rw [hll] at hlow
            have e1 : all = (n : Int) + s + l := hsum
            have hd9 := HD9.out
            have b1 : (n : Int) ≤ 400 := by omega
            have b2 : l ≤ 400 := by omega
            have HNN := Aside0.mk hnn
            have HLL := Aside0.mk hll
            subst e1
            clear hd9 hnn hll hsum htop hbs hs hnd hlt2
            go_wp2_with (first
              | (go_at_call 15; refine (flight_len w _ p N K HQ.out n HNN.out).mono ?_; rintro e w7 ⟨A7, c7, rfl, hO7⟩)
              | (go_at_call 16; refine (lost_is w _ p N K hO7 l HLL.out).mono ?_; rintro e w8 ⟨rfl, hO8⟩))
            go_ret
            exact ⟨rfl, hO8.only⟩
namespace dgramCounts
open Go.ChangeAt
theorem own : ownKnob Try.prog.godebug = none := by kernel_rfl
theorem laidOut : laidOutB Try.prog = true := by kernel_rfl
set_option maxRecDepth 100000 in
theorem lifted (os : Os) (started : os.Started) (H : Type) (enc : TypeId × Value → H) :
    ReturnsInHanded {} Try.checked os 7 .any (Rows.dgramCountsSpec.pre6 enc Try.prog Try.f7 Rows.dgramCountsRow.domain false) (Rows.dgramCountsSpec.post enc Try.prog Try.f7 false true false false) := by
  refine returnsInHanded_of_change_sized (C := Try.checked) own started (by kernel_rfl) Try.func7
    (ChangeSpec.witness6 (enc := enc) (C := Try.checked) false ⟨#[], #[.int .i64 0, .slice none 0 0], []⟩ 8 (by kernel_rfl) (by kernel_rfl) (by kernel_rfl) (by kernel_rfl)) ?_
  intro W base args ds gs before hval0 hW hcnd hsz _
  have hval : ∀ (j : Nat) t v, Try.f7.params[j]? = some t → args[j]? = some v → Value.okWide Try.prog W .any base t v := hval0
  have hW' := hW
  obtain ⟨p, q, hA0, hV, rfl, hfz, hnd⟩ := hW
  have hA : DataW.TrodAll enc Try.prog W 0 (fun _ => true) true Try.f7.params.toList args.toList ds p := hA0
  rw [Try.params7] at hA hval hsz
  obtain ⟨v0, vs0, d0, ds0, p0, q0, hargs, rfl, rfl, h0, r0⟩ := trodAll_cons hA
  obtain ⟨v1, vs1, d1, ds1, p1, q1, rfl, rfl, rfl, h1, r1⟩ := trodAll_cons r0
  obtain ⟨rfl, rfl, rfl⟩ := trodAll_nil r1
  obtain rfl : args = #[v0, v1] := by cases args; simp_all
  obtain ⟨rfl, rfl⟩ := trodVars_none hV
  obtain ⟨a0, rfl, rfl, rfl, w0⟩ := open_int Try.underlying3 (hval 0 3 v0 rfl rfl) h0
  have h1k := h1
  have hlt1 : ∀ x ∈ p1, x.block < W.heap.size := fun x hx => by simpa using hW'.lt x (by simp [hx])
  obtain ⟨aa, ll, cc, rfl⟩ := okWide_slice Try.underlying47 (hval 1 47 v1 rfl rfl)
  obtain ⟨fuel, hf⟩ := h1
  obtain ⟨A, L, c, hv, hS⟩ := open_script hf (fun n hn => by
    have hall := List.all_eq_true.1 hsz n (DataW.weights_mem_each (j := 1) (t := 47) rfl rfl n hn)
    have hr := reachBytes_lt
    have : n ≤ reachBytes := by simpa using hall
    omega)
  rw [hv] at hW' h1k ⊢
  clear hA0 hval0
  have hwalk : Calls Try.prog 7 #[.int .i64 a0, .slice A L.length c] W fun e w' => e = .returned (.bool true) ∧ Only W w' [] := by
    by_cases hm : 1 ≤ a0 ∧ a0 ≤ 64
    · exact counts_walk a0 A L c W hm hS
    · exact counts_bad a0 A L c W hm
  refine hwalk.mono fun e W' ⟨he, ho⟩ => ?_
  subst he
  have bel : Below W.heap.size W W' := ho.below (by simp) (Nat.le_refl _)
  simp only [List.append_nil] at hW'
  exact ⟨_, rfl, _, _, _, [], _, [], hW', trodAll_mk1 (shut_bool Try.underlying4 _), (trodAll_cons_mk (shut_int Try.underlying3 w0) (trodAll_cons_mk (Below.trod laidOut (by kernel_rfl) (of_decide_eq_true (by kernel_rfl)) h1k bel hlt1) trodAll_mk0)), rfl, bel.frame _, fun h => by cases h⟩
theorem over : Rows.dgramCountsRow.holds Try.pinned (OpenSpec.ofChange Rows.dgramCountsSpec) :=
  OpenClaim.holds_of_wide 7 Try.f7 rfl rfl rfl rfl rfl rfl rfl ⟨rfl, rfl, rfl, rfl, rfl⟩ rfl rfl rfl rfl rfl (by kernel_rfl) Try.func7 (by kernel_rfl)
    (of_decide_eq_true (by kernel_rfl)) (by unfold Func.isWrapper; first | (rw [if_pos (by decide +kernel)]; kernel_rfl) | (rw [if_neg (by decide +kernel)]; exact ⟨rfl, rfl⟩))
    (fun os started H enc _ => lifted os started H enc)
end dgramCounts
theorem dgramCounts_holds : Rows.DgramCountsSaid := dgramCounts.over
#print axioms dgramCounts_holds
end Go.Proofs.Ytehgneiiajpgpaa
