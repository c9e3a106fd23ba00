/- gram: have, sink, one, tree. gram: body. gram: list. gram: clauses. -/
import Derived.Test.YtejidddjkngoiaaDoorGmC
import Derived.Deep.LoopGhost
import Derived.Deep.RegionHeld3
namespace Go.Proofs.YtejidddjkngoiaaDoor
open Go.RowKit
set_option linter.all false

set_option maxHeartbeats 2000000
set_option maxRecDepth 100000

/-- Whether a sign was passed. -/
def HRet (w : World) (g : Nat) (A : Option Addr) (c : Nat) (T : List GT) (i m : Nat) (b : Bool) (e : Ending) (w' : World) : Prop := e = .returned (.bool b) ∧ PAt w' g A c T (if b then i + 1 else i) m ∧ Only w w' [g]
theorem have_c (w : World) (g : Nat) (A : Option Addr) (c : Nat) (T : List GT) (i n : Nat) (s : ByteArray) (h : PAt w g A c T i n) : Calls Tryd.prog 46 #[.pointer (some ⟨g, 0, none⟩), .string s] w (HRet w g A c T i n (isAt T i s)) := by
  have his := is_c w g A c T i n s h
  have HP := Aside0.mk h
  have hl := h.len
  have hi := h.hi
  cases hb : isAt T i s with
  | true =>
    have hlt := isAt_lt hb
    rw [hb] at his
    have HIS := Aside0.mk his
    have HLT := Aside0.mk hlt
    clear his hb h hlt
    go_enter Tryd.func46, Tryd.ntmps46
    go_wp2_with (go_at_call 38; refine HIS.out.mono ?_; rintro e w1 ⟨rfl, o1⟩; obtain ⟨x0, x1, x2, xf0, xf1, xf2⟩ := blk3 (HP.out.keep (o1.only [])).cell)
    have hp := (HP.out.keep (o1.only [])).step (j := i + 1) HLT.out
    go_ret
    exact ⟨rfl, by simpa using hp.1, by simpa using (o1.only [g]).trans hp.2 (fun _ h => .inl h)⟩
  | false =>
    rw [hb] at his
    have HIS := Aside0.mk his
    clear his hb h
    go_enter Tryd.func46, Tryd.ntmps46
    go_wp2_with (go_at_call 38; refine HIS.out.mono ?_; rintro e w1 ⟨rfl, o1⟩)
    go_ret
    exact ⟨rfl, HP.out.keep (o1.only []), o1.only _⟩
theorem sink_none (w : World) (g : Nat) (A : Option Addr) (c : Nat) (T : List GT) (i : Nat) (h : PAt w g A c T i 0) : Calls Tryd.prog 55 #[.pointer (some ⟨g, 0, none⟩)] w fun e w' => e = thrown i 161 ∧ w' = w := by
  obtain ⟨x0, x1, x2, _⟩ := blk3 h.cell
  rw [show (40 : Int) - ((0 : Nat) : Int) = 40 from rfl] at x2
  have hfl := fail_c w g A c T i 0 161 h
  have HFL := Aside0.mk hfl
  clear hfl
  go_enter Tryd.func55, Tryd.ntmps55
  go_wp2_with (go_at_call 36; refine HFL.out.mono ?_; rintro e w2 ⟨rfl, rfl⟩)
  exact ⟨rfl, rfl, rfl⟩
theorem sink_some (w : World) (g : Nat) (A : Option Addr) (c : Nat) (T : List GT) (i m : Nat) (h : PAt w g A c T i (m + 1)) (hlt : i < T.length) : Calls Tryd.prog 55 #[.pointer (some ⟨g, 0, none⟩)] w fun e w' => e = .returned (.tuple #[]) ∧ PAt w' g A c T (i + 1) m ∧ Only w w' [g] := by
  have HP := Aside0.mk h
  have hn := h.hn
  have hl := h.len
  obtain ⟨dp, hdp⟩ : ∃ dp : Int, dp = 40 - ((m + 1 : Nat) : Int) := ⟨_, rfl⟩
  have hc := h.cell
  rw [← hdp] at hc
  obtain ⟨x0, x1, x2, xf0, xf1, xf2⟩ := blk3 hc
  have h1 : dp < 40 := by omega
  have h2 : 0 ≤ dp := by omega
  have HD := Aside0.mk hdp
  have HC := Aside0.mk hc
  clear hdp hc h hn
  go_enter Tryd.func55, Tryd.ntmps55
  go_wp2_with fail
  go_end0
  have hd : dp + 1 = 40 - ((m : Nat) : Int) := by have := HD.out; omega
  have o1 := Only.setCell w ⟨g, 2, none⟩ (.int .i64 (dp + 1))
  have o2 := Only.setCell (w.setCell ⟨g, 2, none⟩ (.int .i64 (dp + 1))) ⟨g, 1, none⟩ (.int .i64 ((i : Int) + 1))
  have h3 := heap_setCell (heap_setCell HC.out 2 (.int .i64 (dp + 1))) 1 (.int .i64 ((i : Int) + 1))
  refine ⟨rfl, HP.out.goes (o1.trans o2 (fun _ h => .inl h)) ?_ hlt (by have := HP.out.hn; omega), o1.trans o2 (fun _ h => .inl h)⟩
  rw [h3, hd]
  rfl
/-- Texts lie one behind the other. -/
def SL (w : World) (P : Nat → Prop) (A : Option Addr) (l : List ByteArray) : Prop := ∀ k s, l[k]? = some s → ∃ b o, A = some ⟨b, o, none⟩ ∧ P b ∧ w.cell? ⟨b, o + k, none⟩ = some (.string s)
theorem SL.move {w w' : World} {P Q : Nat → Prop} {A : Option Addr} {l : List ByteArray} (h : SL w P A l) (hk : ∀ k, k < w.heap.size → P k → w'.heap[k]? = w.heap[k]? ∧ Q k) : SL w' Q A l := fun k s hs => by
  obtain ⟨b, o, h1, h2, h3⟩ := h k s hs
  have hlt := World.block_lt_of_cell? _ _ h3
  exact ⟨b, o, h1, (hk b hlt h2).2, (World.cell?_of_block (hk b hlt h2).1).trans h3⟩
theorem one_c (w : World) (g : Nat) (A : Option Addr) (c : Nat) (T : List GT) (i n : Nat) (h : PAt w g A c T i n) (P : Nat → Prop) (A2 : Option Addr) (c2 : Nat) (l : List ByteArray) (hl : SL w P A2 l) (hn : l.length ≤ 1000) : Calls Tryd.prog 65 #[.pointer (some ⟨g, 0, none⟩), .slice A2 l.length c2] w fun e w' => e = .returned (.string ((oneS T i l).getD ⟨#[]⟩)) ∧ Dr w w' := by
  have HP := Aside0.mk h
  have HL := Aside0.mk hl
  have his := fun W s hW => is_c W g A c T i n s hW
  have HIS := Aside0.mk his
  have hn2 : (l.length : Int) ≤ 1000 := by omega
  clear h hl his
  go_enter Tryd.func65, Tryd.ntmps65
  go_wp2_with fail
  go_loopg [9] l.length (fun gk v9 wr => ∃ k : Nat, k ≤ l.length ∧ gk = l.length - k ∧ v9 = .int .i64 (k : Int) ∧ Aside0 (Dr w wr) ∧ Aside0 (∀ j s, j < k → l[j]? = some s → isAt T i s = false))
  case atStart => exact ⟨0, Nat.zero_le _, rfl, rfl, ⟨Dr.refl w⟩, ⟨fun j s hj => by omega⟩⟩
  case round =>
    obtain ⟨k, hk, rfl, rfl, HD, HNO⟩ := hrel
    by_cases hlt : k < l.length
    · obtain ⟨s, hs⟩ : ∃ s, l[k]? = some s := ⟨_, List.getElem?_eq_getElem hlt⟩
      obtain ⟨b, o, rfl, _, hc⟩ := (HL.out.move (w' := wr) (Q := fun _ => True) (fun j hj _ => ⟨(HD.out.only []).block j hj (by simp), trivial⟩)) k s hs
      have z0 : (k : Int) < (l.length : Int) := by omega
      have z1 : (0 : Int) ≤ (k : Int) := by omega
      have hi1 := HIS.out wr s (HP.out.keep (HD.out.only []))
      have HS := Aside0.mk hs
      have HLT := Aside0.mk hlt
      cases hb : isAt T i s with
      | true =>
        rw [hb] at hi1
        have HI := Aside0.mk hi1
        have HB := Aside0.mk hb
        clear hb hi1 hs hlt hk
        go_wp2_with (go_at_call 38; refine HI.out.mono ?_; rintro e w1 ⟨rfl, o1⟩)
        go_ret
        have hf : oneS T i l = some s := by
          unfold oneS
          rw [List.find?_eq_some_iff_getElem]
          obtain ⟨h1, h2⟩ := List.getElem?_eq_some_iff.1 HS.out
          refine ⟨HB.out, k, h1, h2, fun j hj => ?_⟩
          have := HNO.out j _ hj (List.getElem?_eq_getElem (by omega))
          simpa using this
        exact ⟨by rw [hf]; rfl, HD.out.trans o1⟩
      | false =>
        rw [hb] at hi1
        have HI := Aside0.mk hi1
        have HB := Aside0.mk hb
        clear hb hi1 hs hlt hk
        go_wp2_with (go_at_call 38; refine HI.out.mono ?_; rintro e w1 ⟨rfl, o1⟩)
        go_roundg (l.length - (k + 1))
        case measure => have := HLT.out; omega
        case rel =>
          refine ⟨k + 1, HLT.out, rfl, by simp, ⟨HD.out.trans o1⟩, ⟨fun j s' hj hs' => ?_⟩⟩
          by_cases hjk : j = k
          · subst hjk
            rw [HS.out] at hs'
            cases hs'
            exact HB.out
          · exact HNO.out j s' (by omega) hs'
    · have hkk : k = l.length := by omega
      subst hkk
      clear hlt hk
      go_wp2_with fail
      go_ret
      have hf : oneS T i l = none := by
        unfold oneS
        rw [List.find?_eq_none]
        intro s hs
        obtain ⟨j, hj, hjs⟩ := List.getElem_of_mem hs
        have := HNO.out j s hj (by rw [List.getElem?_eq_getElem hj, hjs])
        simpa using this
      exact ⟨by rw [hf]; rfl, HD.out⟩
/-- What comes of a part of the parser that answers a tree. -/
def TRet (w : World) (P : Nat → Prop) (t : GTree) (e : Ending) (w' : World) : Prop := ∃ u : V5, e = .returned u.agg ∧ TV w' (fun k => P k ∨ w.heap.size ≤ k) t u ∧ Only w w' []
theorem tree_c (w : World) (P : Nat → Prop) (kd : Int) (s : ByteArray) (v : Value) (l : List GTree) (h : RT w P v l) (hn : l.length ≤ 1000000) : Calls Tryd.prog 23 #[.int .i64 kd, .string s, v] w (TRet w P (.node kd s 0 [] l)) := by
  obtain ⟨w1, hw1⟩ : ∃ w1, w1 = w.alloc (.cells #[.int .i64 0, .string ⟨#[]⟩, .int .i64 0, .slice none 0 0, .slice none 0 0] 28) := ⟨_, rfl⟩
  have o1 : Only w w1 [] := by rw [hw1]; exact Only.alloc w _ []
  have b1 : w1.heap[w.heap.size]? = some (.cells #[.int .i64 0, .string ⟨#[]⟩, .int .i64 0, .slice none 0 0, .slice none 0 0] 28 (0, 0)) := by rw [hw1]; exact heap_alloc_new w _
  have hP : ∀ k, k < w.heap.size → P k → w1.heap[k]? = w.heap[k]? ∧ (P k ∧ k < w.heap.size) := fun k hk hp => ⟨o1.block k hk (by simp), hp, hk⟩
  obtain ⟨A, c, w2, hrun, hrt, o2⟩ := run_copy_trees hn 26 (h.move hP)
  have b2 := (o2.block _ (Array.getElem?_eq_some_iff.1 b1).1 (by simp)).trans b1
  obtain ⟨x0, x1, x2, x3, x4, xf0, xf1, xf2, xf3, xf4⟩ := blk5 b2
  obtain ⟨A2, c2, rfl⟩ := h.shape
  have hz1 : w1.heap.size = w.heap.size + 1 := by rw [hw1]; simp
  have HRT := Aside0.mk hrt
  have HO := Aside0.mk (And.intro o1 (And.intro o2 (And.intro b2 hz1)))
  clear hrt o1 o2 b1 b2 hP h hz1
  go_enter Tryd.func23, Tryd.ntmps23
  go_wp2_with (at_builtin; rw [← hw1]; clear hw1; refine wpList_append_by rfl _ _ _ _ rfl _ _ rfl rfl _ _ hrun ?_; clear hrun)
  refine bodyPost_ret (v := .agg #[.int .i64 kd, .string s, .int .i64 0, .slice none 0 0, .slice A l.length c]) (by simp [results, Tryd.results23, go_sem, x0, x1, x2, x3, x4]) rfl ?_
  obtain ⟨o1, o2, b2, hz1⟩ := HO.out
  have o3 := Only.set5 w2 w.heap.size (.int .i64 kd) (.string s) (.int .i64 0) (.slice none 0 0) (.slice A l.length c) [w.heap.size] (by simp)
  have hr := HRT.out.move (w' := ((((w2.setCell ⟨w.heap.size, 0, none⟩ (.int .i64 kd)).setCell ⟨w.heap.size, 1, none⟩ (.string s)).setCell ⟨w.heap.size, 2, none⟩ (.int .i64 0)).setCell ⟨w.heap.size, 3, none⟩ (.slice none 0 0)).setCell ⟨w.heap.size, 4, none⟩ (.slice A l.length c)) (Q := fun k => P k ∨ w.heap.size ≤ k) (fun k hk hP => ⟨o3.block k hk (by simp; rcases hP with hP | hP <;> omega), hP.imp (·.1) (fun _ => by omega)⟩)
  exact ⟨⟨.int .i64 kd, .string s, .int .i64 0, .slice none 0 0, .slice A l.length c⟩, rfl, TV_node (BytesIn.nil _ _) hr, (o1.trans o2 (by simp)).trans o3 (by simp)⟩
set_option maxHeartbeats 4000000
set_option maxRecDepth 100000

abbrev zT : Array Value := #[.int .i64 0, .string ⟨#[]⟩, .int .i64 0, .slice none 0 0, .slice none 0 0]
/-- What a part of the parser that answers a tree comes to. -/
def ERet (w : World) (g : Nat) (A : Option Addr) (c : Nat) (T : List GT) (m : Nat) (r : PR GTree) (e : Ending) (w' : World) : Prop := match r with
  | .ok t j => ∃ u : V5, e = .returned u.agg ∧ TV w' (fun k => w.heap.size ≤ k) t u ∧ PAt w' g A c T j m ∧ Only w w' [g]
  | .bad k code => e = thrown k code ∧ Only w w' [g]
/-- A part of the parser is walked. -/
def ExOK (f g : Nat) (A : Option Addr) (c : Nat) (T : List GT) (m : Nat) (sp : Nat → PR GTree) : Prop := ∀ w i, PAt w g A c T i m → Calls Tryd.prog f #[.pointer (some ⟨g, 0, none⟩)] w (ERet w g A c T m (sp i))
theorem OT.lit1 {w : World} {B b : Nat} {t : GTree} {u : V5} (h : w.heap[b]? = some (.cells #[u.a, u.b, u.c, u.d, u.e] 28 (0, 0))) (hb : B ≤ b) (ht : TV w (fun k => B ≤ k ∧ k ≠ b) t u) : OT w B (.slice (some ⟨b, 0, none⟩) 1 1) [t] :=
  ⟨[u], rfl, ⟨rfl, .inr ⟨b, 1, _, rfl, hb, h, Nat.le_refl _, (show 1 ≤ maxLen by decide), rfl, rfl⟩⟩, fun i t' u' h1 h2 => by
    have hi : i = 0 := by have := (List.getElem?_eq_some_iff.1 h1).1; simpa using this
    subst hi
    simp at h1 h2
    subst h1 h2
    exact TV_move (fun k _ hP => ⟨rfl, hP.1, by simpa [Go.Proofs.YtejidddjkngoiaaDoor.bl, Value.ownBlock] using hP.2⟩) t u ht⟩
theorem PAt.other {w w' : World} {g : Nat} {A : Option Addr} {c : Nat} {T : List GT} {i n : Nat} {ks : List Nat} (h : PAt w g A c T i n) (ho : Only w w' ks) (hk : ∀ k ∈ ks, False) : PAt w' g A c T i n := h.keep (ho.weaken (fun k hm => (hk k hm).elim))
theorem PAt.g_lt {w : World} {g : Nat} {A : Option Addr} {c : Nat} {T : List GT} {i n : Nat} (h : PAt w g A c T i n) : g < w.heap.size := (Array.getElem?_eq_some_iff.1 h.cell).1
/-- Five values of a tree as they are written out. -/
theorem TV.five {w : World} {P : Nat → Prop} {t : GTree} {u : V5} (h : TV w P t u) : ∃ kd s n A3 n3 c3 A4 n4 c4, u = ⟨.int .i64 kd, .string s, .int .i64 n, .slice A3 n3 c3, .slice A4 n4 c4⟩ := by
  obtain ⟨kd, s, n, b, l⟩ := t
  obtain ⟨a0, a1, a2, a3, a4⟩ := u
  unfold TV at h
  obtain ⟨h1, h2, h3, ⟨hb, _⟩, vs, hl, _⟩ := h
  obtain ⟨A, c, h4⟩ := own_shape hb
  obtain ⟨A', c', h5⟩ := own_shape hl
  dsimp only at h1 h2 h3 h4 h5
  subst h1 h2 h3 h4 h5
  exact ⟨_, _, _, _, _, _, _, _, _, rfl⟩
/-- append of a tree that a call has just answered. -/
theorem app_step {wr w5 : World} {B s : Nat} {v : Value} {acc : List GTree} {t : GTree} {u : V5} {ks : List Nat} (hot : OT wr B v acc) (o : Only wr w5 ks) (hks : ∀ k ∈ ks, k < B) (hB : B ≤ wr.heap.size) (hn : acc.length + 1 ≤ 1000000) (ht : TV w5 (fun k => s ≤ k) t u) (hs : wr.heap.size ≤ s) :
    ∃ A c w6, (Builtin.append_ #[26, 26] 26 #[v, .slice (some ⟨w5.heap.size, 0, none⟩) 1 1]).run Tryd.prog (w5.alloc (.cells #[u.a, u.b, u.c, u.d, u.e] 28)) = .ok (.slice A (acc.length + 1) c) w6 ∧ OT w6 B (.slice A (acc.length + 1) c) (acc ++ [t]) ∧ Only w5 w6 (bl v) ∧ (∀ b ∈ bl v, B ≤ b) := by
  have oa := Only.alloc w5 (.cells #[u.a, u.b, u.c, u.d, u.e] 28) []
  have hot' := hot.keep (o.trans (oa.weaken (ks2 := ks) (by simp)) (fun _ h => .inl h)) (fun k hk => .inl (hks k hk))
  have hb := heap_alloc_new w5 (.cells #[u.a, u.b, u.c, u.d, u.e] 28)
  obtain ⟨A, c, w6, h1, h2, h3, _⟩ := run_append_tree (u := u) hot' (Nat.le_trans hB (Nat.le_trans o.size oa.size)) hn 26 ⟨w5.heap.size, 0, none⟩ 1 (fun j x hj => by
    rw [Addr.add_lit, Nat.zero_add, Lib.cell_of_heap hb]
    simpa [cells5] using hj) (TV_move (fun k hk hP => ⟨oa.block k hk (by simp), by omega, fun hm => by have := (hot.bl k hm).2; omega⟩) t u ht)
  exact ⟨A, c, w6, h1, h2, oa.weaken (ks2 := bl v) (by simp) |>.trans h3 (fun _ h => .inl h), fun b hb => (hot.bl b hb).1⟩
theorem body_c {g : Nat} {A : Option Addr} {c : Nat} {T : List GT} {m : Nat} {ex : Nat → PR GTree} (hex : ExOK 45 g A c T m ex) (hon : OnF T ex) : ExOK 39 g A c T m (bodyS T ex) := by
  intro w i h
  obtain ⟨w1, hw1⟩ : ∃ w1, w1 = w.alloc (.cells zT 28) := ⟨_, rfl⟩
  have o1 : Only w w1 [] := by rw [hw1]; exact Only.alloc w _ []
  have b1 : w1.heap[w.heap.size]? = some (.cells zT 28 (0, 0)) := by rw [hw1]; exact heap_alloc_new w _
  have hz1 : w1.heap.size = w.heap.size + 1 := by rw [hw1]; simp
  have h1 := h.keep o1
  have hgl := h.g_lt
  have hx := hex w1 i h1
  have HP := Aside0.mk h
  have HO1 := Aside0.mk o1
  have HB1 := Aside0.mk b1
  have HZ1 := Aside0.mk hz1
  have hlen := h.len
  cases hr : ex i with
  | bad k code =>
    have e0 : bodyS T ex i = .bad k code := by simp [bodyS, hr, PR.bind]
    rw [hr] at hx
    rw [e0]
    have HX := Aside0.mk hx
    clear hx h h1 hr e0 o1 b1 hz1
    go_enter Tryd.func39, Tryd.ntmps39
    go_wp2_with (go_at_call 45; rw [← hw1]; clear hw1; refine HX.out.mono ?_; rintro e w2 ⟨rfl, o2⟩)
    exact ⟨rfl, rfl, (HO1.out.weaken (by simp)).trans o2 (fun _ h => .inl h)⟩
  | ok t0 j0 =>
    have hj0 := hon i t0 j0 hr
    have e0 : bodyS T ex i = (moreS T ex (T.length + 1) j0 [t0]).bind fun l k => .ok (.node 16 gE 0 [] l) k := by simp only [bodyS, hr, PR.bind]
    rw [hr] at hx
    have HX := Aside0.mk hx
    have HE := Aside0.mk e0
    clear hx h h1 hr e0 o1 b1 hz1
    go_enter Tryd.func39, Tryd.ntmps39
    go_wp2_with (go_at_call 45; rw [← hw1]; clear hw1; refine HX.out.mono ?_; rintro e w2 ⟨u, rfl, htv, hp2, o2⟩; obtain ⟨kd, s, n, A3, n3, c3, A4, n4, c4, rfl⟩ := htv.five; have HTV := Aside0.mk htv; have HP2 := Aside0.mk hp2; have HO2 := Aside0.mk o2; clear htv hp2 o2)
    obtain ⟨w3, hw3⟩ : ∃ w3, w3 = w2.alloc (.cells #[.int .i64 kd, .string s, .int .i64 n, .slice A3 n3 c3, .slice A4 n4 c4] 28) := ⟨_, rfl⟩
    have o3 : Only w2 w3 [] := by rw [hw3]; exact Only.alloc w2 _ []
    have b3 : w3.heap[w2.heap.size]? = some (.cells #[.int .i64 kd, .string s, .int .i64 n, .slice A3 n3 c3, .slice A4 n4 c4] 28 (0, 0)) := by rw [hw3]; exact heap_alloc_new w2 _
    have h12 : w.heap.size + 1 ≤ w2.heap.size := by have := HO2.out.size; have := HZ1.out; omega
    have hot3 : OT w3 (w.heap.size + 1) (.slice (some ⟨w2.heap.size, 0, none⟩) 1 1) [t0] := OT.lit1 b3 h12 (TV_move (fun k hk hP => ⟨o3.block k hk (by simp), by have := HZ1.out; omega, by omega⟩) t0 _ HTV.out)
    have hp3 := HP2.out.keep o3
    have hall3 : Only w w3 [g] := ((HO1.out.weaken (by simp)).trans HO2.out (fun _ h => .inl h)).trans o3 (by simp)
    have hb3 : w3.heap[w.heap.size]? = some (.cells zT 28 (0, 0)) := (o3.block _ (by omega) (by simp)).trans ((HO2.out.block _ (by have := HZ1.out; omega) (by simp; omega)).trans HB1.out)
    have HOT3 := Aside0.mk hot3
    have HP3 := Aside0.mk hp3
    have HALL3 := Aside0.mk hall3
    have HB3 := Aside0.mk hb3
    rw [← hw3]
    clear hw3 o3 b3 hot3 hp3 hall3 hb3
    go_loopg [3] (T.length + 1) (fun gk v3 wr => ∃ (i' : Nat) (acc : List GTree) (B3 : Option Addr) (d3 : Nat), T.length < gk + i' ∧ i' ≤ T.length ∧ acc.length ≤ i' ∧ v3 = .slice B3 acc.length d3 ∧ Aside0 (PAt wr g A c T i' m) ∧ Aside0 (OT wr (w.heap.size + 1) (.slice B3 acc.length d3) acc) ∧ Aside0 (Only w wr [g]) ∧ Aside0 (wr.heap[w.heap.size]? = some (.cells zT 28 (0, 0))) ∧ Aside0 (bodyS T ex i = (moreS T ex gk i' acc).bind fun l k => .ok (.node 16 gE 0 [] l) k))
    case atStart => exact ⟨j0, [t0], _, _, by omega, hj0.2, by simp; omega, rfl, HP3, HOT3, HALL3, HB3, HE⟩
    case round =>
      obtain ⟨i', acc, B3, d3, hf, hi', hac, rfl, HPR, HOT, HAL, HBR, HEQ⟩ := hrel
      have hhv := have_c wr g A c T i' m (⟨#[44]⟩ : ByteArray) HPR.out
      obtain ⟨gf, rfl⟩ : ∃ gf, gk = gf + 1 := ⟨gk - 1, by omega⟩
      cases hb : isAt T i' (⟨#[44]⟩ : ByteArray) with
      | false =>
        have e1 : bodyS T ex i = .ok (.node 16 gE 0 [] acc) i' := by
          rw [HEQ.out]
          have hb' : isAt T i' sComma = false := hb
          simp [moreS, hb', PR.bind]
        rw [hb] at hhv
        have HHV := Aside0.mk hhv
        have HE1 := Aside0.mk e1
        have htr := fun W (hW : RT W (fun k => w.heap.size + 1 ≤ k) (.slice B3 acc.length d3) acc) => tree_c W (fun k => w.heap.size + 1 ≤ k) 16 ⟨#[]⟩ (.slice B3 acc.length d3) acc hW (by omega)
        have HTR := Aside0.mk htr
        clear hhv hb e1 htr
        go_wp2_with (first
          | (go_at_call 46; refine HHV.out.mono ?_; rintro e w4 ⟨rfl, hp4, o4⟩; have HP4 := Aside0.mk hp4; have HO4 := Aside0.mk o4; clear hp4 o4)
          | (go_at_call 23; refine (HTR.out w4 (HOT.out.keep HO4.out (by simp; omega)).rt).mono ?_; rintro e w5 ⟨u5, rfl, htv5, o5⟩; obtain ⟨kd5, s5, n5, A35, n35, c35, A45, n45, c45, rfl⟩ := htv5.five; obtain ⟨x0, x1, x2, x3, x4, xf0, xf1, xf2, xf3, xf4⟩ := blk5 ((o5.block _ (by have := HO4.out.size; have := (Array.getElem?_eq_some_iff.1 HBR.out).1; omega) (by simp)).trans ((HO4.out.block _ (Array.getElem?_eq_some_iff.1 HBR.out).1 (by simp; omega)).trans HBR.out)); have HTV5 := Aside0.mk htv5; have HO5 := Aside0.mk o5; clear htv5 o5))
        refine bodyPost_ret (v := .agg #[.int .i64 kd5, .string s5, .int .i64 n5, .slice A35 n35 c35, .slice A45 n45 c45]) (by simp [results, Tryd.results39, go_sem, x0, x1, x2, x3, x4]) rfl ?_
        rw [HE1.out]
        have o6 := Only.set5 w5 w.heap.size (.int .i64 kd5) (.string s5) (.int .i64 n5) (.slice A35 n35 c35) (.slice A45 n45 c45) [w.heap.size] (by simp)
        have o45 : Only w w5 [g] := (HAL.out.trans HO4.out (fun _ h => .inl h)).trans HO5.out (by simp)
        have hrl := (Array.getElem?_eq_some_iff.1 HBR.out).1
        have oF := o45.trans o6 (by simp)
        refine ⟨⟨.int .i64 kd5, .string s5, .int .i64 n5, .slice A35 n35 c35, .slice A45 n45 c45⟩, rfl, TV_move (fun k hk hP => ⟨o6.block k hk ?_, ?_⟩) _ _ HTV5.out, HP.out.goes oF ?_ hi' HP.out.hn, oF⟩
        · have := HO4.out.size; simp; omega
        · have := HO4.out.size; omega
        · exact (o6.block g (by have := HP4.out.g_lt; have := HO5.out.size; omega) (by simp; omega)).trans (HP4.out.keep HO5.out).cell
      | true =>
        have hb' : isAt T i' sComma = true := hb
        have hlt := isAt_lt hb
        have hx2 := fun W hW => hex W (i' + 1) hW
        rw [hb] at hhv
        have HHV := Aside0.mk hhv
        cases hr2 : ex (i' + 1) with
        | bad k code =>
          have e1 : bodyS T ex i = .bad k code := by
            rw [HEQ.out]
            simp [moreS, hb', hr2, PR.bind]
          simp only [hr2] at hx2
          have HX2 := Aside0.mk hx2
          have HE1 := Aside0.mk e1
          clear hhv hb hb' hx2 hr2 e1
          go_wp2_with (first
            | (go_at_call 46; refine HHV.out.mono ?_; rintro e w4 ⟨rfl, hp4, o4⟩; have HP4 := Aside0.mk hp4; have HO4 := Aside0.mk o4; clear hp4 o4)
            | (go_at_call 45; refine (HX2.out w4 HP4.out).mono ?_; rintro e w5 ⟨rfl, o5⟩))
          refine ⟨rfl, ?_⟩
          rw [HE1.out]
          exact ⟨rfl, (HAL.out.trans HO4.out (fun _ h => .inl h)).trans o5 (fun _ h => .inl h)⟩
        | ok t2 j2 =>
          have hj2 := hon (i' + 1) t2 j2 hr2
          have e1 : bodyS T ex i = (moreS T ex gf j2 (acc ++ [t2])).bind fun l k => .ok (.node 16 gE 0 [] l) k := by
            rw [HEQ.out]
            conv => lhs; rw [moreS]
            simp [hb', hr2, PR.bind]
          simp only [hr2] at hx2
          have HX2 := Aside0.mk hx2
          have HE1 := Aside0.mk e1
          clear hhv hb hb' hx2 hr2 e1
          go_wp2_with (first
            | (go_at_call 46; refine HHV.out.mono ?_; rintro e w4 ⟨rfl, hp4, o4⟩; have HP4 := Aside0.mk hp4; have HO4 := Aside0.mk o4; clear hp4 o4)
            | (go_at_call 45; refine (HX2.out w4 HP4.out).mono ?_; rintro e w5 ⟨u5, rfl, htv5, hp5, o5⟩; obtain ⟨kd5, s5, n5, A35, n35, c35, A45, n45, c45, rfl⟩ := htv5.five; have HTV5 := Aside0.mk htv5; have HP5 := Aside0.mk hp5; have HO5 := Aside0.mk o5; obtain ⟨A6, c6, w6, hrun, hot6, o6, hb6⟩ := app_step HOT.out (HO4.out.trans o5 (fun _ h => .inl h)) (by simp; omega) (by have := (Array.getElem?_eq_some_iff.1 HBR.out).1; omega) (by omega) htv5 HO4.out.size; have HOT6 := Aside0.mk hot6; have HO6 := Aside0.mk o6; have HB6 := Aside0.mk hb6; clear htv5 hp5 o5 hot6 o6 hb6)
            | (at_builtin; refine wpList_append_by rfl _ _ _ _ rfl _ _ rfl rfl _ _ hrun ?_; clear hrun))
          go_roundg gf
          case measure => omega
          case rel =>
            have o56 : Only w w6 [g] := (((HAL.out.trans HO4.out (fun _ h => .inl h)).trans HO5.out (fun _ h => .inl h))).trans HO6.out (fun k hk => .inr (by have := HB6.out k hk; omega))
            have hgb : g ∉ bl (.slice B3 acc.length d3) := fun hm => by have := HB6.out g hm; omega
            have hwb : w.heap.size ∉ bl (.slice B3 acc.length d3) := fun hm => by have := HB6.out _ hm; omega
            have hrl := (Array.getElem?_eq_some_iff.1 HBR.out).1
            refine ⟨j2, acc ++ [t2], A6, c6, by omega, hj2.2, by simp; omega, by simp, ⟨HP.out.goes o56 ?_ hj2.2 HP.out.hn⟩, ⟨?_⟩, ⟨o56⟩, ⟨?_⟩, HE1⟩
            · exact (HO6.out.block g HP5.out.g_lt hgb).trans HP5.out.cell
            · simpa using HOT6.out
            · exact (HO6.out.block _ (by have := HO4.out.size; have := HO5.out.size; omega) hwb).trans ((HO5.out.block _ (by have := HO4.out.size; omega) (by simp; omega)).trans ((HO4.out.block _ hrl (by simp; omega)).trans HBR.out))
set_option maxHeartbeats 4000000
set_option maxRecDepth 100000

/-- What a part of the parser that answers trees comes to. -/
def LRet (w : World) (g : Nat) (A : Option Addr) (c : Nat) (T : List GT) (m : Nat) (r : PR (List GTree)) (e : Ending) (w' : World) : Prop := match r with
  | .ok l j => ∃ v, e = .returned v ∧ RT w' (fun k => w.heap.size ≤ k) v l ∧ PAt w' g A c T j m ∧ Only w w' [g] ∧ l.length ≤ j
  | .bad k code => e = thrown k code ∧ Only w w' [g]
theorem list_c {g : Nat} {A : Option Addr} {c : Nat} {T : List GT} {m : Nat} {ex : Nat → PR GTree} (hex : ExOK 45 g A c T m ex) (hon : OnF T ex) (e : ByteArray) (w : World) (i : Nat) (h : PAt w g A c T i m) : Calls Tryd.prog 76 #[.pointer (some ⟨g, 0, none⟩), .string e] w (LRet w g A c T m (listS T ex e i)) := by
  have hgl := h.g_lt
  have HP := Aside0.mk h
  have hlen := h.len
  have hhv := have_c w g A c T i m e h
  cases hb0 : isAt T i e with
  | true =>
    have e0 : listS T ex e i = .ok [] (i + 1) := by simp [listS, hb0]
    rw [hb0] at hhv
    rw [e0]
    have HHV := Aside0.mk hhv
    clear hhv hb0 e0 h
    go_enter Tryd.func76, Tryd.ntmps76
    go_wp2_with (go_at_call 46; refine HHV.out.mono ?_; rintro e w2 ⟨rfl, hp2, o2⟩; have HP2 := Aside0.mk hp2; have HO2 := Aside0.mk o2; clear hp2 o2)
    go_ret
    exact ⟨_, rfl, RT.nil _ _, by simpa using HP2.out, HO2.out, by simp⟩
  | false =>
    rw [hb0] at hhv
    have HHV := Aside0.mk hhv
    have hx := fun W hW => hex W i hW
    cases hr : ex i with
    | bad k code =>
      have e0 : listS T ex e i = .bad k code := by simp [listS, hb0, hr, PR.bind]
      simp only [hr] at hx
      rw [e0]
      have HX := Aside0.mk hx
      clear hx h hr e0 hb0 hhv
      go_enter Tryd.func76, Tryd.ntmps76
      go_wp2_with (first
        | (go_at_call 46; refine HHV.out.mono ?_; rintro e w2 ⟨rfl, hp2, o2⟩; have HP2 := Aside0.mk hp2; have HO2 := Aside0.mk o2; clear hp2 o2)
        | (go_at_call 45; refine (HX.out w2 HP2.out).mono ?_; rintro e w3 ⟨rfl, o3⟩))
      exact ⟨rfl, rfl, HO2.out.trans o3 (fun _ h => .inl h)⟩
    | ok t0 j0 =>
      have hj0 := hon i t0 j0 hr
      have e0 : listS T ex e i = (moreS T ex (T.length + 1) j0 [t0]).bind fun l k => (wantS T k e).bind fun _ m => .ok l m := by simp only [listS, hb0, hr, PR.bind]; rfl
      simp only [hr] at hx
      have HX := Aside0.mk hx
      have HE := Aside0.mk e0
      clear hx h hr e0 hb0 hhv
      go_enter Tryd.func76, Tryd.ntmps76
      go_wp2_with (first
        | (go_at_call 46; refine HHV.out.mono ?_; rintro e w2 ⟨rfl, hp2, o2⟩; have HP2 := Aside0.mk hp2; have HO2 := Aside0.mk o2; clear hp2 o2)
        | (go_at_call 45; refine (HX.out w2 HP2.out).mono ?_; rintro e w3 ⟨u, rfl, htv, hp3, o3⟩; obtain ⟨kd, s, n, A3, n3, c3, A4, n4, c4, rfl⟩ := htv.five; have HP3 := Aside0.mk hp3; have HO3 := Aside0.mk o3; obtain ⟨A6, c6, w6, hrun, hot6, o6, hb6⟩ := app_step (OT.nil w2 w.heap.size) o3 (by simp; omega) HO2.out.size (by simp) htv (Nat.le_refl _); have HOT6 := Aside0.mk hot6; have HO6 := Aside0.mk o6; clear htv hp3 o3 hot6 o6 hb6)
        | (at_builtin; refine wpList_append_by rfl _ _ _ _ rfl _ _ rfl rfl _ _ hrun ?_; clear hrun))
      have o06 : Only w w6 [g] := ((HO2.out.trans HO3.out (fun _ h => .inl h))).trans HO6.out (by simp [bl, Value.ownBlock])
      have hp6 : PAt w6 g A c T j0 m := HP3.out.keep (HO6.out.weaken (by simp [bl, Value.ownBlock]))
      have HO06 := Aside0.mk o06
      have HP6 := Aside0.mk hp6
      clear o06 hp6
      go_loopg [5] (T.length + 1) (fun gk v5 wr => ∃ (i' : Nat) (acc : List GTree) (B3 : Option Addr) (d3 : Nat), T.length < gk + i' ∧ i' ≤ T.length ∧ acc.length ≤ i' ∧ v5 = .slice B3 acc.length d3 ∧ Aside0 (PAt wr g A c T i' m) ∧ Aside0 (OT wr w.heap.size (.slice B3 acc.length d3) acc) ∧ Aside0 (Only w wr [g]) ∧ Aside0 (listS T ex e i = (moreS T ex gk i' acc).bind fun l k => (wantS T k e).bind fun _ m => .ok l m))
      case atStart => exact ⟨j0, [t0], A6, c6, by omega, hj0.2, by simp; omega, rfl, HP6, ⟨by simpa using HOT6.out⟩, HO06, HE⟩
      case round =>
        obtain ⟨i', acc, B3, d3, hf, hi', hac, rfl, HPR, HOT, HAL, HEQ⟩ := hrel
        have hhv := have_c wr g A c T i' m (⟨#[44]⟩ : ByteArray) HPR.out
        obtain ⟨gf, rfl⟩ : ∃ gf, gk = gf + 1 := ⟨gk - 1, by omega⟩
        cases hb : isAt T i' (⟨#[44]⟩ : ByteArray) with
        | false =>
          have e1 : listS T ex e i = (wantS T i' e).bind fun _ m => .ok acc m := by
            rw [HEQ.out]
            have hb' : isAt T i' sComma = false := hb
            conv => lhs; rw [moreS]
            simp [hb', PR.bind]
          rw [hb] at hhv
          have HHV := Aside0.mk hhv
          have hwa := fun W hW => want_c W g A c T i' m e hW
          cases hw : wantS T i' e with
          | bad k code =>
            rw [hw] at e1
            simp only [hw] at hwa
            have HE1 := Aside0.mk e1
            have HWA := Aside0.mk hwa
            clear hhv hb e1 hwa hw
            go_wp2_with (first
              | (go_at_call 46; refine HHV.out.mono ?_; rintro e w4 ⟨rfl, hp4, o4⟩; have HP4 := Aside0.mk hp4; have HO4 := Aside0.mk o4; clear hp4 o4)
              | (go_at_call 37; refine (HWA.out w4 HP4.out).mono ?_; rintro e w5 ⟨rfl, o5⟩))
            refine ⟨rfl, ?_⟩
            rw [HE1.out]
            exact ⟨rfl, (HAL.out.trans HO4.out (fun _ h => .inl h)).trans o5 (fun _ h => .inl h)⟩
          | ok x q =>
            have hq := wantS_on T i' e x q hw
            rw [hw] at e1
            simp only [hw] at hwa
            have HE1 := Aside0.mk e1
            have HWA := Aside0.mk hwa
            clear hhv hb e1 hwa hw
            go_wp2_with (first
              | (go_at_call 46; refine HHV.out.mono ?_; rintro e w4 ⟨rfl, hp4, o4⟩; have HP4 := Aside0.mk hp4; have HO4 := Aside0.mk o4; clear hp4 o4)
              | (go_at_call 37; refine (HWA.out w4 HP4.out).mono ?_; rintro e w5 ⟨rfl, hp5, o5⟩; have HP5 := Aside0.mk hp5; have HO5 := Aside0.mk o5; clear hp5 o5))
            go_ret
            rw [HE1.out]
            exact ⟨_, rfl, ((HOT.out.keep HO4.out (by simp; omega)).keep HO5.out (by simp; omega)).rt, HP5.out, (HAL.out.trans HO4.out (fun _ h => .inl h)).trans HO5.out (fun _ h => .inl h), by omega⟩
        | true =>
          have hb' : isAt T i' sComma = true := hb
          have hlt := isAt_lt hb
          have hx2 := fun W hW => hex W (i' + 1) hW
          rw [hb] at hhv
          have HHV := Aside0.mk hhv
          cases hr2 : ex (i' + 1) with
          | bad k code =>
            have e1 : listS T ex e i = .bad k code := by
              rw [HEQ.out]
              simp [moreS, hb', hr2, PR.bind]
            simp only [hr2] at hx2
            have HX2 := Aside0.mk hx2
            have HE1 := Aside0.mk e1
            clear hhv hb hb' hx2 hr2 e1
            go_wp2_with (first
              | (go_at_call 46; refine HHV.out.mono ?_; rintro e w4 ⟨rfl, hp4, o4⟩; have HP4 := Aside0.mk hp4; have HO4 := Aside0.mk o4; clear hp4 o4)
              | (go_at_call 45; refine (HX2.out w4 HP4.out).mono ?_; rintro e w5 ⟨rfl, o5⟩))
            refine ⟨rfl, ?_⟩
            rw [HE1.out]
            exact ⟨rfl, (HAL.out.trans HO4.out (fun _ h => .inl h)).trans o5 (fun _ h => .inl h)⟩
          | ok t2 j2 =>
            have hj2 := hon (i' + 1) t2 j2 hr2
            have e1 : listS T ex e i = (moreS T ex gf j2 (acc ++ [t2])).bind fun l k => (wantS T k e).bind fun _ m => .ok l m := by
              rw [HEQ.out]
              conv => lhs; rw [moreS]
              simp [hb', hr2, PR.bind]
            simp only [hr2] at hx2
            have HX2 := Aside0.mk hx2
            have HE1 := Aside0.mk e1
            clear hhv hb hb' hx2 hr2 e1
            go_wp2_with (first
              | (go_at_call 46; refine HHV.out.mono ?_; rintro e w4 ⟨rfl, hp4, o4⟩; have HP4 := Aside0.mk hp4; have HO4 := Aside0.mk o4; clear hp4 o4)
              | (go_at_call 45; refine (HX2.out w4 HP4.out).mono ?_; rintro e w5 ⟨u5, rfl, htv5, hp5, o5⟩; obtain ⟨kd5, s5, n5, A35, n35, c35, A45, n45, c45, rfl⟩ := htv5.five; have HTV5 := Aside0.mk htv5; have HP5 := Aside0.mk hp5; have HO5 := Aside0.mk o5; obtain ⟨A7, c7, w7, hrun, hot7, o7, hb7⟩ := app_step HOT.out (HO4.out.trans o5 (fun _ h => .inl h)) (by simp; omega) HAL.out.size (by omega) htv5 HO4.out.size; have HOT7 := Aside0.mk hot7; have HO7 := Aside0.mk o7; have HB7 := Aside0.mk hb7; clear htv5 hp5 o5 hot7 o7 hb7)
              | (at_builtin; refine wpList_append_by rfl _ _ _ _ rfl _ _ rfl rfl _ _ hrun ?_; clear hrun))
            go_roundg gf
            case measure => omega
            case rel =>
              have o56 : Only w w7 [g] := (((HAL.out.trans HO4.out (fun _ h => .inl h)).trans HO5.out (fun _ h => .inl h))).trans HO7.out (fun k hk => .inr (HB7.out k hk))
              have hgb : g ∉ bl (.slice B3 acc.length d3) := fun hm => by have := HB7.out g hm; omega
              refine ⟨j2, acc ++ [t2], A7, c7, by omega, hj2.2, by simp; omega, by simp, ⟨HP.out.goes o56 ?_ hj2.2 HP.out.hn⟩, ⟨?_⟩, ⟨o56⟩, HE1⟩
              · exact (HO7.out.block g HP5.out.g_lt hgb).trans HP5.out.cell
              · simpa using HOT7.out
set_option maxHeartbeats 4000000
set_option maxRecDepth 100000

/-- append as a step of a region that draws. -/
theorem step_append_by {P : Program} {ops : Array Oper} {o : Oper} {a : Act} {w : World} {K : Act → World → Prop} {Q : Exit → Act → World → Prop} {E : Prop}
    (hg : o.guard = none) (s x : Operand) (t tx : TypeId) (hop : o.op = Op.call { callee := Callee.builtin Builtin.append, args := #[s, x], argTypes := #[t, tx] })
    (vs vx : Value) (hs : a.eval s = vs) (hx : a.eval x = vx) (v' : Value) (w' : World) (hrun : (Builtin.append_ #[t, tx] o.type #[vs, vx]).run P w = .ok v' w') (hK : K (a.put o.dst v') w') :
    if Region.wanted o (yielded ops a.tmps) = true then Oper.wp P o a w K Q else E := by
  have hw : Region.wanted o (yielded ops a.tmps) = true := by simp [Region.wanted, hg]
  rw [if_pos hw]
  unfold Oper.wp
  simp [execOp, hop, resolve, invoke, builtin, hs, hx, hrun, Result.andThen]
  exact hK
/-- Two trees written out one behind the other. -/
theorem RT.lit2 {w : World} {P : Nat → Prop} {b : Nat} {t1 t2 : GTree} {u1 u2 : V5} (h : w.heap[b]? = some (.cells #[u1.a, u1.b, u1.c, u1.d, u1.e, u2.a, u2.b, u2.c, u2.d, u2.e] 28 (0, 0))) (hb : P b) (h1 : TV w (fun k => P k ∧ k ≠ b) t1 u1) (h2 : TV w (fun k => P k ∧ k ≠ b) t2 u2) : RT w P (.slice (some ⟨b, 0, none⟩) 2 2) [t1, t2] := by
  refine ⟨[u1, u2], ⟨rfl, .inr ⟨b, 2, _, rfl, Nat.zero_le _, h, Nat.le_refl _, (show 2 ≤ maxLen by decide), rfl, rfl⟩⟩, fun k hk => ?_, ?_⟩
  · simp [bl, Value.ownBlock] at hk
    subst hk
    exact hb
  · refine TZ_of _ _ rfl (fun i t u ht hu => ?_)
    have hi : i = 0 ∨ i = 1 := by have := (List.getElem?_eq_some_iff.1 ht).1; simp at this; omega
    rcases hi with rfl | rfl
    · simp at ht hu
      subst ht hu
      exact TV_move (fun k _ hP => ⟨rfl, hP.1, by simpa [bl, Value.ownBlock] using hP.2⟩) _ _ h1
    · simp at ht hu
      subst ht hu
      exact TV_move (fun k _ hP => ⟨rfl, hP.1, by simpa [bl, Value.ownBlock] using hP.2⟩) _ _ h2
/-- A tree of two that were just made. -/
theorem pair_step {w4 w6 : World} {g s : Nat} {x b : GTree} {u4 u6 : V5} (ht4 : TV w4 (fun k => s ≤ k) x u4) (o46 : Only w4 w6 [g]) (hg : g < s) (ht6 : TV w6 (fun k => s ≤ k) b u6) (hs : s ≤ w6.heap.size) (kd : Int) (str : ByteArray) :
    Calls Tryd.prog 23 #[.int .i64 kd, .string str, .slice (some ⟨w6.heap.size, 0, none⟩) 2 2] (w6.alloc (.cells #[u4.a, u4.b, u4.c, u4.d, u4.e, u6.a, u6.b, u6.c, u6.d, u6.e] 28)) fun e w' => ∃ u : V5, e = .returned u.agg ∧ TV w' (fun k => s ≤ k) (.node kd str 0 [] [x, b]) u ∧ Only w6 w' [] := by
  have hW := heap_alloc_new w6 (.cells #[u4.a, u4.b, u4.c, u4.d, u4.e, u6.a, u6.b, u6.c, u6.d, u6.e] 28)
  have oW := Only.alloc w6 (.cells #[u4.a, u4.b, u4.c, u4.d, u4.e, u6.a, u6.b, u6.c, u6.d, u6.e] 28) []
  have h4 := TV_move (w' := w6.alloc (.cells #[u4.a, u4.b, u4.c, u4.d, u4.e, u6.a, u6.b, u6.c, u6.d, u6.e] 28)) (Q := fun k => s ≤ k ∧ k ≠ w6.heap.size) (fun k hk hP => ⟨((o46.allocs _).block k hk (by simp; omega)), hP, by have := o46.size; omega⟩) x u4 ht4
  have h6 := TV_move (w' := w6.alloc (.cells #[u4.a, u4.b, u4.c, u4.d, u4.e, u6.a, u6.b, u6.c, u6.d, u6.e] 28)) (Q := fun k => s ≤ k ∧ k ≠ w6.heap.size) (fun k hk hP => ⟨oW.block k hk (by simp), hP, by omega⟩) b u6 ht6
  refine (tree_c _ (fun k => s ≤ k) kd str _ [x, b] (RT.lit2 hW hs h4 h6) (by simp)).mono ?_
  rintro e w' ⟨u, rfl, h1, h2⟩
  exact ⟨u, rfl, TV_move (fun k _ hP => ⟨rfl, hP.elim id (fun h => by simp at h; omega)⟩) _ u h1, oW.trans h2 (by simp)⟩
/-- What clauses comes to: a row of its own. -/
def CRet (w : World) (g : Nat) (A : Option Addr) (c : Nat) (T : List GT) (m : Nat) (r : PR (List GTree)) (e : Ending) (w' : World) : Prop := match r with
  | .ok l j => ∃ B d, e = .returned (.slice B l.length d) ∧ OT w' w.heap.size (.slice B l.length d) l ∧ PAt w' g A c T j m ∧ Only w w' [g] ∧ l.length ≤ j
  | .bad k code => e = thrown k code ∧ Only w w' [g]
theorem clauses_o {g : Nat} {A : Option Addr} {c : Nat} {T : List GT} {m : Nat} {L : Lv} (hun : ExOK 64 g A c T m L.un) (hbo : ExOK 39 g A c T m (bodyS T L.ex)) (hL : OnL T L) (w : World) (i : Nat) (h : PAt w g A c T i m) : Calls Tryd.prog 86 #[.pointer (some ⟨g, 0, none⟩)] w (CRet w g A c T m (clausesS T L (T.length + 1) i [])) := by
  have hgl := h.g_lt
  have HP := Aside0.mk h
  have hlen := h.len
  have hi0 := h.hi
  have HUN := Aside0.mk hun
  have HBO := Aside0.mk hbo
  clear hun hbo h
  go_enter Tryd.func86, Tryd.ntmps86
  go_wp2_with fail
  go_loopg [3] (T.length + 1) (fun gk v3 wr => ∃ (i' : Nat) (acc : List GTree) (B3 : Option Addr) (d3 : Nat), T.length < gk + i' ∧ i' ≤ T.length ∧ acc.length ≤ i' ∧ v3 = .slice B3 acc.length d3 ∧ Aside0 (PAt wr g A c T i' m) ∧ Aside0 (OT wr w.heap.size (.slice B3 acc.length d3) acc) ∧ Aside0 (Only w wr [g]) ∧ Aside0 (clausesS T L (T.length + 1) i [] = clausesS T L gk i' acc))
  case atStart => exact ⟨i, [], none, 0, by omega, hi0, by simp, rfl, HP, ⟨OT.nil _ _⟩, ⟨Only.refl _ _⟩, ⟨rfl⟩⟩
  case round =>
    obtain ⟨i', acc, B3, d3, hf, hi', hac, rfl, HPR, HOT, HAL, HEQ⟩ := hrel
    obtain ⟨gf, rfl⟩ : ∃ gf, gk = gf + 1 := ⟨gk - 1, by omega⟩
    have hx := HUN.out wr i' HPR.out
    cases hr : L.un i' with
    | bad k code =>
      have e1 : clausesS T L (T.length + 1) i [] = .bad k code := by
        rw [HEQ.out, clausesS, hr]
        rfl
      rw [hr] at hx
      have HX := Aside0.mk hx
      have HE1 := Aside0.mk e1
      clear hx hr e1
      go_wp2_with (go_at_call 64; refine HX.out.mono ?_; rintro e w4 ⟨rfl, o4⟩)
      refine ⟨rfl, ?_⟩
      rw [HE1.out]
      exact ⟨rfl, HAL.out.trans o4 (fun _ h => .inl h)⟩
    | ok x j =>
      have hj := hL.2 i' x j hr
      rw [hr] at hx
      have HX := Aside0.mk hx
      have hwa := fun W hW => want_c W g A c T j m (⟨#[45, 62]⟩ : ByteArray) hW
      cases hw : wantS T j (⟨#[45, 62]⟩ : ByteArray) with
      | bad k code =>
        have e1 : clausesS T L (T.length + 1) i [] = .bad k code := by
          have hw' : wantS T j sArrow = .bad k code := hw
          rw [HEQ.out, clausesS, hr]
          simp [PR.bind, hw']
        simp only [hw] at hwa
        have HWA := Aside0.mk hwa
        have HE1 := Aside0.mk e1
        clear hx hr e1 hwa hw
        go_wp2_with (first
          | (go_at_call 64; refine HX.out.mono ?_; rintro e w4 ⟨u4, rfl, htv4, hp4, o4⟩; obtain ⟨kd4, s4, n4, A34, n34, c34, A44, n44, c44, rfl⟩ := htv4.five; have HP4 := Aside0.mk hp4; have HO4 := Aside0.mk o4; clear htv4 hp4 o4)
          | (go_at_call 37; refine (HWA.out _ (HP4.out.keep (Only.alloc w4 _ []))).mono ?_; rintro e w5 ⟨rfl, o5⟩))
        refine ⟨rfl, ?_⟩
        rw [HE1.out]
        exact ⟨rfl, ((HAL.out.trans HO4.out (fun _ h => .inl h)).allocs _).trans o5 (fun _ h => .inl h)⟩
      | ok q k =>
        have hk := wantS_on T j _ q k hw
        have hw' : wantS T j sArrow = .ok q k := hw
        simp only [hw] at hwa
        have HWA := Aside0.mk hwa
        have hbx := fun W hW => HBO.out W k hW
        cases hb : bodyS T L.ex k with
        | bad kk code =>
          have e1 : clausesS T L (T.length + 1) i [] = .bad kk code := by
            rw [HEQ.out, clausesS, hr]
            simp [PR.bind, hw', hb]
          simp only [hb] at hbx
          have HBX := Aside0.mk hbx
          have HE1 := Aside0.mk e1
          clear hx hr e1 hwa hw hw' hbx hb
          go_wp2_with (first
            | (go_at_call 64; refine HX.out.mono ?_; rintro e w4 ⟨u4, rfl, htv4, hp4, o4⟩; obtain ⟨kd4, s4, n4, A34, n34, c34, A44, n44, c44, rfl⟩ := htv4.five; have HP4 := Aside0.mk hp4; have HO4 := Aside0.mk o4; clear htv4 hp4 o4)
            | (go_at_call 37; refine (HWA.out _ (HP4.out.keep (Only.alloc w4 _ []))).mono ?_; rintro e w5 ⟨rfl, hp5, o5⟩; have HP5 := Aside0.mk hp5; have HO5 := Aside0.mk o5; clear hp5 o5))
          have hxb : ∀ W, Only w5 W [] → W.cell? ⟨w4.heap.size, 0, none⟩ = some (.int .i64 kd4) ∧ W.cell? ⟨w4.heap.size, 1, none⟩ = some (.string s4) ∧ W.cell? ⟨w4.heap.size, 2, none⟩ = some (.int .i64 n4) ∧ W.cell? ⟨w4.heap.size, 3, none⟩ = some (.slice A34 n34 c34) ∧ W.cell? ⟨w4.heap.size, 4, none⟩ = some (.slice A44 n44 c44) := fun W hW => by
            have h0 := heap_alloc_new w4 (.cells #[.int .i64 kd4, .string s4, .int .i64 n4, .slice A34 n34 c34, .slice A44 n44 c44] 28)
            have h1 := (HO5.out.block _ (by simp) (by have := HP4.out.g_lt; simp; omega)).trans h0
            obtain ⟨q0, q1, q2, q3, q4, _⟩ := blk5 ((hW.block _ (Array.getElem?_eq_some_iff.1 h1).1 (by simp)).trans h1)
            exact ⟨q0, q1, q2, q3, q4⟩
          obtain ⟨q0, q1, q2, q3, q4⟩ := hxb w5 (Only.refl _ _)
          refine wp_region_any (by kernel_rfl) ?_
          (try (change wpAny _ _ _ _ _ _ _ (World.drew _)))
          refine wpAny_take (i := 0) (v := ?_) rfl (by kernel_rfl) (by kernel_rfl) (by kernel_rfl) (fun _ _ _ h => h) (Or.inl ⟨by rfl, ?_⟩) ?_; rotate_left; (focus (intro _wq; go_simp; (first | done | (with_reducible rfl))))
          refine wpAny_take (i := 2) (v := ?_) rfl (by kernel_rfl) (by kernel_rfl) (by kernel_rfl) (fun _ _ _ h => h) (Or.inl ⟨by rfl, ?_⟩) ?_; rotate_left; (focus (intro _wq; go_simp; (first | done | (with_reducible rfl))))
          refine wpAny_ready (rs := [1, 3]) (by kernel_rfl) (by simp) ?_
          refine AllReady.cons rfl (fun K hK => ?_) ?_
          · go_simp
            refine hK _ _ ?_
            refine wpAny_ready (rs := [3]) (by kernel_rfl) (by simp) ?_
            refine AllReady.cons rfl (fun K2 hK2 => ?_) AllReady.nil
            go_simp
            (refine (HBX.out _ (HP5.out.keep (by (repeat (first | (with_reducible assumption) | (with_reducible exact Only.refl _ _) | (with_reducible refine Only.allocs ?_ _) | (with_reducible refine Only.drews ?_)))))).mono ?_; rintro e w6 ⟨rfl, o6⟩; refine ⟨rfl, ?_⟩; rw [HE1.out]; exact ⟨rfl, ((((HAL.out.trans HO4.out (fun _ h => .inl h)).allocs _).trans HO5.out (fun _ h => .inl h)).drews).trans o6 (fun _ h => .inl h)⟩)
          · refine AllReady.cons rfl (fun K hK => ?_) AllReady.nil
            go_simp
            (refine (HBX.out _ (HP5.out.keep (by (repeat (first | (with_reducible assumption) | (with_reducible exact Only.refl _ _) | (with_reducible refine Only.allocs ?_ _) | (with_reducible refine Only.drews ?_)))))).mono ?_; rintro e w6 ⟨rfl, o6⟩; refine ⟨rfl, ?_⟩; rw [HE1.out]; exact ⟨rfl, ((((HAL.out.trans HO4.out (fun _ h => .inl h)).allocs _).trans HO5.out (fun _ h => .inl h)).drews).trans o6 (fun _ h => .inl h)⟩)
        | ok b mm =>
          have hmm := bodyS_on hL.1 k b mm hb
          have e1 : clausesS T L (T.length + 1) i [] = if isAt T mm sSemi then clausesS T L gf (mm + 1) (acc ++ [.node 15 gE 0 [] [x, b]]) else .ok (acc ++ [.node 15 gE 0 [] [x, b]]) mm := by
            rw [HEQ.out, clausesS, hr]
            simp [PR.bind, hw', hb]
          simp only [hb] at hbx
          have HBX := Aside0.mk hbx
          have HE1 := Aside0.mk e1
          clear hx hr e1 hwa hw hw' hbx hb
          go_wp2_with (first
            | (go_at_call 64; refine HX.out.mono ?_; rintro e w4 ⟨u4, rfl, htv4, hp4, o4⟩; obtain ⟨kd4, s4, n4, A34, n34, c34, A44, n44, c44, rfl⟩ := htv4.five; have HP4 := Aside0.mk hp4; have HO4 := Aside0.mk o4; have HTV4 := Aside0.mk htv4; clear htv4 hp4 o4)
            | (go_at_call 37; refine (HWA.out _ (HP4.out.keep (Only.alloc w4 _ []))).mono ?_; rintro e w5 ⟨rfl, hp5, o5⟩; have HP5 := Aside0.mk hp5; have HO5 := Aside0.mk o5; clear hp5 o5))
          obtain ⟨KS, hKS⟩ : ∃ KS, KS = g :: bl (.slice B3 acc.length d3) := ⟨_, rfl⟩
          have hgr : g < wr.heap.size := HPR.out.g_lt
          have h45 : w4.heap.size + 1 ≤ w5.heap.size := by have := HO5.out.size; simpa using this
          have hKl : ∀ k ∈ KS, k < wr.heap.size := fun k hk => by
            rw [hKS] at hk
            rcases List.mem_cons.1 hk with rfl | hk
            · exact hgr
            · exact (HOT.out.bl k hk).2
          have hgK : g ∈ KS := by rw [hKS]; simp
          have hvK : ∀ k ∈ bl (.slice B3 acc.length d3), k ∈ KS := fun k hk => by rw [hKS]; exact List.mem_cons_of_mem _ hk
          have h4r : wr.heap.size ≤ w4.heap.size := HO4.out.size
          have hxb : ∀ W, Only w5 W KS → W.cell? ⟨w4.heap.size, 0, none⟩ = some (.int .i64 kd4) ∧ W.cell? ⟨w4.heap.size, 1, none⟩ = some (.string s4) ∧ W.cell? ⟨w4.heap.size, 2, none⟩ = some (.int .i64 n4) ∧ W.cell? ⟨w4.heap.size, 3, none⟩ = some (.slice A34 n34 c34) ∧ W.cell? ⟨w4.heap.size, 4, none⟩ = some (.slice A44 n44 c44) := fun W hW => by
            have h0 := heap_alloc_new w4 (.cells #[.int .i64 kd4, .string s4, .int .i64 n4, .slice A34 n34 c34, .slice A44 n44 c44] 28)
            have h1 := (HO5.out.block _ (by simp) (by simp; omega)).trans h0
            obtain ⟨q0, q1, q2, q3, q4, _⟩ := blk5 ((hW.block _ (Array.getElem?_eq_some_iff.1 h1).1 (fun hm => by have := hKl _ hm; omega)).trans h1)
            exact ⟨q0, q1, q2, q3, q4⟩
          have HALL := Aside0.mk hxb
          have or5 : Only wr w5 [g] := (HO4.out.allocs _).trans HO5.out (fun _ h => .inl h)
          have HOR5 := Aside0.mk or5
          have HKS := Aside0.mk (And.intro hKl (And.intro hgK hvK))
          clear hxb or5 hKl hgK hvK hKS
          go_region_held3 (fun W => W.cell? ⟨w4.heap.size, 0, none⟩ = some (.int .i64 kd4) ∧ W.cell? ⟨w4.heap.size, 1, none⟩ = some (.string s4) ∧ W.cell? ⟨w4.heap.size, 2, none⟩ = some (.int .i64 n4) ∧ W.cell? ⟨w4.heap.size, 3, none⟩ = some (.slice A34 n34 c34) ∧ W.cell? ⟨w4.heap.size, 4, none⟩ = some (.slice A44 n44 c44))
            (first | exact HALL.out _ (by (repeat (first | (with_reducible assumption) | (with_reducible exact Only.refl _ _) | (with_reducible refine Only.allocs ?_ _) | (with_reducible refine Only.drews ?_)))))
            (first
              | (go_at_call 39; refine (HBX.out _ (HP5.out.keep (by (repeat (first | (with_reducible assumption) | (with_reducible exact Only.refl _ _) | (with_reducible refine Only.allocs ?_ _) | (with_reducible refine Only.drews ?_)))))).mono ?_; rintro e w6 ⟨u6, rfl, htv6, hp6, o6⟩; obtain ⟨kd6, s6, n6, A36, n36, c36, A46, n46, c46, rfl⟩ := htv6.five; have q56 : Only w5 w6 KS := Only.trans (by (repeat (first | (with_reducible assumption) | (with_reducible exact Only.refl _ _) | (with_reducible refine Only.allocs ?_ _) | (with_reducible refine Only.drews ?_)))) o6 (fun k hk => .inl (by rw [List.mem_singleton.1 hk]; exact HKS.out.2.1)); have HP6 := Aside0.mk hp6; have HTV6 := Aside0.mk htv6; have ho56 : Only w5 w6 [g] := Only.trans (by (repeat (first | (with_reducible assumption) | (with_reducible exact Only.refl _ _) | (with_reducible refine Only.allocs ?_ _) | (with_reducible refine Only.drews ?_)))) o6 (fun _ h => .inl h); have HO6 := Aside0.mk ho56; have h56 : w5.heap.size ≤ w6.heap.size := ho56.size; have hps := pair_step HTV4.out (((Only.refl w4 [g]).allocs _).trans (HO5.out.trans ho56 (fun _ h => .inl h)) (fun _ h => .inl h)) hgr (TV_move (Q := fun k => wr.heap.size ≤ k) (fun k _ hP => ⟨rfl, Nat.le_trans (by show wr.heap.size ≤ w5.heap.size; omega) hP⟩) b _ htv6) (by omega) 15 ⟨#[]⟩; have HPS := Aside0.mk hps; clear hp6 htv6 o6 ho56 hps)
              | (go_at_call 23; refine HPS.out.mono ?_; rintro e w7 ⟨u7, rfl, htv7, o7⟩; obtain ⟨kd7, s7, n7, A37, n37, c37, A47, n47, c47, rfl⟩ := htv7.five; have q57 : Only w5 w7 KS := q56.trans o7 (by simp); have o57 : Only w5 w7 [g] := HO6.out.trans o7 (by simp); obtain ⟨A8, c8, w8, hrun, hot8, o8, hb8⟩ := app_step HOT.out (HOR5.out.trans o57 (fun _ h => .inl h)) (by simp; omega) HAL.out.size (by omega) htv7 (Nat.le_refl _); have q58 : Only w5 w8 KS := q57.trans o8 (fun k hk => .inl (HKS.out.2.2 k hk)); have HOT8 := Aside0.mk hot8; have HO8 := Aside0.mk o8; have HO57 := Aside0.mk o57; have HB8 := Aside0.mk hb8; have HO7 := Aside0.mk o7; clear htv7 o7 hot8 o8 hb8 o57)
              | (refine step_append_by (by rfl) _ _ _ _ (by rfl) _ _ (by rfl) (by rfl) _ _ hrun ?_; clear hrun))
          have o08 : Only w w8 [g] := ((HAL.out.trans HOR5.out (fun _ h => .inl h)).trans HO57.out (fun _ h => .inl h)).trans HO8.out (fun k hk => .inr (HB8.out k hk))
          have hgb : g ∉ bl (.slice B3 acc.length d3) := fun hm => by have := HB8.out g hm; omega
          have hp8 : PAt w8 g A c T mm m := HP.out.goes o08 ((HO8.out.block g (by have := HO7.out.size; have := HP6.out.g_lt; omega) hgb).trans (HP6.out.keep HO7.out).cell) hmm.2 HP.out.hn
          have HO08 := Aside0.mk o08
          have HP8 := Aside0.mk hp8
          clear o08 hgb hp8
          have hhv := have_c w8 g A c T mm m (⟨#[59]⟩ : ByteArray) HP8.out
          cases hs : isAt T mm (⟨#[59]⟩ : ByteArray) with
          | true =>
            have e2 : clausesS T L (T.length + 1) i [] = clausesS T L gf (mm + 1) (acc ++ [.node 15 gE 0 [] [x, b]]) := by
              rw [HE1.out, if_pos (show isAt T mm sSemi = true from hs)]
            have hmt := isAt_lt hs
            rw [hs] at hhv
            have HHV := Aside0.mk hhv
            have HE2 := Aside0.mk e2
            clear hhv hs e2
            go_wp2_with (go_at_call 46; refine HHV.out.mono ?_; rintro e w9 ⟨rfl, hp9, o9⟩; have HP9 := Aside0.mk hp9; have HO9 := Aside0.mk o9; clear hp9 o9)
            go_roundg gf
            case measure => omega
            case rel =>
              refine ⟨mm + 1, acc ++ [.node 15 gE 0 [] [x, b]], A8, c8, by omega, hmt, by simp; omega, by simp, ⟨by simpa using HP9.out⟩, ⟨?_⟩, ⟨HO08.out.trans HO9.out (fun _ h => .inl h)⟩, HE2⟩
              simpa using HOT8.out.keep HO9.out (by simp; omega)
          | false =>
            have e2 : clausesS T L (T.length + 1) i [] = .ok (acc ++ [.node 15 gE 0 [] [x, b]]) mm := by
              rw [HE1.out, if_neg (by rw [show isAt T mm sSemi = false from hs]; simp)]
            rw [hs] at hhv
            have HHV := Aside0.mk hhv
            have HE2 := Aside0.mk e2
            clear hhv hs e2
            go_wp2_with (go_at_call 46; refine HHV.out.mono ?_; rintro e w9 ⟨rfl, hp9, o9⟩; have HP9 := Aside0.mk hp9; have HO9 := Aside0.mk o9; clear hp9 o9)
            go_ret
            rw [HE2.out]
            exact ⟨A8, c8, by simp, by simpa using (HOT8.out.keep HO9.out (by simp; omega)), by simpa using HP9.out, HO08.out.trans HO9.out (fun _ h => .inl h), by simp; omega⟩
theorem CRet.l {w : World} {g : Nat} {A : Option Addr} {c : Nat} {T : List GT} {m : Nat} {r : PR (List GTree)} {e : Ending} {w' : World} (h : CRet w g A c T m r e w') : LRet w g A c T m r e w' := by
  cases r with
  | bad k code => exact h
  | ok l j =>
    obtain ⟨B, d, rfl, h1, h2, h3, h4⟩ := h
    exact ⟨_, rfl, h1.rt, h2, h3, h4⟩
theorem clauses_c {g : Nat} {A : Option Addr} {c : Nat} {T : List GT} {m : Nat} {L : Lv} (hun : ExOK 64 g A c T m L.un) (hbo : ExOK 39 g A c T m (bodyS T L.ex)) (hL : OnL T L) (w : World) (i : Nat) (h : PAt w g A c T i m) : Calls Tryd.prog 86 #[.pointer (some ⟨g, 0, none⟩)] w (LRet w g A c T m (clausesS T L (T.length + 1) i [])) :=
  (clauses_o hun hbo hL w i h).mono fun _ _ h => h.l
end Go.Proofs.YtejidddjkngoiaaDoor
