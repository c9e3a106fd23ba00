/- gram: a function. gram: what is thrown is caught. gram: Parse. -/
import Derived.Test.YtejidddjkngoiaaDoorGmV
import Derived.Defers
import Derived.Recover
import Derived.Laws.Pointers
namespace Go.Proofs.YtejidddjkngoiaaDoor
open Go.RowKit
set_option linter.all false

set_option maxHeartbeats 4000000
set_option maxRecDepth 100000

/-- Behind a function's parameters. -/
def restS (T : List GT) (s : ByteArray) (l : List GTree) (k : Nat) : PR GTree := (wantS T k sShut).bind fun _ m => (wantS T m sArrow).bind fun _ q => (bodyS T (exprS T (loS T 40)) q).bind fun b r => (wantS T r sDot).bind fun _ z => .ok (.node 17 s 0 [] (l ++ [b])) z
def nextS (T : List GT) (f j : Nat) (acc : List GTree) : PR (List GTree) := match T[j]? with
  | none => .bad j 160
  | some t => if t.kd = 3 then paramsS T f (j + 1) (acc ++ [.node 3 t.s 0 [] []]) else .bad j 160
theorem paramsS_next (T : List GT) (f i : Nat) (acc : List GTree) (h : isAt T i sShut = false) : paramsS T (f + 1) i acc = (if acc.isEmpty then .ok () i else wantS T i sComma).bind fun _ j => nextS T f j acc := by
  conv => lhs; rw [paramsS]
  rw [h]
  rfl
theorem fun_c {g : Nat} {A : Option Addr} {c : Nat} {T : List GT} : ExOK 22 g A c T 40 (funS T) := by
  intro w i h
  have hgl := h.g_lt
  have HP := Aside0.mk h
  have hlen := h.len
  have hb1 : ∀ W, Only (w.alloc (.cells zT 28)) W [g] → W.heap[w.heap.size]? = some (.cells zT 28 (0, 0)) := fun W hW => (hW.block _ (by simp) (by simp; omega)).trans (heap_alloc_new w _)
  have hki := fun W hW => kind_c W g A c T i 40 hW
  have HB1 := Aside0.mk hb1
  clear hb1
  by_cases h2 : kindAt T i = 2
  rotate_left
  · have e0 : funS T i = .bad i 160 := by
      unfold funS
      unfold kindAt at h2
      cases ht : T[i]? with
      | none => rfl
      | some t =>
        rw [ht] at h2
        simp only
        rw [if_neg h2]
    obtain ⟨kd, hkd⟩ : ∃ kd, kd = kindAt T i := ⟨_, rfl⟩
    rw [← hkd] at h2
    simp only [← hkd] at hki
    have e2 : (kd == 2) = false := by simpa using h2
    have hfl := fun W hW => fail_c W g A c T i 40 160 hW
    have HFL := Aside0.mk hfl
    have HK := Aside0.mk hki
    rw [e0]
    clear hki hfl e0 h2 h hkd
    go_enter Tryd.func22, Tryd.ntmps22
    go_wp2_with (first
      | (go_at_call 35; refine (HK.out _ (HP.out.keep (by (repeat (first | (with_reducible assumption) | (with_reducible exact Only.refl _ _) | (with_reducible refine Only.allocs ?_ _) | (with_reducible refine Only.drews ?_)))))).mono ?_; rintro e w2 ⟨rfl, d2⟩; have o2 : Only w w2 [] := Only.trans (by (repeat (first | (with_reducible assumption) | (with_reducible exact Only.refl _ _) | (with_reducible refine Only.allocs ?_ _) | (with_reducible refine Only.drews ?_)))) (d2.only []) (by simp))
      | (go_at_call 36; refine (HFL.out _ (HP.out.keep o2)).mono ?_; rintro e w3 ⟨rfl, rfl⟩))
    exact ⟨rfl, rfl, o2.weaken (by simp)⟩
  obtain ⟨t, ht, hk⟩ : ∃ t, T[i]? = some t ∧ t.kd = 2 := by
    unfold kindAt at h2
    cases ht : T[i]? with
    | none => rw [ht] at h2; cases h2
    | some t => rw [ht] at h2; exact ⟨t, rfl, h2⟩
  have hi : i < T.length := (List.getElem?_eq_some_iff.1 ht).1
  have e0 : funS T i = (wantS T (i + 1) sOpen).bind fun _ j => (paramsS T (T.length + 1) j []).bind (restS T t.s) := by
    unfold funS
    rw [ht]
    simp only
    rw [if_pos hk]
    rfl
  obtain ⟨b, o, A3, c3, rfl, hbg, t0, t1, t2, t3, _, tb⟩ := h.tok ht
  have hbw : b < w.heap.size := World.block_lt_of_cell? _ _ t0
  simp only [h2] at hki
  have HK := Aside0.mk hki
  have HT1 := Aside0.mk t1
  obtain ⟨R, hR⟩ : ∃ R, R = funS T i := ⟨_, rfl⟩
  rw [← hR] at e0
  rw [← hR]
  have hwo := fun W hW => want_c W g (some ⟨b, o, none⟩) c T (i + 1) 40 sOpen hW
  have z0 : (i : Int) < (T.length : Int) := by omega
  have z1 : (0 : Int) ≤ (i : Int) := by omega
  clear hki h ht hk t0 t1 t2 t3 tb hR h2
  go_enter Tryd.func22, Tryd.ntmps22
  go_wp2_with (go_at_call 35; refine (HK.out _ (HP.out.keep (by (repeat (first | (with_reducible assumption) | (with_reducible exact Only.refl _ _) | (with_reducible refine Only.allocs ?_ _) | (with_reducible refine Only.drews ?_)))))).mono ?_; rintro e w2 ⟨rfl, d2⟩; have o2 : Only w w2 [] := Only.trans (by (repeat (first | (with_reducible assumption) | (with_reducible exact Only.refl _ _) | (with_reducible refine Only.allocs ?_ _) | (with_reducible refine Only.drews ?_)))) (d2.only []) (by simp); have o12 := d2.only [g]; have hp2 := HP.out.keep o2; obtain ⟨x0, x1, x2, xf0, xf1, xf2⟩ := blk3 hp2.cell; have t1 := (World.cell?_of_block (o2.block b hbw (by simp))).trans HT1.out; have HP2 := Aside0.mk hp2; have HO2 := Aside0.mk o2; have HO12 := Aside0.mk o12; clear d2 hp2 o2 o12)
  go_quiet (fail)
  clear t1 x0 x1 x2 xf0 xf1 xf2
  obtain ⟨w3, hw3⟩ : ∃ w3, w3 = w2.drewN nq := ⟨_, rfl⟩
  rw [← hw3]
  have d23 : Dr w2 w3 := ⟨nq, hw3⟩
  have hp3 := HP2.out.keep (d23.only [])
  obtain ⟨x0, x1, x2, xf0, xf1, xf2⟩ := blk3 hp3.cell
  have hg3 := hp3.g_lt
  clear hw3
  go_upto_region 5 with fail
  obtain ⟨w4, hw4⟩ : ∃ w4, w4 = w3.setCell ⟨g, 1, none⟩ (.int .i64 ((i : Int) + 1)) := ⟨_, rfl⟩
  rw [← hw4]
  obtain ⟨hp4, o34⟩ := hp3.step (j := i + 1) hi
  rw [show (((i + 1 : Nat) : Int)) = (i : Int) + 1 by omega, ← hw4] at hp4 o34
  have q24 : Only w2 w4 [g] := (d23.only [g]).trans o34 (fun _ h => .inl h)
  have q4 : Only w w4 [g] := (HO2.out.weaken (by simp)).trans q24 (fun _ h => .inl h)
  have hb4 := HB1.out w4 (HO12.out.trans q24 (fun _ h => .inl h))
  have hwo4 := hwo w4 hp4
  have HQ4 := Aside0.mk q4
  have HB4 := Aside0.mk hb4
  clear hw4 hp3 hp4 o34 d23 q24 q4 hb4 x0 x1 x2 xf0 xf1 xf2 hwo
  cases hw1 : wantS T (i + 1) sOpen with
  | bad k code =>
    have HE1 : Aside0 (R = .bad k code) := ⟨by rw [e0, hw1]; rfl⟩
    rw [hw1] at hwo4
    have HWO := Aside0.mk hwo4
    clear hwo4 hw1 e0
    go_wp2_with (go_at_call 37; refine HWO.out.mono ?_; rintro e w5 ⟨rfl, o5⟩)
    refine ⟨rfl, ?_⟩
    rw [HE1.out]
    exact ⟨rfl, HQ4.out.trans o5 (fun _ h => .inl h)⟩
  | ok y1 j1 =>
    have HE1 : Aside0 (R = (paramsS T (T.length + 1) j1 []).bind (restS T t.s)) := ⟨by rw [e0, hw1]; rfl⟩
    have hj1 := wantS_on T (i + 1) _ y1 j1 hw1
    rw [hw1] at hwo4
    have HWO := Aside0.mk hwo4
    have hbz4 : w.heap.size < w4.heap.size := (Array.getElem?_eq_some_iff.1 HB4.out).1
    clear hwo4 hw1 e0
    go_wp2_with (go_at_call 37; refine HWO.out.mono ?_; rintro e w5 ⟨rfl, hp5, o5⟩; have HP5 := Aside0.mk hp5; have HO5 := Aside0.mk o5; clear hp5 o5)
    have q5 : Only w w5 [g] := HQ4.out.trans HO5.out (fun _ h => .inl h)
    have hb5 := (HO5.out.block _ hbz4 (by simp; omega)).trans HB4.out
    have HQ5 := Aside0.mk q5
    have HB5 := Aside0.mk hb5
    clear q5 hb5
    go_loopg [4] (T.length + 1) (fun gk v4 wr => ∃ (i' : Nat) (acc : List GTree) (B4 : Option Addr) (d4 : Nat), T.length < gk + i' ∧ i' ≤ T.length ∧ acc.length ≤ i' ∧ v4 = .slice B4 acc.length d4 ∧ Aside0 (PAt wr g (some ⟨b, o, none⟩) c T i' 40) ∧ Aside0 (OT wr (w.heap.size + 1) (.slice B4 acc.length d4) acc) ∧ Aside0 (Only w wr [g]) ∧ Aside0 (wr.heap[w.heap.size]? = some (.cells zT 28 (0, 0))) ∧ Aside0 (R = (paramsS T gk i' acc).bind (restS T t.s)))
    case atStart => exact ⟨j1, [], none, 0, by omega, hj1.2, by simp, rfl, HP5, ⟨OT.nil _ _⟩, HQ5, HB5, HE1⟩
    case round =>
      obtain ⟨i', acc, B4, d4, hf, hi', hac, rfl, HPR, HOT, HAL, HBR, HEQ⟩ := hrel
      obtain ⟨gf, rfl⟩ : ∃ gf, gk = gf + 1 := ⟨gk - 1, by omega⟩
      have his := is_c wr g _ c T i' 40 sShut HPR.out
      have hbl : w.heap.size < wr.heap.size := (Array.getElem?_eq_some_iff.1 HBR.out).1
      have hgr := HPR.out.g_lt
      cases hb : isAt T i' sShut with
      | true =>
        rw [hb] at his
        have HIS := Aside0.mk his
        have HEN : Aside0 (R = restS T t.s acc i') := ⟨by rw [HEQ.out, paramsS, hb]; rfl⟩
        have hlt := isAt_lt hb
        have hws := fun W hW => want_c W g (some ⟨b, o, none⟩) c T i' 40 sShut hW
        have es : wantS T i' sShut = .ok () (i' + 1) := by simp [wantS, hb]
        simp only [es] at hws
        have HWS := Aside0.mk hws
        have hwa := fun W hW => want_c W g (some ⟨b, o, none⟩) c T (i' + 1) 40 sArrow hW
        have ea : R = (wantS T (i' + 1) sArrow).bind fun _ q => (bodyS T (exprS T (loS T 40)) q).bind fun b r => (wantS T r sDot).bind fun _ z => .ok (.node 17 t.s 0 [] (acc ++ [b])) z := by
          rw [HEN.out]
          simp only [restS, es, PR.bind]
        clear his hb hws es HEQ
        cases hw2 : wantS T (i' + 1) sArrow with
        | bad k code =>
          have HE2 : Aside0 (R = .bad k code) := ⟨by rw [ea, hw2]; rfl⟩
          simp only [hw2] at hwa
          have HWA := Aside0.mk hwa
          clear hwa hw2 ea
          go_wp2_with (first
            | (go_at_call 37; refine (HWA.out _ HP7.out).mono ?_; rintro e w8 ⟨rfl, o8⟩)
            | (go_at_call 38; refine HIS.out.mono ?_; rintro e w6 ⟨rfl, d6⟩; have HD6 := Aside0.mk d6; clear d6)
            | (go_at_call 37; refine (HWS.out w6 (HPR.out.keep (HD6.out.only []))).mono ?_; rintro e w7 ⟨rfl, hp7, o7⟩; have HP7 := Aside0.mk hp7; have HO7 := Aside0.mk o7; clear hp7 o7))
          refine ⟨rfl, ?_⟩
          rw [HE2.out]
          exact ⟨rfl, ((HAL.out.trans (HD6.out.only [g]) (fun _ h => .inl h)).trans HO7.out (fun _ h => .inl h)).trans o8 (fun _ h => .inl h)⟩
        | ok y2 j2 =>
          have hj2 := wantS_on T (i' + 1) _ y2 j2 hw2
          have eb : R = (bodyS T (exprS T (loS T 40)) j2).bind fun b r => (wantS T r sDot).bind fun _ z => .ok (.node 17 t.s 0 [] (acc ++ [b])) z := by rw [ea, hw2]; rfl
          simp only [hw2] at hwa
          have HWA := Aside0.mk hwa
          have hbo := fun W hW => body_all g (some ⟨b, o, none⟩) c T 40 W j2 hW
          clear hwa hw2 ea
          cases hbb : bodyS T (exprS T (loS T 40)) j2 with
          | bad k code =>
            have HE2 : Aside0 (R = .bad k code) := ⟨by rw [eb, hbb]; rfl⟩
            simp only [hbb] at hbo
            have HBO := Aside0.mk hbo
            clear hbo hbb eb
            go_wp2_with (first
              | (go_at_call 39; refine (HBO.out _ HP8.out).mono ?_; rintro e w9 ⟨rfl, o9⟩)
              | (go_at_call 37; refine (HWA.out _ HP7.out).mono ?_; rintro e w8 ⟨rfl, hp8, o8⟩; have HP8 := Aside0.mk hp8; have HO8 := Aside0.mk o8; clear hp8 o8)
              | (go_at_call 38; refine HIS.out.mono ?_; rintro e w6 ⟨rfl, d6⟩; have HD6 := Aside0.mk d6; clear d6)
              | (go_at_call 37; refine (HWS.out w6 (HPR.out.keep (HD6.out.only []))).mono ?_; rintro e w7 ⟨rfl, hp7, o7⟩; have HP7 := Aside0.mk hp7; have HO7 := Aside0.mk o7; clear hp7 o7))
            refine ⟨rfl, ?_⟩
            rw [HE2.out]
            exact ⟨rfl, (((HAL.out.trans (HD6.out.only [g]) (fun _ h => .inl h)).trans HO7.out (fun _ h => .inl h)).trans HO8.out (fun _ h => .inl h)).trans o9 (fun _ h => .inl h)⟩
          | ok bb r =>
            have hr := bodyS_on (exprS_on (loS_on T 40)) j2 bb r hbb
            have ed : R = (wantS T r sDot).bind fun _ z => .ok (.node 17 t.s 0 [] (acc ++ [bb])) z := by rw [eb, hbb]; rfl
            simp only [hbb] at hbo
            have HBO := Aside0.mk hbo
            have hwd := fun W hW => want_c W g (some ⟨b, o, none⟩) c T r 40 sDot hW
            clear hbo hbb eb
            go_upto_region 17 with (first
              | (go_at_call 39; refine (HBO.out _ HP8.out).mono ?_; rintro e w9 ⟨u9, rfl, htv9, hp9, o9⟩; obtain ⟨kd9, s9, n9, A39, n39, c39, A49, n49, c49, rfl⟩ := htv9.five; have o29 : Only wr w9 [g] := (((HD6.out.only [g]).trans HO7.out (fun _ h => .inl h)).trans HO8.out (fun _ h => .inl h)).trans o9 (fun _ h => .inl h); obtain ⟨A10, c10, w10, hrun, hot10, o10, hb10⟩ := app_step HOT.out o29 (by simp; omega) (by omega) (by omega) htv9 (by have h6 := (HD6.out.only []).size; have h7 := HO7.out.size; have h8 := HO8.out.size; omega); have HOT10 := Aside0.mk hot10; have HO10 := Aside0.mk o10; have HB10 := Aside0.mk hb10; have HO29 := Aside0.mk o29; have HP9 := Aside0.mk hp9; clear htv9 hp9 o9 o29 hot10 o10 hb10)
              | (at_builtin; refine wpList_append_by rfl _ _ _ _ rfl _ _ rfl rfl _ _ hrun ?_; clear hrun)
              | (go_at_call 37; refine (HWA.out _ HP7.out).mono ?_; rintro e w8 ⟨rfl, hp8, o8⟩; have HP8 := Aside0.mk hp8; have HO8 := Aside0.mk o8; clear hp8 o8)
              | (go_at_call 38; refine HIS.out.mono ?_; rintro e w6 ⟨rfl, d6⟩; have HD6 := Aside0.mk d6; clear d6)
              | (go_at_call 37; refine (HWS.out w6 (HPR.out.keep (HD6.out.only []))).mono ?_; rintro e w7 ⟨rfl, hp7, o7⟩; have HP7 := Aside0.mk hp7; have HO7 := Aside0.mk o7; clear hp7 o7))
            have o10w : Only w w10 [g] := (HAL.out.trans HO29.out (fun _ h => .inl h)).trans HO10.out (fun k hk => .inr (by have := HB10.out k hk; omega))
            have hz9 := HO29.out.size
            have hz10 := HO10.out.size
            have hgb : g ∉ bl (.slice B4 acc.length d4) := fun hm => by have := HB10.out g hm; omega
            have hwb : w.heap.size ∉ bl (.slice B4 acc.length d4) := fun hm => by have := HB10.out _ hm; omega
            have hp10 : PAt w10 g (some ⟨b, o, none⟩) c T r 40 := HP.out.goes o10w ((HO10.out.block g (by omega) hgb).trans HP9.out.cell) hr.2 HP.out.hn
            have hb10' : w10.heap[w.heap.size]? = some (.cells zT 28 (0, 0)) := (HO10.out.block _ (by omega) hwb).trans ((HO29.out.block _ hbl (by simp; omega)).trans HBR.out)
            have HP10 := Aside0.mk hp10
            have HB10' := Aside0.mk hb10'
            have HO10w := Aside0.mk o10w
            clear hgb hwb hp10 hb10' o10w
            cases hwdd : wantS T r sDot with
            | bad k code =>
              have HE2 : Aside0 (R = .bad k code) := ⟨by rw [ed, hwdd]; rfl⟩
              simp only [hwdd] at hwd
              have HWD := Aside0.mk hwd
              clear hwd hwdd ed
              go_wp2_with (go_at_call 37; refine (HWD.out _ HP10.out).mono ?_; rintro e w11 ⟨rfl, o11⟩)
              refine ⟨rfl, ?_⟩
              rw [HE2.out]
              exact ⟨rfl, HO10w.out.trans o11 (fun _ h => .inl h)⟩
            | ok yz z =>
              have HE2 : Aside0 (R = .ok (.node 17 t.s 0 [] (acc ++ [bb])) z) := ⟨by rw [ed, hwdd]; rfl⟩
              simp only [hwdd] at hwd
              have HWD := Aside0.mk hwd
              clear hwd hwdd ed
              go_wp2_with (first
                | (go_at_call 23; refine (tree_c w11 (fun k => w.heap.size + 1 ≤ k) 17 t.s _ (acc ++ [bb]) HRT11.out (by simp; omega)).mono ?_; rintro e w12 ⟨u12, rfl, htv12, o12⟩; obtain ⟨kd12, s12, n12, A312, n312, c312, A412, n412, c412, rfl⟩ := htv12.five; have hb12 := (o12.block _ (by have := HO11.out.size; omega) (by simp)).trans ((HO11.out.block _ (by omega) (by simp; omega)).trans HB10'.out); obtain ⟨y0, y1, y2, y3, y4, yf0, yf1, yf2, yf3, yf4⟩ := blk5 hb12; have HB12 := Aside0.mk hb12; have HTV12 := Aside0.mk htv12; have HO12 := Aside0.mk o12; clear hb12 htv12 o12)
                | (go_at_call 37; refine (HWD.out _ HP10.out).mono ?_; rintro e w11 ⟨rfl, hp11, o11⟩; have hrt11 := (HOT10.out.keep o11 (by simp; omega)).rt; have HRT11 : Aside0 (RT w11 (fun k => w.heap.size + 1 ≤ k) (.slice A10 (acc.length + 1) c10) (acc ++ [bb])) := ⟨by simpa using hrt11⟩; have HP11 := Aside0.mk hp11; have HO11 := Aside0.mk o11; clear hp11 o11 hrt11))
              have hz11 := HO11.out.size
              obtain ⟨k1, k2, k3, k4⟩ := fin_step HP.out (HP11.out.keep HO12.out) ((HO10w.out.trans HO11.out (fun _ h => .inl h)).trans HO12.out (by simp)) (.int .i64 kd12) (.string s12) (.int .i64 n12) (.slice A312 n312 c312) (.slice A412 n412 c412) HB12.out (TV_move (Q := fun k => w.heap.size + 1 ≤ k) (fun k hk hP => ⟨rfl, by rcases hP with hP | hP <;> omega⟩) _ _ HTV12.out) (Nat.lt_succ_self _) _ (Only.refl _ [])
              obtain ⟨f0, f1, f2, f3, f4, _⟩ := blk5 k4
              refine bodyPost_ret (v := .agg #[.int .i64 kd12, .string s12, .int .i64 n12, .slice A312 n312 c312, .slice A412 n412 c412]) (by simp [results, Tryd.results22, go_sem, f0, f1, f2, f3, f4]) rfl ?_
              rw [HE2.out]
              exact ⟨_, rfl, k1, k2, k3⟩
      | false =>
        rw [hb] at his
        have HIS := Aside0.mk his
        have HEN : Aside0 (R = ((if acc.isEmpty then PR.ok () i' else wantS T i' sComma).bind fun _ j => nextS T gf j acc).bind (restS T t.s)) := ⟨by rw [HEQ.out, paramsS_next T gf i' acc hb]⟩
        clear his hb
        go_upto_if 35 with (go_at_call 38; refine HIS.out.mono ?_; rintro e w6 ⟨rfl, d6⟩; have HD6 := Aside0.mk d6; clear d6)
        go_cut [4] (fun s4 wx => ∃ j : Nat, s4 = .slice B4 acc.length d4 ∧ j ≤ T.length ∧ i' ≤ j ∧ Aside0 (R = (nextS T gf j acc).bind (restS T t.s)) ∧ Aside0 (PAt wx g (some ⟨b, o, none⟩) c T j 40) ∧ Aside0 (Only wr wx [g]))
        case first =>
          cases acc with
          | nil =>
            have HE2 : Aside0 (R = (nextS T gf i' []).bind (restS T t.s)) := ⟨HEN.out⟩
            go_wp2_with fail
            go_meet
            exact ⟨i', rfl, hi', Nat.le_refl _, HE2, ⟨HPR.out.keep (HD6.out.only [])⟩, ⟨HD6.out.only [g]⟩⟩
          | cons a0 accr =>
            have hwc := want_c w6 g _ c T i' 40 sComma (HPR.out.keep (HD6.out.only []))
            have hpos : 0 < (a0 :: accr).length := by simp
            cases hw2 : wantS T i' sComma with
            | bad k code =>
              have HE2 : Aside0 (R = .bad k code) := ⟨by rw [HEN.out]; simp [hw2, PR.bind]⟩
              rw [hw2] at hwc
              have HWC := Aside0.mk hwc
              clear hwc hw2
              go_wp2_with (go_at_call 37; refine HWC.out.mono ?_; rintro e w7 ⟨rfl, o7⟩)
              refine ⟨rfl, ?_⟩
              rw [HE2.out]
              exact ⟨rfl, (HAL.out.trans (HD6.out.only [g]) (fun _ h => .inl h)).trans o7 (fun _ h => .inl h)⟩
            | ok y2 j2 =>
              have HE2 : Aside0 (R = (nextS T gf j2 (a0 :: accr)).bind (restS T t.s)) := ⟨by rw [HEN.out]; simp [hw2, PR.bind]⟩
              have hj2 := wantS_on T i' _ y2 j2 hw2
              rw [hw2] at hwc
              have HWC := Aside0.mk hwc
              clear hwc hw2
              go_wp2_with (go_at_call 37; refine HWC.out.mono ?_; rintro e w7 ⟨rfl, hp7, o7⟩)
              go_meet
              exact ⟨j2, rfl, hj2.2, by omega, HE2, ⟨hp7⟩, ⟨(HD6.out.only [g]).trans o7 (fun _ h => .inl h)⟩⟩
        case rest =>
          obtain ⟨j, rfl, hj, hij, HE2, HPX, HOX⟩ := hcut
          have hbX := (HOX.out.block _ hbl (by simp; omega)).trans HBR.out
          have hki := kind_c wc g _ c T j 40 HPX.out
          obtain ⟨kd, hkd⟩ : ∃ kd, kd = kindAt T j := ⟨_, rfl⟩
          rw [← hkd] at hki
          have HK3 := Aside0.mk hki
          have HBX := Aside0.mk hbX
          clear hki hbX
          by_cases h3 : kd = 3
          rotate_left
          · have HE3 : Aside0 (R = .bad j 160) := ⟨by
              rw [HE2.out]
              unfold nextS
              unfold kindAt at hkd
              cases ht : T[j]? with
              | none => rfl
              | some t2 =>
                rw [ht] at hkd
                simp only
                rw [if_neg (fun e => h3 (hkd.trans e))]
                rfl⟩
            have e3 : (kd == 3) = false := by simpa using h3
            have hfl := fun W hW => fail_c W g (some ⟨b, o, none⟩) c T j 40 160 hW
            have HFL := Aside0.mk hfl
            clear hfl hkd h3
            go_wp2_with (first
              | (go_at_call 35; refine HK3.out.mono ?_; rintro e w8 ⟨rfl, d8⟩)
              | (go_at_call 36; refine (HFL.out _ (HPX.out.keep (d8.only []))).mono ?_; rintro e w9 ⟨rfl, rfl⟩))
            refine ⟨rfl, ?_⟩
            rw [HE3.out]
            exact ⟨rfl, (HAL.out.trans HOX.out (fun _ h => .inl h)).trans (d8.only [g]) (fun _ h => .inl h)⟩
          · subst h3
            obtain ⟨t2, ht2, hk2⟩ : ∃ t2, T[j]? = some t2 ∧ t2.kd = 3 := by
              unfold kindAt at hkd
              cases ht : T[j]? with
              | none => rw [ht] at hkd; cases hkd
              | some t2 => rw [ht] at hkd; exact ⟨t2, rfl, hkd.symm⟩
            have hjt : j < T.length := (List.getElem?_eq_some_iff.1 ht2).1
            have HE3 : Aside0 (R = (paramsS T gf (j + 1) (acc ++ [.node 3 t2.s 0 [] []])).bind (restS T t.s)) := ⟨by
              rw [HE2.out]
              unfold nextS
              rw [ht2]
              simp only
              rw [if_pos hk2]⟩
            obtain ⟨b', o', A3', c3', hA, hb'g, t0', t1', _⟩ := HPX.out.tok ht2
            cases hA
            have HT1' := Aside0.mk t1'
            clear hkd ht2 hk2 t0' t1'
            go_upto_region 12 with (go_at_call 35; refine HK3.out.mono ?_; rintro e w8 ⟨rfl, d8⟩; have HD8 := Aside0.mk d8; clear d8)
            have hp8 := HPX.out.keep (HD8.out.only [])
            have z2 : (j : Int) < (T.length : Int) := by omega
            have z3 : (0 : Int) ≤ (j : Int) := by omega
            obtain ⟨KS, hKS⟩ : ∃ KS, KS = bl (.slice B4 acc.length d4) := ⟨_, rfl⟩
            have hbK : ∀ k ∈ KS, w.heap.size + 1 ≤ k ∧ k < wr.heap.size := fun k hk => by rw [hKS] at hk; exact HOT.out.bl k hk
            have hall : ∀ W, Only w8 W KS → W.cell? ⟨g, 0, none⟩ = some (.slice (some ⟨b, o, none⟩) T.length c) ∧ W.cell? ⟨g, 1, none⟩ = some (.int .i64 j) ∧ W.cell? ⟨b, o + j * 5 + 1, none⟩ = some (.string t2.s) := fun W hW => by
              have hg1 := (hW.block g hp8.g_lt (fun hm => by have := hbK _ hm; omega)).trans hp8.cell
              obtain ⟨x0, x1, _⟩ := blk3 hg1
              have h8 := (World.cell?_of_block ((HD8.out.only []).block b (World.block_lt_of_cell? _ _ HT1'.out) (by simp))).trans HT1'.out
              exact ⟨x0, x1, (World.cell?_of_block (hW.block b (World.block_lt_of_cell? _ _ h8) (fun hm => by have := hbK _ hm; omega))).trans h8⟩
            have HALL := Aside0.mk hall
            have HP8 := Aside0.mk hp8
            have HKS := Aside0.mk hKS
            have hq8 : Only wr w8 [g] := HOX.out.trans (HD8.out.only [g]) (fun _ h => .inl h)
            have HQ8 := Aside0.mk hq8
            have HB8 := Aside0.mk (((HD8.out.only []).block _ (Array.getElem?_eq_some_iff.1 HBX.out).1 (by simp)).trans HBX.out)
            clear hall hp8 hKS hq8 hbK
            go_region_held3 (fun W => W.cell? ⟨g, 0, none⟩ = some (.slice (some ⟨b, o, none⟩) T.length c) ∧ W.cell? ⟨g, 1, none⟩ = some (.int .i64 j) ∧ W.cell? ⟨b, o + j * 5 + 1, none⟩ = some (.string t2.s))
              (first | exact HALL.out _ (by (repeat (first | (with_reducible assumption) | (with_reducible exact Only.refl _ _) | (with_reducible refine Only.allocs ?_ _) | (with_reducible refine Only.drews ?_)))))
              (first
                | (go_at_call 23; refine (tree_c _ (fun k => w8.heap.size ≤ k) 3 t2.s (.slice none 0 0) [] (RT.nil _ _) (by simp)).mono ?_; rintro e w9 ⟨u9, rfl, htv9, o9⟩; obtain ⟨kd9, s9, n9, A39, n39, c39, A49, n49, c49, rfl⟩ := htv9.five; have q89 : Only w8 w9 [] := Only.trans (by (repeat (first | (with_reducible assumption) | (with_reducible exact Only.refl _ _) | (with_reducible refine Only.allocs ?_ _) | (with_reducible refine Only.drews ?_)))) o9 (by simp); have p89 : Only w8 w9 KS := q89.weaken (by simp); obtain ⟨A10, c10, w10, hrun, hot10, o10, hb10⟩ := app_step (s := w8.heap.size) HOT.out (HQ8.out.trans q89 (by simp)) (by simp; omega) (by omega) (by omega) (TV_move (Q := fun k => w8.heap.size ≤ k) (fun k _ hP => ⟨rfl, hP.elim id id⟩) _ _ htv9) HQ8.out.size; have p810 : Only w8 w10 KS := p89.trans o10 (fun k hk => .inl (by rw [HKS.out]; exact hk)); have HOT10 := Aside0.mk hot10; have HO10 := Aside0.mk o10; have HB10 := Aside0.mk hb10; have HO89 := Aside0.mk q89; clear htv9 o9 q89 hot10 o10 hb10)
                | (refine step_append_by (by rfl) _ _ _ _ (by rfl) _ _ (by rfl) (by rfl) _ _ hrun ?_; clear hrun))
            have o10w : Only w w10 [g] := (((HAL.out.trans HQ8.out (fun _ h => .inl h)).trans HO89.out (by simp))).trans HO10.out (fun k hk => .inr (by have := HB10.out k hk; omega))
            have hz8 := HQ8.out.size
            have hz9 := HO89.out.size
            have hgb : g ∉ bl (.slice B4 acc.length d4) := fun hm => by have := HB10.out g hm; omega
            have hwb : w.heap.size ∉ bl (.slice B4 acc.length d4) := fun hm => by have := HB10.out _ hm; omega
            have hp10 : PAt w10 g (some ⟨b, o, none⟩) c T j 40 := HP.out.goes o10w ((HO10.out.block g (by omega) hgb).trans (HP8.out.keep HO89.out).cell) hj HP.out.hn
            have hb10' : w10.heap[w.heap.size]? = some (.cells zT 28 (0, 0)) := (HO10.out.block _ (by omega) hwb).trans ((HO89.out.block _ (by omega) (by simp)).trans HB8.out)
            obtain ⟨x0, x1, x2, xf0, xf1, xf2⟩ := blk3 hp10.cell
            have hg10 := hp10.g_lt
            obtain ⟨hp11, o1011⟩ := hp10.step (j := j + 1) hjt
            rw [show (((j + 1 : Nat) : Int)) = (j : Int) + 1 by omega] at hp11 o1011
            have S11 := Aside0.mk (And.intro hp11 (And.intro o1011 (And.intro o10w hb10')))
            clear hgb hwb hp10 hb10' hp11 o1011 o10w
            go_wp2_with fail
            go_roundg gf
            case measure => omega
            case rel =>
              obtain ⟨hp11, o1011, o10w, hb10'⟩ := S11.out
              have hbz : w.heap.size < w10.heap.size := (Array.getElem?_eq_some_iff.1 hb10').1
              exact ⟨j + 1, acc ++ [.node 3 t2.s 0 [] []], A10, c10, by omega, hjt, by simp; omega, by simp, ⟨hp11⟩, ⟨by simpa using HOT10.out.keep o1011 (by simp; omega)⟩, ⟨o10w.trans o1011 (fun _ h => .inl h)⟩, ⟨(o1011.block _ hbz (by simp; omega)).trans hb10'⟩, HE3⟩
set_option maxHeartbeats 4000000
set_option maxRecDepth 100000

theorem wp_gen {P : Program} {cd : Code} {Q : Exit → Act → World → Prop} {a : Act} {w : World} (h : ∀ Q', Q' = Q → Code.wp P cd Q' a w) : Code.wp P cd Q a w := h Q rfl
theorem run_fault (v : Value) (xT : TypeId) (w : World) : (Instr.typeAssert (.iface 55 v) xT 55 true).run Tryd.prog w = .ok (.tuple #[v, .bool true]) w := by
  simp [Instr.typeAssert, run_underlying Tryd.underlying55, go_sem, Result.andThen]
theorem und20 : Tryd.prog.underlying 20 = some (.interface (Tryd.prog.methodsAt 20)) := by kernel_rfl
theorem eq_held (v : Value) (w : World) : (binOp .eql 20 (.iface 55 v) .nilIface).run Tryd.prog w = .ok (.bool false) w := run_eql_held_nil (h := und20) (u := 55) (x := v) ..
theorem eq_nil (w : World) : (binOp .eql 20 .nilIface .nilIface).run Tryd.prog w = .ok (.bool true) w := run_eql_nil_nil (h := und20) ..
theorem catch_throw (b0 b1 b2 : Nat) (k : Nat) (code : Int) (w : World) {a0 a1 a2 a3 a4 vat ve : Value} (h0 : w.heap[b0]? = some (.cells #[a0, a1, a2, a3, a4] 28 (0, 0))) (h1 : w.heap[b1]? = some (.cells #[vat] 3 (0, 0))) (h2 : w.heap[b2]? = some (.cells #[ve] 29 (0, 0))) (hne : b0 ≠ b1 ∧ b0 ≠ b2 ∧ b1 ≠ b2) :
    CallsD Tryd.prog 21 #[.pointer (some ⟨b0, 0, none⟩), .pointer (some ⟨b1, 0, none⟩), .pointer (some ⟨b2, 0, none⟩)] (.panicking [{ v := .iface 55 (.agg #[.int .i64 k, .int .i64 code]), recovered := false }]) w fun e u' w' =>
      e = .returned (.tuple #[]) ∧ u' = .panicking [{ v := .iface 55 (.agg #[.int .i64 k, .int .i64 code]), recovered := true }] ∧ Only w w' [b0, b1, b2] ∧ w'.heap[b0]? = some (.cells zT 28 (0, 0)) ∧ w'.heap[b1]? = some (.cells #[.int .i64 k] 3 (0, 0)) ∧ w'.heap[b2]? = some (.cells #[.int .i64 code] 29 (0, 0)) := by
  obtain ⟨x0, x1, x2, x3, x4, xf0, xf1, xf2, xf3, xf4⟩ := blk5 h0
  have hta := run_fault
  have heq := eq_held
  refine callsD_of_wpS Tryd.func21 rfl fun c₀ cs hu => ?_
  apply wpS_seq
  apply wpS_region
  simp [wpOpsS, go_sem, recoverD, hu, Tryd.ntmps21, Exit.thenS]
  refine wpS_of_wp ?_
  simp only [List.size_toArray, List.length_cons, List.length_nil, Nat.reduceAdd, Nat.reduceSub, Array.replicate_succ, Array.replicate_zero, List.push_toArray, List.append_toArray, List.nil_append, List.cons_append, List.setIfInBounds_toArray, List.set_cons_succ, List.set_cons_zero]
  refine wp_gen fun Q hQ => ?_
  have HQ := Aside0.mk hQ
  have HU := Aside0.mk hu
  clear hQ hu
  go_upto_region 5 with fail
  obtain ⟨w1, hw1⟩ : ∃ w1, w1 = w.alloc (.cells #[.int .i64 k, .int .i64 code] 55) := ⟨_, rfl⟩
  rw [← hw1]
  have o1 : Only w w1 [] := by rw [hw1]; exact Only.alloc w _ []
  have hf1 : w1.heap[w.heap.size]? = some (.cells #[.int .i64 k, .int .i64 code] 55 (0, 0)) := by rw [hw1]; exact heap_alloc_new w _
  have q0 : w1.cell? ⟨w.heap.size, 0, none⟩ = some (.int .i64 k) := by rw [Lib.cell_of_heap hf1]; rfl
  have q1 : w1.cell? ⟨w.heap.size, 1, none⟩ = some (.int .i64 code) := by rw [Lib.cell_of_heap hf1]; rfl
  have hl0 := (Array.getElem?_eq_some_iff.1 h0).1
  have hl1 := (Array.getElem?_eq_some_iff.1 h1).1
  have hl2 := (Array.getElem?_eq_some_iff.1 h2).1
  have g0 := (o1.block b0 hl0 (by simp)).trans h0
  have g1 := (o1.block b1 hl1 (by simp)).trans h1
  have g2 := (o1.block b2 hl2 (by simp)).trans h2
  clear x0 x1 x2 x3 x4 xf0 xf1 xf2 xf3 xf4
  obtain ⟨x0, x1, x2, x3, x4, xf0, xf1, xf2, xf3, xf4⟩ := blk5 g0
  have y0 : w1.cell? ⟨b1, 0, none⟩ = some vat := by rw [Lib.cell_of_heap g1]; rfl
  have yf0 : w1.frozen? ⟨b1, 0, none⟩ = false := Lib.frozen_of_heap g1 0
  have z0 : w1.cell? ⟨b2, 0, none⟩ = some ve := by rw [Lib.cell_of_heap g2]; rfl
  have zf0 : w1.frozen? ⟨b2, 0, none⟩ = false := Lib.frozen_of_heap g2 0
  obtain ⟨n01, n02, n12⟩ := hne
  have m0 : b0 ≠ w.heap.size := by omega
  have m1 : b1 ≠ w.heap.size := by omega
  have m2 : b2 ≠ w.heap.size := by omega
  have HH := Aside0.mk (And.intro o1 (And.intro g0 (And.intro g1 g2)))
  have k0 : b0 < w1.heap.size := by have := o1.size; omega
  have k1 : b1 < w1.heap.size := by have := o1.size; omega
  have k2 : b2 < w1.heap.size := by have := o1.size; omega
  clear hw1 o1 hf1 g0 g1 g2 h0 h1 h2 hta heq
  go_region
  obtain ⟨o1, g0, g1, g2⟩ := HH.out
  obtain ⟨w5, hw5⟩ : ∃ w5, w5 = ((((w1.setCell ⟨b0, 0, none⟩ (.int .i64 0)).setCell ⟨b0, 1, none⟩ (.string ⟨#[]⟩)).setCell ⟨b0, 2, none⟩ (.int .i64 0)).setCell ⟨b0, 3, none⟩ (.slice none 0 0)).setCell ⟨b0, 4, none⟩ (.slice none 0 0) := ⟨_, rfl⟩
  rw [← hw5]
  have h5 : w5.heap[b0]? = some (.cells zT 28 (0, 0)) := by rw [hw5]; exact set5_heap g0 _ _ _ _ _
  have o5 : Only w1 w5 [b0] := by rw [hw5]; exact Only.set5 w1 b0 _ _ _ _ _ _ (by simp)
  have o6 := Only.setCell w5 ⟨b1, 0, none⟩ (.int .i64 k)
  have h6 := heap_setCell ((o5.block b1 k1 (by simpa using Ne.symm n01)).trans g1) 0 (.int .i64 k)
  have o7 := Only.setCell (w5.setCell ⟨b1, 0, none⟩ (.int .i64 k)) ⟨b2, 0, none⟩ (.int .i64 code)
  have k25 : b2 < w5.heap.size := Nat.lt_of_lt_of_le k2 o5.size
  have h7 := heap_setCell ((o6.block b2 k25 (by simpa using Ne.symm n12)).trans ((o5.block b2 k2 (by simpa using Ne.symm n02)).trans g2)) 0 (.int .i64 code)
  have k05 : b0 < w5.heap.size := Nat.lt_of_lt_of_le k0 o5.size
  have k15 : b1 < w5.heap.size := Nat.lt_of_lt_of_le k1 o5.size
  have f0 := (o7.block b0 (Nat.lt_of_lt_of_le k05 o6.size) (by simpa using n02)).trans ((o6.block b0 k05 (by simpa using n01)).trans h5)
  have f1 := (o7.block b1 (Nat.lt_of_lt_of_le k15 o6.size) (by simpa using n12)).trans h6
  have oF : Only w ((w5.setCell ⟨b1, 0, none⟩ (.int .i64 k)).setCell ⟨b2, 0, none⟩ (.int .i64 code)).drew [b0, b1, b2] := ((((o1.weaken (by simp)).trans o5 (by simp)).trans o6 (by simp)).trans o7 (by simp)).drews
  rw [HQ.out]
  have hu := HU.out
  obtain ⟨a1, a2, a3, a4, a5, a6, a7⟩ := c₀
  simp only at hu
  subst hu
  exact ⟨rfl, _, rfl, _, results_none rfl _ _ _, rfl, rfl, oF, f0, f1, h7⟩
theorem catch_idle (b0 b1 b2 : Nat) (w : World) :
    CallsD Tryd.prog 21 #[.pointer (some ⟨b0, 0, none⟩), .pointer (some ⟨b1, 0, none⟩), .pointer (some ⟨b2, 0, none⟩)] .returning w fun e u' w' => e = .returned (.tuple #[]) ∧ u' = .returning ∧ w' = w := by
  have heq := eq_nil
  refine callsD_of_wpS Tryd.func21 rfl fun c₀ cs hu => ?_
  apply wpS_seq
  apply wpS_region
  simp [wpOpsS, go_sem, recoverD, hu, Tryd.ntmps21, Exit.thenS]
  refine wpS_of_wp ?_
  simp only [List.size_toArray, List.length_cons, List.length_nil, Nat.reduceAdd, Nat.reduceSub, Array.replicate_succ, Array.replicate_zero, List.push_toArray, List.append_toArray, List.nil_append, List.cons_append, List.setIfInBounds_toArray, List.set_cons_succ, List.set_cons_zero]
  refine wp_gen fun Q hQ => ?_
  have HQ := Aside0.mk hQ
  have HU := Aside0.mk hu
  clear hQ hu
  go_wp2_with fail
  rw [HQ.out]
  have hu := HU.out
  cases c₀
  simp_all [bodyPostS, results, Tryd.results21]
set_option maxHeartbeats 4000000
set_option maxRecDepth 100000

/-- tree; its bytes are none. -/
theorem tree_n (w : World) (P : Nat → Prop) (kd : Int) (s : ByteArray) (v : Value) (l : List GTree) (h : RT w P v l) (hn : l.length ≤ 1000000) : Calls Tryd.prog 23 #[.int .i64 kd, .string s, v] w fun e w' => ∃ u : V5, e = .returned u.agg ∧ TV w' (fun k => P k ∨ w.heap.size ≤ k) (.node kd s 0 [] l) u ∧ Only w w' [] ∧ u.d = .slice none 0 0 := by
  obtain ⟨w1, hw1⟩ : ∃ w1, w1 = w.alloc (.cells #[.int .i64 0, .string ⟨#[]⟩, .int .i64 0, .slice none 0 0, .slice none 0 0] 28) := ⟨_, rfl⟩
  have o1 : Only w w1 [] := by rw [hw1]; exact Only.alloc w _ []
  have b1 : w1.heap[w.heap.size]? = some (.cells #[.int .i64 0, .string ⟨#[]⟩, .int .i64 0, .slice none 0 0, .slice none 0 0] 28 (0, 0)) := by rw [hw1]; exact heap_alloc_new w _
  have hP : ∀ k, k < w.heap.size → P k → w1.heap[k]? = w.heap[k]? ∧ (P k ∧ k < w.heap.size) := fun k hk hp => ⟨o1.block k hk (by simp), hp, hk⟩
  obtain ⟨A, c, w2, hrun, hrt, o2⟩ := run_copy_trees hn 26 (h.move hP)
  have b2 := (o2.block _ (Array.getElem?_eq_some_iff.1 b1).1 (by simp)).trans b1
  obtain ⟨x0, x1, x2, x3, x4, xf0, xf1, xf2, xf3, xf4⟩ := blk5 b2
  obtain ⟨A2, c2, rfl⟩ := h.shape
  have hz1 : w1.heap.size = w.heap.size + 1 := by rw [hw1]; simp
  have HRT := Aside0.mk hrt
  have HO := Aside0.mk (And.intro o1 (And.intro o2 (And.intro b2 hz1)))
  clear hrt o1 o2 b1 b2 hP h hz1
  go_enter Tryd.func23, Tryd.ntmps23
  go_wp2_with (at_builtin; rw [← hw1]; clear hw1; refine wpList_append_by rfl _ _ _ _ rfl _ _ rfl rfl _ _ hrun ?_; clear hrun)
  refine bodyPost_ret (v := .agg #[.int .i64 kd, .string s, .int .i64 0, .slice none 0 0, .slice A l.length c]) (by simp [results, Tryd.results23, go_sem, x0, x1, x2, x3, x4]) rfl ?_
  obtain ⟨o1, o2, b2, hz1⟩ := HO.out
  have o3 := Only.set5 w2 w.heap.size (.int .i64 kd) (.string s) (.int .i64 0) (.slice none 0 0) (.slice A l.length c) [w.heap.size] (by simp)
  have hr := HRT.out.move (w' := ((((w2.setCell ⟨w.heap.size, 0, none⟩ (.int .i64 kd)).setCell ⟨w.heap.size, 1, none⟩ (.string s)).setCell ⟨w.heap.size, 2, none⟩ (.int .i64 0)).setCell ⟨w.heap.size, 3, none⟩ (.slice none 0 0)).setCell ⟨w.heap.size, 4, none⟩ (.slice A l.length c)) (Q := fun k => P k ∨ w.heap.size ≤ k) (fun k hk hP => ⟨o3.block k hk (by simp; rcases hP with hP | hP <;> omega), hP.imp (·.1) (fun _ => by omega)⟩)
  exact ⟨⟨.int .i64 kd, .string s, .int .i64 0, .slice none 0 0, .slice A l.length c⟩, rfl, TV_node (BytesIn.nil _ _) hr, (o1.trans o2 (by simp)).trans o3 (by simp), rfl⟩
abbrev zTree : Value := .agg #[.int .i64 0, .string ⟨#[]⟩, .int .i64 0, .slice none 0 0, .slice none 0 0]
/-- What Parse answers. -/
def ParseRet (w : World) (r : PR GTree) (e : Ending) (w' : World) : Prop := match r with
  | .ok t _ => ∃ u : V5, e = .returned (.tuple #[u.agg, .int .i64 0, .int .i64 0]) ∧ TV w' (fun k => w.heap.size ≤ k) t u ∧ Only w w' [] ∧ u.d = .slice none 0 0
  | .bad k code => e = .returned (.tuple #[zTree, .int .i64 k, .int .i64 code]) ∧ Only w w' []
abbrev parW (w : World) (A : Option Addr) (n c : Nat) : World := (((w.alloc (.cells zT 28)).alloc (.cells #[.int .i64 0] 3)).alloc (.cells #[.int .i64 0] 29)).alloc (.cells #[.slice A n c, .int .i64 0, .int .i64 0] 59)
structure ParIn (w w1 : World) (A : Option Addr) (c : Nat) (T : List GT) : Prop where
  only : Only w w1 []
  size : w1.heap.size = w.heap.size + 4
  t : w1.heap[w.heap.size]? = some (.cells zT 28 (0, 0))
  at' : w1.heap[w.heap.size + 1]? = some (.cells #[.int .i64 0] 3 (0, 0))
  e : w1.heap[w.heap.size + 2]? = some (.cells #[.int .i64 0] 29 (0, 0))
  p : PAt w1 (w.heap.size + 3) A c T 0 40
theorem parIn (w : World) (A : Option Addr) (c : Nat) (T : List GT) (h : Toks w (fun _ => True) A T) (hl : T.length ≤ 100000) : ParIn w (parW w A T.length c) A c T := by
  have ho : Only w (parW w A T.length c) [] := (((Only.alloc w _ []).allocs _).allocs _).allocs _
  refine ⟨ho, by simp, ?_, ?_, ?_, ⟨?_, ?_, hl, Nat.zero_le _, Nat.le_refl _⟩⟩
  · rw [heap_alloc_at _ _ _ (by simp <;> omega), heap_alloc_at _ _ _ (by simp <;> omega), heap_alloc_at _ _ _ (by simp)]
    exact heap_alloc_is _ _ _ _ (by simp)
  · rw [heap_alloc_at _ _ _ (by simp <;> omega), heap_alloc_at _ _ _ (by simp)]
    exact heap_alloc_is _ _ _ _ (by simp)
  · rw [heap_alloc_at _ _ _ (by simp)]
    exact heap_alloc_is _ _ _ _ (by simp)
  · exact heap_alloc_is _ _ _ _ (by simp)
  · exact h.move fun k hk _ => ⟨ho.block k hk (by simp), by omega⟩
theorem parse_c (w : World) (A : Option Addr) (c : Nat) (T : List GT) (h : Toks w (fun _ => True) A T) (hl : T.length ≤ 100000) : Calls Tryd.prog 15 #[.slice A T.length c] w (ParseRet w (parseS T)) := by
  have hin := parIn w A c T h hl
  obtain ⟨R, hR⟩ : ∃ R, R = parseS T := ⟨_, rfl⟩
  rw [← hR]
  obtain ⟨g, hg⟩ : ∃ g, g = w.heap.size + 3 := ⟨_, rfl⟩
  have hpp := hin.p
  rw [← hg] at hpp
  obtain ⟨w1, hw1⟩ : ∃ w1, w1 = parW w A T.length c := ⟨_, rfl⟩
  rw [← hw1] at hin hpp
  have HIN := Aside0.mk hin
  have HP1 := Aside0.mk hpp
  have HR := Aside0.mk hR
  have HG := Aside0.mk hg
  clear hin hpp h hR
  go_enter_defers Tryd.func15, Tryd.ntmps15
  go_wp2_with fail
  rw [show ((((w.alloc (.cells #[.int .i64 0, .string ⟨#[]⟩, .int .i64 0, .slice none 0 0, .slice none 0 0] 28)).alloc (.cells #[.int .i64 0] 3)).alloc (.cells #[.int .i64 0] 29)).alloc (.cells #[.slice A T.length c, .int .i64 0, .int .i64 0] 59)) = w1 from hw1.symm]
  rw [show w.heap.size + 1 + 1 + 1 = g from hg.symm]
  clear hw1 hg
  go_loopg [6] (T.length + 1) (fun gk v6 wr => ∃ (i' : Nat) (acc : List GTree) (B6 : Option Addr) (d6 : Nat), T.length < gk + i' ∧ i' ≤ T.length ∧ acc.length ≤ i' ∧ v6 = .slice B6 acc.length d6 ∧ Aside0 (PAt wr g A c T i' 40) ∧ Aside0 (OT wr (w.heap.size + 4) (.slice B6 acc.length d6) acc) ∧ Aside0 (Only w1 wr [g]) ∧ Aside0 (R = (funsS T gk i' acc).bind fun l i => .ok (.node 18 gE 0 [] l) i))
  case atStart => exact ⟨0, [], none, 0, by omega, by omega, by simp, rfl, HP1, ⟨OT.nil _ _⟩, ⟨Only.refl _ _⟩, ⟨by rw [HR.out]; rfl⟩⟩
  case round =>
    obtain ⟨i', acc, B6, d6, hf, hi', hac, rfl, HPR, HOT, HAL, HEQ⟩ := hrel
    obtain ⟨gf, rfl⟩ : ∃ gf, gk = gf + 1 := ⟨gk - 1, by omega⟩
    obtain ⟨x0, x1, x2, xf0, xf1, xf2⟩ := blk3 HPR.out.cell
    have hgr := HPR.out.g_lt
    by_cases hlt : i' < T.length
    · have z0 : (i' : Int) < (T.length : Int) := by omega
      have hfu := fun_c (g := g) (A := A) (c := c) (T := T) wr i' HPR.out
      cases hr : funS T i' with
      | bad k code =>
        have HE1 : Aside0 (R = .bad k code) := ⟨by rw [HEQ.out, funsS, if_pos hlt, hr]; rfl⟩
        rw [hr] at hfu
        have HFU := Aside0.mk hfu
        clear hfu hr
        go_wp2_with (go_at_call 22; refine HFU.out.mono ?_; rintro e w2 ⟨rfl, o2⟩; have HO2 := Aside0.mk o2; clear o2)
        have o12 : Only w1 w2 [g] := HAL.out.trans HO2.out (fun _ h => .inl h)
        have hz := HIN.out.size
        have hgg := HG.out
        have ht2 := (o12.block _ (by omega) (by simp <;> omega)).trans HIN.out.t
        have ha2 := (o12.block _ (by omega) (by simp <;> omega)).trans HIN.out.at'
        have he2 := (o12.block _ (by omega) (by simp <;> omega)).trans HIN.out.e
        refine leaves_cons (f := 21) (args := #[.pointer (some ⟨w.heap.size, 0, none⟩), .pointer (some ⟨w.heap.size + 1, 0, none⟩), .pointer (some ⟨w.heap.size + 1 + 1, 0, none⟩)]) (by simp) (by simp [go_sem]) ?_
        refine (catch_throw w.heap.size (w.heap.size + 1) (w.heap.size + 1 + 1) k code w2 ht2 ha2 he2 (by omega)).mono ?_
        rintro e u' w3 ⟨rfl, rfl, o3, ht3, ha3, he3⟩
        obtain ⟨f0, f1, f2, f3, f4, _⟩ := blk5 ht3
        have f5 : w3.cell? ⟨w.heap.size + 1, 0, none⟩ = some (.int .i64 k) := by rw [Lib.cell_of_heap ha3]; rfl
        have f6 : w3.cell? ⟨w.heap.size + 1 + 1, 0, none⟩ = some (.int .i64 code) := by rw [Lib.cell_of_heap he3]; rfl
        refine ⟨.tuple #[zTree, .int .i64 k, .int .i64 code], by simp [results, Tryd.results15, go_sem, f0, f1, f2, f3, f4, f5, f6], ?_⟩
        rw [HE1.out]
        exact ⟨rfl, ((HIN.out.only.trans o12 (ks := []) (by simp <;> omega)).trans o3 (by simp <;> omega))⟩
      | ok x j =>
        have hj := funS_on T i' x j hr
        have HE1 : Aside0 (R = (funsS T gf j (acc ++ [x])).bind fun l i => .ok (.node 18 gE 0 [] l) i) := ⟨by rw [HEQ.out, funsS, if_pos hlt, hr]; rfl⟩
        rw [hr] at hfu
        have HFU := Aside0.mk hfu
        clear hfu hr
        go_wp2_with (first
          | (go_at_call 22; refine HFU.out.mono ?_; rintro e w2 ⟨u2, rfl, htv2, hp2, o2⟩; obtain ⟨kd2, s2, n2, A32, n32, c32, A42, n42, c42, rfl⟩ := htv2.five; obtain ⟨A3, c3, w3, hrun, hot3, o3, hb3⟩ := app_step HOT.out o2 (by have := HG.out; simp; omega) (by have := HAL.out.size; have := HIN.out.size; omega) (by omega) htv2 (Nat.le_refl _); have HOT3 := Aside0.mk hot3; have HO3 := Aside0.mk o3; have HB3 := Aside0.mk hb3; have HO2 := Aside0.mk o2; have HP2 := Aside0.mk hp2; clear htv2 hp2 o2 hot3 o3 hb3)
          | (at_builtin; refine wpList_append_by rfl _ _ _ _ rfl _ _ rfl rfl _ _ hrun ?_; clear hrun))
        go_roundg gf
        case measure => omega
        case rel =>
          have hgg := HG.out
          have hz := HIN.out.size
          have hzr := HAL.out.size
          have o13 : Only w1 w3 [g] := (HAL.out.trans HO2.out (fun _ h => .inl h)).trans HO3.out (fun k hk => .inr (by have := HB3.out k hk; omega))
          have hgb : g ∉ bl (.slice B6 acc.length d6) := fun hm => by have := HB3.out g hm; omega
          exact ⟨j, acc ++ [x], A3, c3, by omega, hj.2, by simp; omega, by simp, ⟨HP1.out.goes o13 ((HO3.out.block g HP2.out.g_lt hgb).trans HP2.out.cell) hj.2 (Nat.le_refl _)⟩, ⟨by simpa using HOT3.out⟩, ⟨o13⟩, HE1⟩
    · have hii : i' = T.length := by omega
      have HE1 : Aside0 (R = .ok (.node 18 gE 0 [] acc) i') := ⟨by rw [HEQ.out, funsS, if_neg hlt]; rfl⟩
      subst hii
      have hnlt : ¬ ((T.length : Int) < (T.length : Int)) := by omega
      have hkeep : ∀ W, Only wr W [] → W.heap[w.heap.size]? = some (.cells zT 28 (0, 0)) ∧ W.heap[w.heap.size + 1]? = some (.cells #[.int .i64 0] 3 (0, 0)) ∧ W.heap[w.heap.size + 2]? = some (.cells #[.int .i64 0] 29 (0, 0)) := fun W hW => by
        have o := HAL.out.trans hW (ks2 := []) (by simp)
        have hz := HIN.out.size
        have hgg := HG.out
        exact ⟨(o.block _ (by omega) (by simp <;> omega)).trans HIN.out.t, (o.block _ (by omega) (by simp <;> omega)).trans HIN.out.at', (o.block _ (by omega) (by simp <;> omega)).trans HIN.out.e⟩
      have HKP := Aside0.mk hkeep
      clear hkeep
      go_wp2_with (go_at_call 23; refine (tree_n wr (fun k => w.heap.size + 4 ≤ k) 18 ⟨#[]⟩ _ acc HOT.out.rt (by omega)).mono ?_; rintro e w2 ⟨u2, rfl, htv2, o2, hd2⟩; obtain ⟨kd2, s2, n2, A32, n32, c32, A42, n42, c42, rfl⟩ := htv2.five; have HD2 := Aside0.mk hd2; clear hd2; obtain ⟨ht2, ha2, he2⟩ := HKP.out w2 o2; obtain ⟨y0, y1, y2, y3, y4, yf0, yf1, yf2, yf3, yf4⟩ := blk5 ht2; have z0 : w2.cell? ⟨w.heap.size + 1, 0, none⟩ = some (.int .i64 0) := (by rw [Lib.cell_of_heap ha2]; rfl); have zf0 := Lib.frozen_of_heap ha2 0; have v0 : w2.cell? ⟨w.heap.size + 1 + 1, 0, none⟩ = some (.int .i64 0) := (by rw [Lib.cell_of_heap he2]; rfl); have vf0 : w2.frozen? ⟨w.heap.size + 1 + 1, 0, none⟩ = false := Lib.frozen_of_heap he2 0; have hz2 : w.heap.size + 1 + 1 < w2.heap.size := (Array.getElem?_eq_some_iff.1 he2).1; have HTV2 := Aside0.mk htv2; have HH2 := Aside0.mk (And.intro ht2 (And.intro ha2 (And.intro he2 o2))); clear htv2 o2 ht2 ha2 he2)
      obtain ⟨ht2, ha2, he2, o2⟩ := HH2.out
      have hz := HIN.out.size
      have hgg := HG.out
      have hzr := HAL.out.size
      obtain ⟨w3, hw3⟩ : ∃ w3, w3 = ((((w2.setCell ⟨w.heap.size, 0, none⟩ (.int .i64 kd2)).setCell ⟨w.heap.size, 1, none⟩ (.string s2)).setCell ⟨w.heap.size, 2, none⟩ (.int .i64 n2)).setCell ⟨w.heap.size, 3, none⟩ (.slice A32 n32 c32)).setCell ⟨w.heap.size, 4, none⟩ (.slice A42 n42 c42) := ⟨_, rfl⟩
      rw [← hw3]
      have ht3 : w3.heap[w.heap.size]? = some (.cells #[.int .i64 kd2, .string s2, .int .i64 n2, .slice A32 n32 c32, .slice A42 n42 c42] 28 (0, 0)) := by rw [hw3]; exact set5_heap ht2 _ _ _ _ _
      have o23 : Only w2 w3 [w.heap.size] := by rw [hw3]; exact Only.set5 w2 _ _ _ _ _ _ _ (by simp)
      have o34 := Only.setCell w3 ⟨w.heap.size + 1, 0, none⟩ (.int .i64 0)
      have ha3 := (o23.block _ (by omega) (by simp)).trans ha2
      have he3 := (o23.block _ (by omega) (by simp <;> omega)).trans he2
      have ha4 := heap_setCell ha3 0 (.int .i64 0)
      have hz3 := o23.size
      have hz4 := o34.size
      have ht4 := (o34.block _ (by omega) (by simp)).trans ht3
      have he4 := (o34.block _ (by omega) (by simp)).trans he3
      have o45 := Only.setCell (w3.setCell ⟨w.heap.size + 1, 0, none⟩ (.int .i64 0)) ⟨w.heap.size + 1 + 1, 0, none⟩ (.int .i64 0)
      have he5 := heap_setCell he4 0 (.int .i64 0)
      have ht5 := (o45.block _ (by omega) (by simp <;> omega)).trans ht4
      have ha5 := (o45.block _ (by omega) (by simp)).trans ha4
      have o25 : Only w2 ((w3.setCell ⟨w.heap.size + 1, 0, none⟩ (.int .i64 0)).setCell ⟨w.heap.size + 1 + 1, 0, none⟩ (.int .i64 0)) [w.heap.size, w.heap.size + 1, w.heap.size + 1 + 1] := ((o23.weaken (by simp)).trans o34 (by simp)).trans o45 (by simp)
      refine leaves_cons (f := 21) (args := #[.pointer (some ⟨w.heap.size, 0, none⟩), .pointer (some ⟨w.heap.size + 1, 0, none⟩), .pointer (some ⟨w.heap.size + 1 + 1, 0, none⟩)]) (by simp) (by simp [go_sem]) ?_
      refine (catch_idle _ _ _ _).mono ?_
      rintro e u' w5 ⟨rfl, rfl, rfl⟩
      obtain ⟨f0, f1, f2, f3, f4, _⟩ := blk5 ht5
      have f5 := Lib.cell_of_heap ha5 0
      have f6 := Lib.cell_of_heap he5 0
      refine ⟨.tuple #[.agg #[.int .i64 kd2, .string s2, .int .i64 n2, .slice A32 n32 c32, .slice A42 n42 c42], .int .i64 0, .int .i64 0], by simp [results, Tryd.results15, go_sem, f0, f1, f2, f3, f4, f5, f6], ?_⟩
      rw [HE1.out]
      refine ⟨⟨.int .i64 kd2, .string s2, .int .i64 n2, .slice A32 n32 c32, .slice A42 n42 c42⟩, rfl, TV_move (fun k hk hP => ⟨o25.block k hk (by simp; rcases hP with hP | hP <;> omega), by rcases hP with hP | hP <;> omega⟩) _ _ HTV2.out, ?_⟩
      refine ⟨?_, HD2.out⟩
      exact (((HIN.out.only.trans HAL.out (ks := []) (by simp <;> omega)).trans o2 (by simp)).trans o25 (by simp <;> omega))
end Go.Proofs.YtejidddjkngoiaaDoor
