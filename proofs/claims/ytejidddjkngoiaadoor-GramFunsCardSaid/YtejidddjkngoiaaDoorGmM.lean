/- gram: receive. -/
import Derived.Test.YtejidddjkngoiaaDoorGmL
import Derived.Deep.DeepCutAuto
namespace Go.Proofs.YtejidddjkngoiaaDoor
open Go.RowKit
set_option linter.all false
set_option maxHeartbeats 4000000
set_option maxRecDepth 100000

theorem OT.lower {w : World} {B B2 : Nat} {v : Value} {l : List GTree} (h : OT w B v l) (hB : B2 ≤ B) : OT w B2 v l := by
  obtain ⟨vs, h1, ⟨h2, h3⟩, h4⟩ := h
  refine ⟨vs, h1, ⟨h2, ?_⟩, fun i t u ht hu => TV_move (fun k _ hP => ⟨rfl, Nat.le_trans hB hP.1, hP.2⟩) t u (h4 i t u ht hu)⟩
  rcases h3 with hn | ⟨g, cap, cur, e, q1, q2⟩
  · exact .inl hn
  · exact .inr ⟨g, cap, cur, e, Nat.le_trans hB q1, q2⟩
theorem receive_c {g : Nat} {A : Option Addr} {c : Nat} {T : List GT} {m : Nat} {L : Lv} (hex : ExOK 45 g A c T m L.ex) (hun : ExOK 64 g A c T m L.un) (hbo : ExOK 39 g A c T m (bodyS T L.ex)) (hL : OnL T L) (w : World) (i : Nat) (h : PAt w g A c T i m) : Calls Tryd.prog 81 #[.pointer (some ⟨g, 0, none⟩)] w (ERet w g A c T m (recvS T L i)) := by
  have hgl := h.g_lt
  have HP := Aside0.mk h
  have hlen := h.len
  have HEX := Aside0.mk hex
  have HBO := Aside0.mk hbo
  obtain ⟨w1, hw1⟩ : ∃ w1, w1 = w.alloc (.cells zT 28) := ⟨_, rfl⟩
  have o1 : Only w w1 [] := by rw [hw1]; exact Only.alloc w _ []
  have b1 : w1.heap[w.heap.size]? = some (.cells zT 28 (0, 0)) := by rw [hw1]; exact heap_alloc_new w _
  have hz1 : w1.heap.size = w.heap.size + 1 := by rw [hw1]; simp
  have his := is_c w1 g A c T i m sAfter (h.keep o1)
  obtain ⟨ba, hba⟩ : ∃ ba, ba = isAt T i sAfter := ⟨_, rfl⟩
  rw [← hba] at his
  have hcl := fun W hW => clauses_o hun hbo hL W i hW
  have HIS := Aside0.mk his
  have HCL := Aside0.mk hcl
  have HBA := Aside0.mk hba
  have HO1 := Aside0.mk o1
  have HB1 := Aside0.mk b1
  have HZ1 := Aside0.mk hz1
  clear his hcl hba o1 b1 hz1 h hex hun hbo
  go_enter Tryd.func81, Tryd.ntmps81
  go_upto_if 7 with (go_at_call 38; rw [← hw1]; clear hw1; refine HIS.out.mono ?_; rintro e w2 ⟨rfl, o2⟩; have HD2 := Aside0.mk o2; clear o2)
  go_cut [3] (fun s3 wx => ∃ (l : List GTree) (j : Nat) (B3 : Option Addr) (d3 : Nat), s3 = .slice B3 l.length d3 ∧ j ≤ T.length ∧ l.length ≤ j ∧ Aside0 (headS T L i = .ok l j) ∧ Aside0 (PAt wx g A c T j m) ∧ Aside0 (OT wx (w.heap.size + 1) (.slice B3 l.length d3) l) ∧ Aside0 (Only w wx [g]) ∧ Aside0 (wx.heap[w.heap.size]? = some (.cells zT 28 (0, 0))))
  case first =>
    have o2 := HD2.out.only [g]
    have q2 : Only w w2 [g] := (HO1.out.weaken (by simp)).trans o2 (fun _ h => .inl h)
    have hp2 := HP.out.keep (HO1.out.trans (HD2.out.only []) (by simp))
    have hb2 := (o2.block _ (by have := HZ1.out; omega) (by simp; omega)).trans HB1.out
    have hz2 := o2.size
    cases ba with
    | true =>
      have e1 : headS T L i = .ok [] i := by simp [headS, ← HBA.out]
      have HE1 := Aside0.mk e1
      go_wp2_with fail
      go_meet
      exact ⟨[], i, none, 0, by simp, HP.out.hi, by simp, HE1, ⟨hp2⟩, ⟨OT.nil _ _⟩, ⟨q2⟩, ⟨hb2⟩⟩
    | false =>
      have e1 : headS T L i = clausesS T L (T.length + 1) i [] := by simp [headS, ← HBA.out]
      cases hc : clausesS T L (T.length + 1) i [] with
      | bad k code =>
        have e2 : recvS T L i = .bad k code := by simp [recvS, e1, hc, PR.bind]
        have hcl := HCL.out w2 hp2
        rw [hc] at hcl
        have HC2 := Aside0.mk hcl
        have HE2 := Aside0.mk e2
        clear hcl e1 e2 hc
        go_wp2_with (go_at_call 86; refine HC2.out.mono ?_; rintro e w3 ⟨rfl, o3⟩)
        refine ⟨rfl, ?_⟩
        rw [HE2.out]
        exact ⟨rfl, q2.trans o3 (fun _ h => .inl h)⟩
      | ok l j =>
        have hcl := HCL.out w2 hp2
        rw [hc] at hcl
        have HC2 := Aside0.mk hcl
        rw [hc] at e1
        have HE1 := Aside0.mk e1
        clear hcl e1 hc
        go_wp2_with (go_at_call 86; refine HC2.out.mono ?_; rintro e w3 ⟨B3, d3, rfl, ot3, hp3, o3, hl3⟩)
        go_meet
        exact ⟨l, j, B3, d3, rfl, hp3.hi, hl3, HE1, ⟨hp3⟩, ⟨ot3.lower (by have := HZ1.out; omega)⟩, ⟨q2.trans o3 (fun _ h => .inl h)⟩, ⟨(o3.block _ (by have := HZ1.out; omega) (by simp; omega)).trans hb2⟩⟩
  case rest =>
    obtain ⟨l, j, B3, d3, rfl, hj, hlj, HHE, HPX, HOTX, HALX, HBX⟩ := hcut
    have hhv := have_c wc g A c T j m sAfter HPX.out
    obtain ⟨bb, hbb⟩ : ∃ bb, bb = isAt T j sAfter := ⟨_, rfl⟩
    rw [← hbb] at hhv
    have HHV := Aside0.mk hhv
    have HBB := Aside0.mk hbb
    clear hhv hbb
    go_upto_if 11 with (go_at_call 46; refine HHV.out.mono ?_; rintro e w3 ⟨rfl, hp3, o3⟩; have HP3 := Aside0.mk hp3; have HO3 := Aside0.mk o3; clear hp3 o3)
    go_cut [3] (fun s3 wx => ∃ (l2 : List GTree) (k : Nat) (B4 : Option Addr) (d4 : Nat), s3 = .slice B4 l2.length d4 ∧ k ≤ T.length ∧ l2.length ≤ k ∧ Aside0 (recvS T L i = (wantS T k sEnd).bind fun _ z => .ok (.node 13 gE 0 [] l2) z) ∧ Aside0 (PAt wx g A c T k m) ∧ Aside0 (OT wx (w.heap.size + 1) (.slice B4 l2.length d4) l2) ∧ Aside0 (Only w wx [g]) ∧ Aside0 (wx.heap[w.heap.size]? = some (.cells zT 28 (0, 0))))
    case first =>
      have hbl : w.heap.size < wc.heap.size := (Array.getElem?_eq_some_iff.1 HBX.out).1
      have hgc : g < wc.heap.size := HPX.out.g_lt
      have hb3 := (HO3.out.block _ hbl (by simp; omega)).trans HBX.out
      have HB3 := Aside0.mk hb3
      clear hb3
      cases bb with
      | false =>
        have e1 : recvS T L i = (wantS T j sEnd).bind fun _ z => .ok (.node 13 gE 0 [] l) z := by simp [recvS, HHE.out, afterS, ← HBB.out, PR.bind]
        have HE1 := Aside0.mk e1
        go_wp2_with fail
        go_meet
        exact ⟨l, j, B3, d3, rfl, hj, hlj, HE1, ⟨by simpa using HP3.out⟩, ⟨HOTX.out.keep HO3.out (by simp; omega)⟩, ⟨HALX.out.trans HO3.out (fun _ h => .inl h)⟩, HB3⟩
      | true =>
        have hx := HEX.out w3 (j + 1) (by simpa using HP3.out)
        have ea : ∀ r, afterS T L l j = r → recvS T L i = r.bind fun l k => (wantS T k sEnd).bind fun _ z => .ok (.node 13 gE 0 [] l) z := fun r hr => by simp [recvS, HHE.out, hr, PR.bind]
        have ha : afterS T L l j = (L.ex (j + 1)).bind fun x k => (wantS T k sArrow).bind fun _ m => (bodyS T L.ex m).bind fun b q => .ok (l ++ [.node 14 gE 0 [] [x, b]]) q := by simp [afterS, ← HBB.out]
        have hjt : j < T.length := isAt_lt HBB.out.symm
        cases hr : L.ex (j + 1) with
        | bad k code =>
          have e1 : recvS T L i = .bad k code := by rw [ea _ ha, hr]; rfl
          rw [hr] at hx
          have HX := Aside0.mk hx
          have HE1 := Aside0.mk e1
          clear hx hr e1 ea ha
          go_wp2_with (go_at_call 45; refine HX.out.mono ?_; rintro e w4 ⟨rfl, o4⟩)
          refine ⟨rfl, ?_⟩
          rw [HE1.out]
          exact ⟨rfl, (HALX.out.trans HO3.out (fun _ h => .inl h)).trans o4 (fun _ h => .inl h)⟩
        | ok x k =>
          have hk := hL.1 (j + 1) x k hr
          rw [hr] at hx
          have HX := Aside0.mk hx
          have hwa := fun W hW => want_c W g A c T k m (⟨#[45, 62]⟩ : ByteArray) hW
          cases hw : wantS T k (⟨#[45, 62]⟩ : ByteArray) with
          | bad kk code =>
            have hw' : wantS T k sArrow = .bad kk code := hw
            have e1 : recvS T L i = .bad kk code := by rw [ea _ ha, hr]; simp [PR.bind, hw']
            simp only [hw] at hwa
            have HWA := Aside0.mk hwa
            have HE1 := Aside0.mk e1
            clear hx hr e1 ea ha hwa hw hw'
            go_wp2_with (first
              | (go_at_call 45; refine HX.out.mono ?_; rintro e w4 ⟨u4, rfl, htv4, hp4, o4⟩; obtain ⟨kd4, s4, n4, A34, n34, c34, A44, n44, c44, rfl⟩ := htv4.five; have HP4 := Aside0.mk hp4; have HO4 := Aside0.mk o4; clear htv4 hp4 o4)
              | (go_at_call 37; refine (HWA.out _ (HP4.out.keep (Only.alloc w4 _ []))).mono ?_; rintro e w5 ⟨rfl, o5⟩))
            refine ⟨rfl, ?_⟩
            rw [HE1.out]
            exact ⟨rfl, (((HALX.out.trans HO3.out (fun _ h => .inl h)).trans HO4.out (fun _ h => .inl h)).allocs _).trans o5 (fun _ h => .inl h)⟩
          | ok qu q =>
            have hq := wantS_on T k _ qu q hw
            have hw' : wantS T k sArrow = .ok qu q := hw
            simp only [hw] at hwa
            have HWA := Aside0.mk hwa
            have hbx := fun W hW => HBO.out W q hW
            cases hb : bodyS T L.ex q with
            | bad kk code =>
              have e1 : recvS T L i = .bad kk code := by rw [ea _ ha, hr]; simp [PR.bind, hw', hb]
              simp only [hb] at hbx
              have HBX2 := Aside0.mk hbx
              have HE1 := Aside0.mk e1
              clear hx hr e1 ea ha hwa hw hw' hbx hb
              go_wp2_with (first
                | (go_at_call 45; refine HX.out.mono ?_; rintro e w4 ⟨u4, rfl, htv4, hp4, o4⟩; obtain ⟨kd4, s4, n4, A34, n34, c34, A44, n44, c44, rfl⟩ := htv4.five; have HP4 := Aside0.mk hp4; have HO4 := Aside0.mk o4; clear htv4 hp4 o4)
                | (go_at_call 37; refine (HWA.out _ (HP4.out.keep (Only.alloc w4 _ []))).mono ?_; rintro e w5 ⟨rfl, hp5, o5⟩; have HP5 := Aside0.mk hp5; have HO5 := Aside0.mk o5; clear hp5 o5))
              have hxb : ∀ W, Only w5 W [] → W.cell? ⟨w4.heap.size, 0, none⟩ = some (.int .i64 kd4) ∧ W.cell? ⟨w4.heap.size, 1, none⟩ = some (.string s4) ∧ W.cell? ⟨w4.heap.size, 2, none⟩ = some (.int .i64 n4) ∧ W.cell? ⟨w4.heap.size, 3, none⟩ = some (.slice A34 n34 c34) ∧ W.cell? ⟨w4.heap.size, 4, none⟩ = some (.slice A44 n44 c44) := fun W hW => by
                have h0 := heap_alloc_new w4 (.cells #[.int .i64 kd4, .string s4, .int .i64 n4, .slice A34 n34 c34, .slice A44 n44 c44] 28)
                have h1 := (HO5.out.block _ (by simp) (by have := HP4.out.g_lt; simp; omega)).trans h0
                obtain ⟨q0, q1, q2, q3, q4, _⟩ := blk5 ((hW.block _ (Array.getElem?_eq_some_iff.1 h1).1 (by simp)).trans h1)
                exact ⟨q0, q1, q2, q3, q4⟩
              obtain ⟨q0, q1, q2, q3, q4⟩ := hxb w5 (Only.refl _ _)
              refine wp_region_any (by kernel_rfl) ?_
              (try (change wpAny _ _ _ _ _ _ _ (World.drew _)))
              refine wpAny_take (i := 0) (v := ?_) rfl (by kernel_rfl) (by kernel_rfl) (by kernel_rfl) (fun _ _ _ h => h) (Or.inl ⟨by rfl, ?_⟩) ?_; rotate_left; (focus (intro _wq; go_simp; (first | done | (with_reducible rfl))))
              refine wpAny_take (i := 2) (v := ?_) rfl (by kernel_rfl) (by kernel_rfl) (by kernel_rfl) (fun _ _ _ h => h) (Or.inl ⟨by rfl, ?_⟩) ?_; rotate_left; (focus (intro _wq; go_simp; (first | done | (with_reducible rfl))))
              refine wpAny_ready (rs := [1, 3]) (by kernel_rfl) (by simp) ?_
              refine AllReady.cons rfl (fun K hK => ?_) ?_
              · go_simp
                refine hK _ _ ?_
                refine wpAny_ready (rs := [3]) (by kernel_rfl) (by simp) ?_
                refine AllReady.cons rfl (fun K2 hK2 => ?_) AllReady.nil
                go_simp
                (refine (HBX2.out _ (HP5.out.keep (by (repeat (first | (with_reducible assumption) | (with_reducible exact Only.refl _ _) | (with_reducible refine Only.allocs ?_ _) | (with_reducible refine Only.drews ?_)))))).mono ?_; rintro e w6 ⟨rfl, o6⟩; refine ⟨rfl, ?_⟩; rw [HE1.out]; exact ⟨rfl, (((((HALX.out.trans HO3.out (fun _ h => .inl h)).trans HO4.out (fun _ h => .inl h)).allocs _).trans HO5.out (fun _ h => .inl h)).drews).trans o6 (fun _ h => .inl h)⟩)
              · refine AllReady.cons rfl (fun K hK => ?_) AllReady.nil
                go_simp
                (refine (HBX2.out _ (HP5.out.keep (by (repeat (first | (with_reducible assumption) | (with_reducible exact Only.refl _ _) | (with_reducible refine Only.allocs ?_ _) | (with_reducible refine Only.drews ?_)))))).mono ?_; rintro e w6 ⟨rfl, o6⟩; refine ⟨rfl, ?_⟩; rw [HE1.out]; exact ⟨rfl, (((((HALX.out.trans HO3.out (fun _ h => .inl h)).trans HO4.out (fun _ h => .inl h)).allocs _).trans HO5.out (fun _ h => .inl h)).drews).trans o6 (fun _ h => .inl h)⟩)
            | ok b qq =>
              have hqq := bodyS_on hL.1 q b qq hb
              have e1 : recvS T L i = (wantS T qq sEnd).bind fun _ z => .ok (.node 13 gE 0 [] (l ++ [.node 14 gE 0 [] [x, b]])) z := by rw [ea _ ha, hr]; simp [PR.bind, hw', hb]
              simp only [hb] at hbx
              have HBX2 := Aside0.mk hbx
              have HE1 := Aside0.mk e1
              clear hx hr e1 ea ha hwa hw hw' hbx hb
              go_wp2_with (first
                | (go_at_call 45; refine HX.out.mono ?_; rintro e w4 ⟨u4, rfl, htv4, hp4, o4⟩; obtain ⟨kd4, s4, n4, A34, n34, c34, A44, n44, c44, rfl⟩ := htv4.five; have HP4 := Aside0.mk hp4; have HO4 := Aside0.mk o4; have HTV4 := Aside0.mk htv4; clear htv4 hp4 o4)
                | (go_at_call 37; refine (HWA.out _ (HP4.out.keep (Only.alloc w4 _ []))).mono ?_; rintro e w5 ⟨rfl, hp5, o5⟩; have HP5 := Aside0.mk hp5; have HO5 := Aside0.mk o5; clear hp5 o5))
              obtain ⟨KS, hKS⟩ : ∃ KS, KS = g :: bl (.slice B3 l.length d3) := ⟨_, rfl⟩
              have h03 : wc.heap.size ≤ w3.heap.size := HO3.out.size
              have h45 : w4.heap.size + 1 ≤ w5.heap.size := by have := HO5.out.size; simpa using this
              have hKl : ∀ k ∈ KS, k < wc.heap.size := fun k hk => by
                rw [hKS] at hk
                rcases List.mem_cons.1 hk with rfl | hk
                · exact hgc
                · exact (HOTX.out.bl k hk).2
              have hgK : g ∈ KS := by rw [hKS]; simp
              have hvK : ∀ k ∈ bl (.slice B3 l.length d3), k ∈ KS := fun k hk => by rw [hKS]; exact List.mem_cons_of_mem _ hk
              have h4r : w3.heap.size ≤ w4.heap.size := HO4.out.size
              have hxb : ∀ W, Only w5 W KS → W.cell? ⟨w4.heap.size, 0, none⟩ = some (.int .i64 kd4) ∧ W.cell? ⟨w4.heap.size, 1, none⟩ = some (.string s4) ∧ W.cell? ⟨w4.heap.size, 2, none⟩ = some (.int .i64 n4) ∧ W.cell? ⟨w4.heap.size, 3, none⟩ = some (.slice A34 n34 c34) ∧ W.cell? ⟨w4.heap.size, 4, none⟩ = some (.slice A44 n44 c44) := fun W hW => by
                have h0 := heap_alloc_new w4 (.cells #[.int .i64 kd4, .string s4, .int .i64 n4, .slice A34 n34 c34, .slice A44 n44 c44] 28)
                have h1 := (HO5.out.block _ (by simp) (by simp; omega)).trans h0
                obtain ⟨q0, q1, q2, q3, q4, _⟩ := blk5 ((hW.block _ (Array.getElem?_eq_some_iff.1 h1).1 (fun hm => by have := hKl _ hm; omega)).trans h1)
                exact ⟨q0, q1, q2, q3, q4⟩
              have HALL := Aside0.mk hxb
              have or5 : Only wc w5 [g] := ((HO3.out.trans HO4.out (fun _ h => .inl h)).allocs _).trans HO5.out (fun _ h => .inl h)
              have HOR5 := Aside0.mk or5
              have HKS := Aside0.mk (And.intro hKl (And.intro hgK hvK))
              clear hxb or5 hKl hgK hvK hKS
              go_region_held3 (fun W => W.cell? ⟨w4.heap.size, 0, none⟩ = some (.int .i64 kd4) ∧ W.cell? ⟨w4.heap.size, 1, none⟩ = some (.string s4) ∧ W.cell? ⟨w4.heap.size, 2, none⟩ = some (.int .i64 n4) ∧ W.cell? ⟨w4.heap.size, 3, none⟩ = some (.slice A34 n34 c34) ∧ W.cell? ⟨w4.heap.size, 4, none⟩ = some (.slice A44 n44 c44))
                (first | exact HALL.out _ (by (repeat (first | (with_reducible assumption) | (with_reducible exact Only.refl _ _) | (with_reducible refine Only.allocs ?_ _) | (with_reducible refine Only.drews ?_)))))
                (first
                  | (go_at_call 39; refine (HBX2.out _ (HP5.out.keep (by (repeat (first | (with_reducible assumption) | (with_reducible exact Only.refl _ _) | (with_reducible refine Only.allocs ?_ _) | (with_reducible refine Only.drews ?_)))))).mono ?_; rintro e w6 ⟨u6, rfl, htv6, hp6, o6⟩; obtain ⟨kd6, s6, n6, A36, n36, c36, A46, n46, c46, rfl⟩ := htv6.five; have q56 : Only w5 w6 KS := Only.trans (by (repeat (first | (with_reducible assumption) | (with_reducible exact Only.refl _ _) | (with_reducible refine Only.allocs ?_ _) | (with_reducible refine Only.drews ?_)))) o6 (fun k hk => .inl (by rw [List.mem_singleton.1 hk]; exact HKS.out.2.1)); have HP6 := Aside0.mk hp6; have HTV6 := Aside0.mk htv6; have ho56 : Only w5 w6 [g] := Only.trans (by (repeat (first | (with_reducible assumption) | (with_reducible exact Only.refl _ _) | (with_reducible refine Only.allocs ?_ _) | (with_reducible refine Only.drews ?_)))) o6 (fun _ h => .inl h); have HO6 := Aside0.mk ho56; have h56 : w5.heap.size ≤ w6.heap.size := ho56.size; have hps := pair_step (s := wc.heap.size) (TV_move (Q := fun k => wc.heap.size ≤ k) (fun k _ hP => ⟨rfl, Nat.le_trans (by show wc.heap.size ≤ w3.heap.size; omega) hP⟩) x _ HTV4.out) (((Only.refl w4 [g]).allocs _).trans (HO5.out.trans ho56 (fun _ h => .inl h)) (fun _ h => .inl h)) hgc (TV_move (Q := fun k => wc.heap.size ≤ k) (fun k _ hP => ⟨rfl, Nat.le_trans (by show wc.heap.size ≤ w5.heap.size; omega) hP⟩) b _ htv6) (by omega) 14 ⟨#[]⟩; have HPS := Aside0.mk hps; clear hp6 htv6 o6 ho56 hps)
                  | (go_at_call 23; refine HPS.out.mono ?_; rintro e w7 ⟨u7, rfl, htv7, o7⟩; obtain ⟨kd7, s7, n7, A37, n37, c37, A47, n47, c47, rfl⟩ := htv7.five; have q57 : Only w5 w7 KS := q56.trans o7 (by simp); have o57 : Only w5 w7 [g] := HO6.out.trans o7 (by simp); obtain ⟨A8, c8, w8, hrun, hot8, o8, hb8⟩ := app_step HOTX.out (HOR5.out.trans o57 (fun _ h => .inl h)) (by simp; omega) (by omega) (by omega) htv7 (Nat.le_refl _); have q58 : Only w5 w8 KS := q57.trans o8 (fun k hk => .inl (HKS.out.2.2 k hk)); have HOT8 := Aside0.mk hot8; have HO8 := Aside0.mk o8; have HO57 := Aside0.mk o57; have HB8 := Aside0.mk hb8; have HO7 := Aside0.mk o7; clear htv7 o7 hot8 o8 hb8 o57)
                  | (refine step_append_by (by rfl) _ _ _ _ (by rfl) _ _ (by rfl) (by rfl) _ _ hrun ?_; clear hrun))
              have o08 : Only w w8 [g] := ((HALX.out.trans HOR5.out (fun _ h => .inl h)).trans HO57.out (fun _ h => .inl h)).trans HO8.out (fun k hk => .inr (by have := HB8.out k hk; omega))
              have hgb : g ∉ bl (.slice B3 l.length d3) := fun hm => by have := HB8.out g hm; omega
              have hwb : w.heap.size ∉ bl (.slice B3 l.length d3) := fun hm => by have := HB8.out _ hm; omega
              have hp8 : PAt w8 g A c T qq m := HP.out.goes o08 ((HO8.out.block g (by have := HO7.out.size; have := HP6.out.g_lt; omega) hgb).trans (HP6.out.keep HO7.out).cell) hqq.2 HP.out.hn
              have hb8' : w8.heap[w.heap.size]? = some (.cells zT 28 (0, 0)) := (HO8.out.block _ (by have := HO7.out.size; omega) hwb).trans ((HO57.out.block _ (by omega) (by simp; omega)).trans ((HOR5.out.block _ hbl (by simp; omega)).trans HBX.out))
              go_wp2_with fail
              go_meet
              exact ⟨l ++ [.node 14 gE 0 [] [x, b]], qq, A8, c8, by simp, hqq.2, by simp; omega, HE1, ⟨hp8⟩, ⟨by simpa using HOT8.out⟩, ⟨o08⟩, ⟨hb8'⟩⟩
    case rest =>
      clear HHE HPX HOTX HALX HBX HHV HBB HP3 HO3 HD2 HIS HCL HBA
      obtain ⟨l2, k, B4, d4, rfl, hk, hlk, HEQ, HPX, HOTX, HALX, HBX⟩ := hcut
      have hwe := fun W hW => want_c W g A c T k m sEnd hW
      cases hv : wantS T k sEnd with
      | bad kk code =>
        have e0 : recvS T L i = .bad kk code := by rw [HEQ.out, hv]; rfl
        simp only [hv] at hwe
        have HWE := Aside0.mk hwe
        have HE0 := Aside0.mk e0
        clear hv hwe e0
        go_wp2_with (go_at_call 37; refine (HWE.out _ HPX.out).mono ?_; rintro e w7 ⟨rfl, o7⟩)
        refine ⟨rfl, ?_⟩
        rw [HE0.out]
        exact ⟨rfl, HALX.out.trans o7 (fun _ h => .inl h)⟩
      | ok z qq =>
        have e0 : recvS T L i = .ok (.node 13 gE 0 [] l2) qq := by rw [HEQ.out, hv]; rfl
        simp only [hv] at hwe
        have HWE := Aside0.mk hwe
        have HE0 := Aside0.mk e0
        have hbl := (Array.getElem?_eq_some_iff.1 HBX.out).1
        clear hv hwe e0
        go_wp2_with (first
          | (go_at_call 23; refine (tree_c w7 (fun k => w.heap.size + 1 ≤ k) 13 ⟨#[]⟩ _ l2 (HOTX.out.keep HO7.out (by simp; omega)).rt (by omega)).mono ?_; rintro e w8 ⟨u8, rfl, htv8, o8⟩; obtain ⟨kd8, s8, n8, A38, n38, c38, A48, n48, c48, rfl⟩ := htv8.five; have HTV8 := Aside0.mk htv8; have HO8 := Aside0.mk o8; have hb8 : w8.heap[w.heap.size]? = some (.cells zT 28 (0, 0)) := (o8.block _ (by have := HO7.out.size; omega) (by simp)).trans ((HO7.out.block _ hbl (by simp; omega)).trans HBX.out); obtain ⟨y0, y1, y2, y3, y4, yf0, yf1, yf2, yf3, yf4⟩ := blk5 hb8; have HB8 := Aside0.mk hb8; clear htv8 o8 hb8)
          | (go_at_call 37; refine (HWE.out _ HPX.out).mono ?_; rintro e w7 ⟨rfl, hp7, o7⟩; have HP7 := Aside0.mk hp7; have HO7 := Aside0.mk o7; clear hp7 o7))
        have hz7 : w.heap.size + 1 ≤ w7.heap.size := by have := HO7.out.size; omega
        obtain ⟨k1, k2, k3, k4⟩ := fin_step HP.out (HP7.out.keep HO8.out) ((HALX.out.trans HO7.out (fun _ h => .inl h)).trans HO8.out (by simp)) (.int .i64 kd8) (.string s8) (.int .i64 n8) (.slice A38 n38 c38) (.slice A48 n48 c48) HB8.out (TV_move (Q := fun k => w.heap.size + 1 ≤ k) (fun k hk hP => ⟨rfl, by rcases hP with hP | hP <;> omega⟩) _ _ HTV8.out) (Nat.lt_succ_self _) _ (Only.refl _ [])
        obtain ⟨f0, f1, f2, f3, f4, _⟩ := blk5 k4
        refine bodyPost_ret (v := .agg #[.int .i64 kd8, .string s8, .int .i64 n8, .slice A38 n38 c38, .slice A48 n48 c48]) (by simp [results, Tryd.results81, go_sem, f0, f1, f2, f3, f4]) rfl ?_
        rw [HE0.out]
        exact ⟨_, rfl, k1, k2, k3⟩
end Go.Proofs.YtejidddjkngoiaaDoor
