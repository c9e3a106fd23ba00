/- gram: what prim hands to within: rows. gram: choice. gram: unary. gram: a call among what prim hands to within. -/
import Derived.Test.YtejidddjkngoiaaDoorGmH
namespace Go.Proofs.YtejidddjkngoiaaDoor
open Go.RowKit
set_option linter.all false

set_option maxHeartbeats 4000000
set_option maxRecDepth 100000

/-- The variable that holds the parser's address. -/
def BoxAt (w : World) (bp g : Nat) : Prop := w.heap[bp]? = some (.cells #[.pointer (some ⟨g, 0, none⟩)] 57 (0, 0))
theorem BoxAt.keep {w w' : World} {bp g : Nat} {ks : List Nat} (h : BoxAt w bp g) (ho : Only w w' ks) (hk : bp ∉ ks) : BoxAt w' bp g := (ho.block _ (Array.getElem?_eq_some_iff.1 h).1 hk).trans h
theorem BoxAt.cell {w : World} {bp g : Nat} (h : BoxAt w bp g) : w.cell? ⟨bp, 0, none⟩ = some (.pointer (some ⟨g, 0, none⟩)) ∧ w.frozen? ⟨bp, 0, none⟩ = false := ⟨by rw [Lib.cell_of_heap h]; rfl, Lib.frozen_of_heap h 0⟩
theorem prim3_c {g : Nat} {A : Option Addr} {c : Nat} {T : List GT} {m : Nat} {L : Lv} (hex : ExOK 45 g A c T m L.ex) (hL : OnL T L) (bp : Nat) (w : World) (i : Nat) (h : PAt w g A c T i m) (hbp : BoxAt w bp g) : Calls Tryd.prog 78 #[.pointer (some ⟨bp, 0, none⟩)] w (ERet w g A c T m (rowS T 5 gE sUnbrace L i)) := by
  have hgl := h.g_lt
  have HP := Aside0.mk h
  have hbl : bp < w.heap.size := (Array.getElem?_eq_some_iff.1 hbp).1
  obtain ⟨x0, _⟩ := hbp.cell
  have hli := fun W hW => list_c hex hL.1 sUnbrace W i hW
  cases hr : listS T L.ex sUnbrace i with
  | bad k code =>
    have e0 : rowS T 5 gE sUnbrace L i = .bad k code := by simp [rowS, hr, PR.bind]
    simp only [hr] at hli
    rw [e0]
    have HLI := Aside0.mk hli
    clear hli hr e0 h hbp
    go_enter Tryd.func78, Tryd.ntmps78
    go_wp2_with (go_at_call 76; refine (HLI.out _ (HP.out.keep (by (repeat (first | (with_reducible assumption) | (with_reducible exact Only.refl _ _) | (with_reducible refine Only.allocs ?_ _) | (with_reducible refine Only.drews ?_)))))).mono ?_; rintro e w2 ⟨rfl, o2⟩)
    exact ⟨rfl, rfl, Only.trans (by (repeat (first | (with_reducible assumption) | (with_reducible exact Only.refl _ _) | (with_reducible refine Only.allocs ?_ _) | (with_reducible refine Only.drews ?_)))) o2 (fun _ h => .inl h)⟩
  | ok l j =>
    have e0 : rowS T 5 gE sUnbrace L i = .ok (.node 5 gE 0 [] l) j := by simp [rowS, hr, PR.bind]
    simp only [hr] at hli
    rw [e0]
    have HLI := Aside0.mk hli
    have hb1 : ∀ W, Only (w.alloc (.cells zT 28)) W [g] → W.heap[w.heap.size]? = some (.cells zT 28 (0, 0)) := fun W hW => (hW.block _ (by simp) (by simp; omega)).trans (heap_alloc_new w _)
    have HB1 := Aside0.mk hb1
    have hlen := h.len
    have htr := fun (W : World) (P : Nat → Prop) v hW hl => tree_c W P 5 ⟨#[]⟩ v l hW hl
    have HTR := Aside0.mk htr
    clear hli hr e0 h hbp hb1 htr
    go_enter Tryd.func78, Tryd.ntmps78
    go_wp2_with (first
      | (go_at_call 76; refine (HLI.out _ (HP.out.keep (by (repeat (first | (with_reducible assumption) | (with_reducible exact Only.refl _ _) | (with_reducible refine Only.allocs ?_ _) | (with_reducible refine Only.drews ?_)))))).mono ?_; rintro e w2 ⟨v2, rfl, hrt2, hp2, o2, hll⟩; have q2 : Only w w2 [g] := Only.trans (by (repeat (first | (with_reducible assumption) | (with_reducible exact Only.refl _ _) | (with_reducible refine Only.allocs ?_ _) | (with_reducible refine Only.drews ?_)))) o2 (fun _ h => .inl h); have HO2 := Aside0.mk o2; have HP2 := Aside0.mk hp2; have HRT2 := Aside0.mk hrt2; have hj := hp2.hi; have hz2 : w.heap.size + 1 ≤ w2.heap.size := (by have := o2.size; simpa using this); clear hrt2 hp2 o2)
      | (go_at_call 23; refine (HTR.out w2 _ _ HRT2.out (by omega)).mono ?_; rintro e w3 ⟨u3, rfl, htv3, o3⟩; obtain ⟨kd3, s3, n3, A33, n33, c33, A43, n43, c43, rfl⟩ := htv3.five; have HTV3 := Aside0.mk htv3; have HO3 := Aside0.mk o3; obtain ⟨y0, y1, y2, y3, y4, yf0, yf1, yf2, yf3, yf4⟩ := blk5 (HB1.out w3 (HO2.out.trans o3 (by simp))); clear htv3 o3))
    have hb3 := HB1.out w3 (HO2.out.trans HO3.out (by simp))
    obtain ⟨k1, k2, k3, k4⟩ := fin_step HP.out (HP2.out.keep HO3.out) (q2.trans HO3.out (by simp)) (.int .i64 kd3) (.string s3) (.int .i64 n3) (.slice A33 n33 c33) (.slice A43 n43 c43) hb3 (TV_move (Q := fun k => w.heap.size + 1 ≤ k) (fun k hk hP => ⟨rfl, by rcases hP with hP | hP <;> ((try simp at hP); omega)⟩) _ _ HTV3.out) (Nat.lt_succ_self _) _ (Only.refl _ [])
    obtain ⟨f0, f1, f2, f3, f4, _⟩ := blk5 k4
    refine bodyPost_ret (v := .agg #[.int .i64 kd3, .string s3, .int .i64 n3, .slice A33 n33 c33, .slice A43 n43 c43]) (by simp [results, Tryd.results78, go_sem, f0, f1, f2, f3, f4]) rfl ?_
    exact ⟨_, rfl, k1, k2, k3⟩
theorem prim4_c {g : Nat} {A : Option Addr} {c : Nat} {T : List GT} {m : Nat} {L : Lv} (hex : ExOK 45 g A c T m L.ex) (hL : OnL T L) (bp : Nat) (w : World) (i : Nat) (h : PAt w g A c T i m) (hbp : BoxAt w bp g) : Calls Tryd.prog 79 #[.pointer (some ⟨bp, 0, none⟩)] w (ERet w g A c T m (rowS T 6 gE sUnbrack L i)) := by
  have hgl := h.g_lt
  have HP := Aside0.mk h
  have hbl : bp < w.heap.size := (Array.getElem?_eq_some_iff.1 hbp).1
  obtain ⟨x0, _⟩ := hbp.cell
  have hli := fun W hW => list_c hex hL.1 sUnbrack W i hW
  cases hr : listS T L.ex sUnbrack i with
  | bad k code =>
    have e0 : rowS T 6 gE sUnbrack L i = .bad k code := by simp [rowS, hr, PR.bind]
    simp only [hr] at hli
    rw [e0]
    have HLI := Aside0.mk hli
    clear hli hr e0 h hbp
    go_enter Tryd.func79, Tryd.ntmps79
    go_wp2_with (go_at_call 76; refine (HLI.out _ (HP.out.keep (by (repeat (first | (with_reducible assumption) | (with_reducible exact Only.refl _ _) | (with_reducible refine Only.allocs ?_ _) | (with_reducible refine Only.drews ?_)))))).mono ?_; rintro e w2 ⟨rfl, o2⟩)
    exact ⟨rfl, rfl, Only.trans (by (repeat (first | (with_reducible assumption) | (with_reducible exact Only.refl _ _) | (with_reducible refine Only.allocs ?_ _) | (with_reducible refine Only.drews ?_)))) o2 (fun _ h => .inl h)⟩
  | ok l j =>
    have e0 : rowS T 6 gE sUnbrack L i = .ok (.node 6 gE 0 [] l) j := by simp [rowS, hr, PR.bind]
    simp only [hr] at hli
    rw [e0]
    have HLI := Aside0.mk hli
    have hb1 : ∀ W, Only (w.alloc (.cells zT 28)) W [g] → W.heap[w.heap.size]? = some (.cells zT 28 (0, 0)) := fun W hW => (hW.block _ (by simp) (by simp; omega)).trans (heap_alloc_new w _)
    have HB1 := Aside0.mk hb1
    have hlen := h.len
    have htr := fun (W : World) (P : Nat → Prop) v hW hl => tree_c W P 6 ⟨#[]⟩ v l hW hl
    have HTR := Aside0.mk htr
    clear hli hr e0 h hbp hb1 htr
    go_enter Tryd.func79, Tryd.ntmps79
    go_wp2_with (first
      | (go_at_call 76; refine (HLI.out _ (HP.out.keep (by (repeat (first | (with_reducible assumption) | (with_reducible exact Only.refl _ _) | (with_reducible refine Only.allocs ?_ _) | (with_reducible refine Only.drews ?_)))))).mono ?_; rintro e w2 ⟨v2, rfl, hrt2, hp2, o2, hll⟩; have q2 : Only w w2 [g] := Only.trans (by (repeat (first | (with_reducible assumption) | (with_reducible exact Only.refl _ _) | (with_reducible refine Only.allocs ?_ _) | (with_reducible refine Only.drews ?_)))) o2 (fun _ h => .inl h); have HO2 := Aside0.mk o2; have HP2 := Aside0.mk hp2; have HRT2 := Aside0.mk hrt2; have hj := hp2.hi; have hz2 : w.heap.size + 1 ≤ w2.heap.size := (by have := o2.size; simpa using this); clear hrt2 hp2 o2)
      | (go_at_call 23; refine (HTR.out w2 _ _ HRT2.out (by omega)).mono ?_; rintro e w3 ⟨u3, rfl, htv3, o3⟩; obtain ⟨kd3, s3, n3, A33, n33, c33, A43, n43, c43, rfl⟩ := htv3.five; have HTV3 := Aside0.mk htv3; have HO3 := Aside0.mk o3; obtain ⟨y0, y1, y2, y3, y4, yf0, yf1, yf2, yf3, yf4⟩ := blk5 (HB1.out w3 (HO2.out.trans o3 (by simp))); clear htv3 o3))
    have hb3 := HB1.out w3 (HO2.out.trans HO3.out (by simp))
    obtain ⟨k1, k2, k3, k4⟩ := fin_step HP.out (HP2.out.keep HO3.out) (q2.trans HO3.out (by simp)) (.int .i64 kd3) (.string s3) (.int .i64 n3) (.slice A33 n33 c33) (.slice A43 n43 c43) hb3 (TV_move (Q := fun k => w.heap.size + 1 ≤ k) (fun k hk hP => ⟨rfl, by rcases hP with hP | hP <;> ((try simp at hP); omega)⟩) _ _ HTV3.out) (Nat.lt_succ_self _) _ (Only.refl _ [])
    obtain ⟨f0, f1, f2, f3, f4, _⟩ := blk5 k4
    refine bodyPost_ret (v := .agg #[.int .i64 kd3, .string s3, .int .i64 n3, .slice A33 n33 c33, .slice A43 n43 c43]) (by simp [results, Tryd.results79, go_sem, f0, f1, f2, f3, f4]) rfl ?_
    exact ⟨_, rfl, k1, k2, k3⟩
theorem prim2_c {g : Nat} {A : Option Addr} {c : Nat} {T : List GT} {m : Nat} {L : Lv} (hex : ExOK 45 g A c T m L.ex) (bp : Nat) (w : World) (i : Nat) (h : PAt w g A c T i m) (hbp : BoxAt w bp g) : Calls Tryd.prog 77 #[.pointer (some ⟨bp, 0, none⟩)] w (ERet w g A c T m (parenS T L i)) := by
  have hgl := h.g_lt
  have HP := Aside0.mk h
  have HBP := Aside0.mk hbp
  have hbl : bp < w.heap.size := (Array.getElem?_eq_some_iff.1 hbp).1
  have hbg : bp ≠ g := fun e => by
    rw [e] at hbp
    have h1 := h.cell
    rw [hbp] at h1
    simp at h1
  obtain ⟨x0, _⟩ := hbp.cell
  have hx := fun W hW => hex W i hW
  cases hr : L.ex i with
  | bad k code =>
    have e0 : parenS T L i = .bad k code := by simp [parenS, hr, PR.bind]
    simp only [hr] at hx
    rw [e0]
    have HX := Aside0.mk hx
    clear hx hr e0 h hbp
    go_enter Tryd.func77, Tryd.ntmps77
    go_wp2_with (go_at_call 45; refine (HX.out _ (HP.out.keep (by (repeat (first | (with_reducible assumption) | (with_reducible exact Only.refl _ _) | (with_reducible refine Only.allocs ?_ _) | (with_reducible refine Only.drews ?_)))))).mono ?_; rintro e w2 ⟨rfl, o2⟩)
    exact ⟨rfl, rfl, Only.trans (by (repeat (first | (with_reducible assumption) | (with_reducible exact Only.refl _ _) | (with_reducible refine Only.allocs ?_ _) | (with_reducible refine Only.drews ?_)))) o2 (fun _ h => .inl h)⟩
  | ok t j =>
    simp only [hr] at hx
    have HX := Aside0.mk hx
    have hwa := fun W hW => want_c W g A c T j m sShut hW
    cases hw : wantS T j sShut with
    | bad k code =>
      have e0 : parenS T L i = .bad k code := by simp [parenS, hr, hw, PR.bind]
      simp only [hw] at hwa
      rw [e0]
      have HWA := Aside0.mk hwa
      clear hx hr e0 h hbp hwa hw
      go_enter Tryd.func77, Tryd.ntmps77
      go_wp2_with (first
        | (go_at_call 45; refine (HX.out _ (HP.out.keep (by (repeat (first | (with_reducible assumption) | (with_reducible exact Only.refl _ _) | (with_reducible refine Only.allocs ?_ _) | (with_reducible refine Only.drews ?_)))))).mono ?_; rintro e w2 ⟨u2, rfl, htv2, hp2, o2⟩; obtain ⟨kd2, s2, n2, A32, n32, c32, A42, n42, c42, rfl⟩ := htv2.five; have q2 : Only w w2 [g] := Only.trans (by (repeat (first | (with_reducible assumption) | (with_reducible exact Only.refl _ _) | (with_reducible refine Only.allocs ?_ _) | (with_reducible refine Only.drews ?_)))) o2 (fun _ h => .inl h); have HP2 := Aside0.mk hp2; obtain ⟨x1, _⟩ := (HBP.out.keep q2 (by simpa using hbg)).cell; have hbl2 : bp < w2.heap.size := Nat.lt_of_lt_of_le hbl q2.size; clear htv2 hp2 o2)
        | (go_at_call 37; refine (HWA.out _ (HP2.out.keep (by (repeat (first | (with_reducible assumption) | (with_reducible exact Only.refl _ _) | (with_reducible refine Only.allocs ?_ _) | (with_reducible refine Only.drews ?_)))))).mono ?_; rintro e w3 ⟨rfl, o3⟩))
      exact ⟨rfl, rfl, Only.trans (by (repeat (first | (with_reducible assumption) | (with_reducible exact Only.refl _ _) | (with_reducible refine Only.allocs ?_ _) | (with_reducible refine Only.drews ?_)))) o3 (fun _ h => .inl h)⟩
    | ok y q =>
      have e0 : parenS T L i = .ok t q := by simp [parenS, hr, hw, PR.bind]
      simp only [hw] at hwa
      rw [e0]
      have HWA := Aside0.mk hwa
      have hb1 : ∀ W, Only (w.alloc (.cells zT 28)) W [g] → W.heap[w.heap.size]? = some (.cells zT 28 (0, 0)) := fun W hW => (hW.block _ (by simp) (by simp; omega)).trans (heap_alloc_new w _)
      have HB1 := Aside0.mk hb1
      clear hx hr e0 h hbp hwa hw hb1
      go_enter Tryd.func77, Tryd.ntmps77
      go_wp2_with (first
        | (go_at_call 45; refine (HX.out _ (HP.out.keep (by (repeat (first | (with_reducible assumption) | (with_reducible exact Only.refl _ _) | (with_reducible refine Only.allocs ?_ _) | (with_reducible refine Only.drews ?_)))))).mono ?_; rintro e w2 ⟨u2, rfl, htv2, hp2, o2⟩; obtain ⟨kd2, s2, n2, A32, n32, c32, A42, n42, c42, rfl⟩ := htv2.five; have q2 : Only w w2 [g] := Only.trans (by (repeat (first | (with_reducible assumption) | (with_reducible exact Only.refl _ _) | (with_reducible refine Only.allocs ?_ _) | (with_reducible refine Only.drews ?_)))) o2 (fun _ h => .inl h); have HP2 := Aside0.mk hp2; have HO2 := Aside0.mk o2; have HTV2 := Aside0.mk htv2; have hz2 : w.heap.size + 1 ≤ w2.heap.size := (by have := o2.size; simpa using this); obtain ⟨x1, _⟩ := (HBP.out.keep q2 (by simpa using hbg)).cell; have hbl2 : bp < w2.heap.size := Nat.lt_of_lt_of_le hbl q2.size; clear htv2 hp2 o2)
        | (go_at_call 37; refine (HWA.out _ (HP2.out.keep (by (repeat (first | (with_reducible assumption) | (with_reducible exact Only.refl _ _) | (with_reducible refine Only.allocs ?_ _) | (with_reducible refine Only.drews ?_)))))).mono ?_; rintro e w3 ⟨rfl, hp3, o3⟩; have q3 : Only w2 w3 [g] := Only.trans (by (repeat (first | (with_reducible assumption) | (with_reducible exact Only.refl _ _) | (with_reducible refine Only.allocs ?_ _) | (with_reducible refine Only.drews ?_)))) o3 (fun _ h => .inl h); have HP3 := Aside0.mk hp3; have hv3 := (o3.block _ (by simp) (by have := HP2.out.g_lt; simp; omega)).trans (heap_alloc_new w2 (.cells #[.int .i64 kd2, .string s2, .int .i64 n2, .slice A32 n32 c32, .slice A42 n42 c42] 28)); obtain ⟨v0, v1, v2, v3, v4, _⟩ := blk5 hv3; obtain ⟨y0, y1, y2, y3, y4, yf0, yf1, yf2, yf3, yf4⟩ := blk5 (HB1.out w3 (HO2.out.trans q3 (fun _ h => .inl h))); clear hp3 o3 hv3))
      have hb3 := HB1.out w3 (HO2.out.trans q3 (fun _ h => .inl h))
      obtain ⟨k1, k2, k3, k4⟩ := fin_step HP.out HP3.out (q2.trans q3 (fun _ h => .inl h)) (.int .i64 kd2) (.string s2) (.int .i64 n2) (.slice A32 n32 c32) (.slice A42 n42 c42) hb3 (TV_move (Q := fun k => w.heap.size + 1 ≤ k) (fun k hk hP => ⟨q3.block k hk (by simp at hP ⊢; omega), by simp at hP; omega⟩) t _ HTV2.out) (Nat.lt_succ_self _) _ (Only.refl _ [])
      obtain ⟨f0, f1, f2, f3, f4, _⟩ := blk5 k4
      refine bodyPost_ret (v := .agg #[.int .i64 kd2, .string s2, .int .i64 n2, .slice A32 n32 c32, .slice A42 n42 c42]) (by simp [results, Tryd.results77, go_sem, f0, f1, f2, f3, f4]) rfl ?_
      exact ⟨_, rfl, k1, k2, k3⟩
set_option maxHeartbeats 4000000
set_option maxRecDepth 100000

theorem choice_c {g : Nat} {A : Option Addr} {c : Nat} {T : List GT} {m : Nat} {L : Lv} (hex : ExOK 45 g A c T m L.ex) (hun : ExOK 64 g A c T m L.un) (hbo : ExOK 39 g A c T m (bodyS T L.ex)) (hL : OnL T L) (w : World) (i : Nat) (h : PAt w g A c T i m) : Calls Tryd.prog 80 #[.pointer (some ⟨g, 0, none⟩)] w (ERet w g A c T m (caseS T L i)) := by
  have hgl := h.g_lt
  have HP := Aside0.mk h
  have hlen := h.len
  have hx := fun W hW => hex W i hW
  cases hr : L.ex i with
  | bad k code =>
    have e0 : caseS T L i = .bad k code := by simp [caseS, hr, PR.bind]
    simp only [hr] at hx
    rw [e0]
    have HX := Aside0.mk hx
    clear hx hr e0 h
    go_enter Tryd.func80, Tryd.ntmps80
    go_wp2_with (go_at_call 45; refine (HX.out _ (HP.out.keep (by (repeat (first | (with_reducible assumption) | (with_reducible exact Only.refl _ _) | (with_reducible refine Only.allocs ?_ _) | (with_reducible refine Only.drews ?_)))))).mono ?_; rintro e w2 ⟨rfl, o2⟩)
    exact ⟨rfl, rfl, Only.trans (by (repeat (first | (with_reducible assumption) | (with_reducible exact Only.refl _ _) | (with_reducible refine Only.allocs ?_ _) | (with_reducible refine Only.drews ?_)))) o2 (fun _ h => .inl h)⟩
  | ok t j =>
    simp only [hr] at hx
    have HX := Aside0.mk hx
    have hwa := fun W hW => want_c W g A c T j m sOf hW
    cases hw : wantS T j sOf with
    | bad k code =>
      have e0 : caseS T L i = .bad k code := by simp [caseS, hr, hw, PR.bind]
      simp only [hw] at hwa
      rw [e0]
      have HWA := Aside0.mk hwa
      clear hx hr e0 h hwa hw
      go_enter Tryd.func80, Tryd.ntmps80
      go_wp2_with (first
        | (go_at_call 45; refine (HX.out _ (HP.out.keep (by (repeat (first | (with_reducible assumption) | (with_reducible exact Only.refl _ _) | (with_reducible refine Only.allocs ?_ _) | (with_reducible refine Only.drews ?_)))))).mono ?_; rintro e w2 ⟨u2, rfl, htv2, hp2, o2⟩; obtain ⟨kd2, s2, n2, A32, n32, c32, A42, n42, c42, rfl⟩ := htv2.five; have q2 : Only w w2 [g] := Only.trans (by (repeat (first | (with_reducible assumption) | (with_reducible exact Only.refl _ _) | (with_reducible refine Only.allocs ?_ _) | (with_reducible refine Only.drews ?_)))) o2 (fun _ h => .inl h); have HP2 := Aside0.mk hp2; have HO2 := Aside0.mk o2; have HTV2 := Aside0.mk htv2; have hz2 : w.heap.size + 1 ≤ w2.heap.size := (by have := o2.size; simpa using this); clear htv2 hp2 o2)
        | (go_at_call 37; refine (HWA.out _ (HP2.out.keep (by (repeat (first | (with_reducible assumption) | (with_reducible exact Only.refl _ _) | (with_reducible refine Only.allocs ?_ _) | (with_reducible refine Only.drews ?_)))))).mono ?_; rintro e w3 ⟨rfl, o3⟩))
      exact ⟨rfl, rfl, Only.trans (by (repeat (first | (with_reducible assumption) | (with_reducible exact Only.refl _ _) | (with_reducible refine Only.allocs ?_ _) | (with_reducible refine Only.drews ?_)))) o3 (fun _ h => .inl h)⟩
    | ok y q =>
      have hq := wantS_on T j sOf y q hw
      simp only [hw] at hwa
      have HWA := Aside0.mk hwa
      have hcl := fun W hW => clauses_c hun hbo hL W q hW
      cases hc : clausesS T L (T.length + 1) q [] with
      | bad k code =>
        have e0 : caseS T L i = .bad k code := by simp [caseS, hr, hw, hc, PR.bind]
        simp only [hc] at hcl
        rw [e0]
        have HCL := Aside0.mk hcl
        clear hx hr e0 h hwa hw hc hcl
        go_enter Tryd.func80, Tryd.ntmps80
        go_wp2_with (first
          | (go_at_call 45; refine (HX.out _ (HP.out.keep (by (repeat (first | (with_reducible assumption) | (with_reducible exact Only.refl _ _) | (with_reducible refine Only.allocs ?_ _) | (with_reducible refine Only.drews ?_)))))).mono ?_; rintro e w2 ⟨u2, rfl, htv2, hp2, o2⟩; obtain ⟨kd2, s2, n2, A32, n32, c32, A42, n42, c42, rfl⟩ := htv2.five; have q2 : Only w w2 [g] := Only.trans (by (repeat (first | (with_reducible assumption) | (with_reducible exact Only.refl _ _) | (with_reducible refine Only.allocs ?_ _) | (with_reducible refine Only.drews ?_)))) o2 (fun _ h => .inl h); have HP2 := Aside0.mk hp2; have HO2 := Aside0.mk o2; have HTV2 := Aside0.mk htv2; have hz2 : w.heap.size + 1 ≤ w2.heap.size := (by have := o2.size; simpa using this); clear htv2 hp2 o2)
          | (go_at_call 37; refine (HWA.out _ (HP2.out.keep (by (repeat (first | (with_reducible assumption) | (with_reducible exact Only.refl _ _) | (with_reducible refine Only.allocs ?_ _) | (with_reducible refine Only.drews ?_)))))).mono ?_; rintro e w3 ⟨rfl, hp3, o3⟩; have q3 : Only w2 w3 [g] := Only.trans (by (repeat (first | (with_reducible assumption) | (with_reducible exact Only.refl _ _) | (with_reducible refine Only.allocs ?_ _) | (with_reducible refine Only.drews ?_)))) o3 (fun _ h => .inl h); have HP3 := Aside0.mk hp3; have hv3 := (o3.block _ (by simp) (by have := HP2.out.g_lt; simp; omega)).trans (heap_alloc_new w2 (.cells #[.int .i64 kd2, .string s2, .int .i64 n2, .slice A32 n32 c32, .slice A42 n42 c42] 28)); have HV3 := Aside0.mk hv3; clear hp3 o3 hv3)
          | (go_at_call 86; refine (HCL.out w3 HP3.out).mono ?_; rintro e w4 ⟨rfl, o4⟩))
        exact ⟨rfl, rfl, (q2.trans q3 (fun _ h => .inl h)).trans o4 (fun _ h => .inl h)⟩
      | ok l mm =>
        simp only [hc] at hcl
        have HCL := Aside0.mk hcl
        have hwe := fun W hW => want_c W g A c T mm m sEnd hW
        cases hv : wantS T mm sEnd with
        | bad k code =>
          have e0 : caseS T L i = .bad k code := by simp [caseS, hr, hw, hc, hv, PR.bind]
          simp only [hv] at hwe
          rw [e0]
          have HWE := Aside0.mk hwe
          clear hx hr e0 h hwa hw hc hcl hv hwe
          go_enter Tryd.func80, Tryd.ntmps80
          go_wp2_with (first
            | (go_at_call 37; refine (HWE.out w6 HP6.out).mono ?_; rintro e w7 ⟨rfl, o7⟩)
            | (at_builtin; refine wpList_append_by rfl _ _ _ _ rfl _ _ rfl rfl _ _ hrun ?_; clear hrun)
            | (go_at_call 86; refine (HCL.out w3 HP3.out).mono ?_; rintro e w4 ⟨v4, rfl, hrt4, hp4, o4, hll4⟩; have HP4 := Aside0.mk hp4; have HO4 := Aside0.mk o4; have h23 : w2.heap.size + 1 ≤ w3.heap.size := (by have := (Array.getElem?_eq_some_iff.1 HV3.out).1; omega); obtain ⟨A6, c6, w6, hrun, hot6, o6, hb6⟩ := run_append_rt (B := w.heap.size + 1) (l := [t]) (OT.lit1 (B := w.heap.size + 1) ((o4.block _ (by omega) (by have := HP2.out.g_lt; simp; omega)).trans HV3.out) hz2 (TV_move (fun k hk hP => ⟨(q3.trans o4 (fun _ h => .inl h)).block k hk (by simp at hP ⊢; omega), by simp at hP; omega, by omega⟩) t _ HTV2.out)) (by have := o4.size; omega) (by have := hp4.hi; simp; omega) 26 (hrt4.move (fun k _ hP => ⟨rfl, by omega, by simp [bl, Value.ownBlock]; omega⟩)); have HOT6 := Aside0.mk hot6; have HO6 := Aside0.mk o6; have q6 : Only w w6 [g] := ((q2.trans q3 (fun _ h => .inl h)).trans o4 (fun _ h => .inl h)).trans o6 (fun k hk => .inr (by simp [bl, Value.ownBlock] at hk; omega)); have hp6 : PAt w6 g A c T mm m := HP.out.goes q6 ((o6.block g hp4.g_lt (by simp [bl, Value.ownBlock]; omega)).trans hp4.cell) hp4.hi HP.out.hn; have HP6 := Aside0.mk hp6; clear hrt4 hp4 o4 hot6 o6 hb6 hp6)
            | (go_at_call 45; refine (HX.out _ (HP.out.keep (by (repeat (first | (with_reducible assumption) | (with_reducible exact Only.refl _ _) | (with_reducible refine Only.allocs ?_ _) | (with_reducible refine Only.drews ?_)))))).mono ?_; rintro e w2 ⟨u2, rfl, htv2, hp2, o2⟩; obtain ⟨kd2, s2, n2, A32, n32, c32, A42, n42, c42, rfl⟩ := htv2.five; have q2 : Only w w2 [g] := Only.trans (by (repeat (first | (with_reducible assumption) | (with_reducible exact Only.refl _ _) | (with_reducible refine Only.allocs ?_ _) | (with_reducible refine Only.drews ?_)))) o2 (fun _ h => .inl h); have HP2 := Aside0.mk hp2; have HO2 := Aside0.mk o2; have HTV2 := Aside0.mk htv2; have hz2 : w.heap.size + 1 ≤ w2.heap.size := (by have := o2.size; simpa using this); clear htv2 hp2 o2)
            | (go_at_call 37; refine (HWA.out _ (HP2.out.keep (by (repeat (first | (with_reducible assumption) | (with_reducible exact Only.refl _ _) | (with_reducible refine Only.allocs ?_ _) | (with_reducible refine Only.drews ?_)))))).mono ?_; rintro e w3 ⟨rfl, hp3, o3⟩; have q3 : Only w2 w3 [g] := Only.trans (by (repeat (first | (with_reducible assumption) | (with_reducible exact Only.refl _ _) | (with_reducible refine Only.allocs ?_ _) | (with_reducible refine Only.drews ?_)))) o3 (fun _ h => .inl h); have HP3 := Aside0.mk hp3; have hv3 := (o3.block _ (by simp) (by have := HP2.out.g_lt; simp; omega)).trans (heap_alloc_new w2 (.cells #[.int .i64 kd2, .string s2, .int .i64 n2, .slice A32 n32 c32, .slice A42 n42 c42] 28)); have HV3 := Aside0.mk hv3; clear hp3 o3 hv3))
          exact ⟨rfl, rfl, q6.trans o7 (fun _ h => .inl h)⟩
        | ok z qq =>
          have e0 : caseS T L i = .ok (.node 12 gE 0 [] (t :: l)) qq := by simp [caseS, hr, hw, hc, hv, PR.bind]
          simp only [hv] at hwe
          rw [e0]
          have HWE := Aside0.mk hwe
          have hb1 : ∀ W, Only (w.alloc (.cells zT 28)) W [g] → W.heap[w.heap.size]? = some (.cells zT 28 (0, 0)) := fun W hW => (hW.block _ (by simp) (by simp; omega)).trans (heap_alloc_new w _)
          have HB1 := Aside0.mk hb1
          clear hx hr e0 h hwa hw hc hcl hv hwe hb1
          go_enter Tryd.func80, Tryd.ntmps80
          go_wp2_with (first
            | (go_at_call 23; refine (tree_c w7 (fun k => w.heap.size + 1 ≤ k) 12 ⟨#[]⟩ _ (t :: l) (HOT6.out.keep HO7.out (by simp; omega)).rt (by have := HP6.out.hi; simp; omega)).mono ?_; rintro e w8 ⟨u8, rfl, htv8, o8⟩; obtain ⟨kd8, s8, n8, A38, n38, c38, A48, n48, c48, rfl⟩ := htv8.five; have HTV8 := Aside0.mk htv8; have HO8 := Aside0.mk o8; have hb8 : w8.heap[w.heap.size]? = some (.cells zT 28 (0, 0)) := (o8.block _ (by have := HO7.out.size; have := HO6.out.size; have := HO4.out.size; have := q3.size; omega) (by simp)).trans ((HO7.out.block _ (by have := HO6.out.size; have := HO4.out.size; have := q3.size; omega) (by simp; omega)).trans ((HO6.out.block _ (by have := HO4.out.size; have := q3.size; omega) (by simp [bl, Value.ownBlock]; omega)).trans (HB1.out w4 ((HO2.out.trans q3 (fun _ h => .inl h)).trans HO4.out (fun _ h => .inl h))))); obtain ⟨y0, y1, y2, y3, y4, yf0, yf1, yf2, yf3, yf4⟩ := blk5 hb8; have HB8 := Aside0.mk hb8; clear htv8 o8 hb8)
            | (go_at_call 37; refine (HWE.out w6 HP6.out).mono ?_; rintro e w7 ⟨rfl, hp7, o7⟩; have HP7 := Aside0.mk hp7; have HO7 := Aside0.mk o7; clear hp7 o7)
            | (at_builtin; refine wpList_append_by rfl _ _ _ _ rfl _ _ rfl rfl _ _ hrun ?_; clear hrun)
            | (go_at_call 86; refine (HCL.out w3 HP3.out).mono ?_; rintro e w4 ⟨v4, rfl, hrt4, hp4, o4, hll4⟩; have HP4 := Aside0.mk hp4; have HO4 := Aside0.mk o4; have h23 : w2.heap.size + 1 ≤ w3.heap.size := (by have := (Array.getElem?_eq_some_iff.1 HV3.out).1; omega); obtain ⟨A6, c6, w6, hrun, hot6, o6, hb6⟩ := run_append_rt (B := w.heap.size + 1) (l := [t]) (OT.lit1 (B := w.heap.size + 1) ((o4.block _ (by omega) (by have := HP2.out.g_lt; simp; omega)).trans HV3.out) hz2 (TV_move (fun k hk hP => ⟨(q3.trans o4 (fun _ h => .inl h)).block k hk (by simp at hP ⊢; omega), by simp at hP; omega, by omega⟩) t _ HTV2.out)) (by have := o4.size; omega) (by have := hp4.hi; simp; omega) 26 (hrt4.move (fun k _ hP => ⟨rfl, by omega, by simp [bl, Value.ownBlock]; omega⟩)); have hot6' : OT w6 (w.heap.size + 1) (.slice A6 (1 + l.length) c6) (t :: l) := (by simpa using hot6); have HOT6 := Aside0.mk hot6'; have HB6 := Aside0.mk hb6; clear hot6'; have HO6 := Aside0.mk o6; have q6 : Only w w6 [g] := ((q2.trans q3 (fun _ h => .inl h)).trans o4 (fun _ h => .inl h)).trans o6 (fun k hk => .inr (by simp [bl, Value.ownBlock] at hk; omega)); have hp6 : PAt w6 g A c T mm m := HP.out.goes q6 ((o6.block g hp4.g_lt (by simp [bl, Value.ownBlock]; omega)).trans hp4.cell) hp4.hi HP.out.hn; have HP6 := Aside0.mk hp6; clear hrt4 hp4 o4 hot6 o6 hb6 hp6)
            | (go_at_call 45; refine (HX.out _ (HP.out.keep (by (repeat (first | (with_reducible assumption) | (with_reducible exact Only.refl _ _) | (with_reducible refine Only.allocs ?_ _) | (with_reducible refine Only.drews ?_)))))).mono ?_; rintro e w2 ⟨u2, rfl, htv2, hp2, o2⟩; obtain ⟨kd2, s2, n2, A32, n32, c32, A42, n42, c42, rfl⟩ := htv2.five; have q2 : Only w w2 [g] := Only.trans (by (repeat (first | (with_reducible assumption) | (with_reducible exact Only.refl _ _) | (with_reducible refine Only.allocs ?_ _) | (with_reducible refine Only.drews ?_)))) o2 (fun _ h => .inl h); have HP2 := Aside0.mk hp2; have HO2 := Aside0.mk o2; have HTV2 := Aside0.mk htv2; have hz2 : w.heap.size + 1 ≤ w2.heap.size := (by have := o2.size; simpa using this); clear htv2 hp2 o2)
            | (go_at_call 37; refine (HWA.out _ (HP2.out.keep (by (repeat (first | (with_reducible assumption) | (with_reducible exact Only.refl _ _) | (with_reducible refine Only.allocs ?_ _) | (with_reducible refine Only.drews ?_)))))).mono ?_; rintro e w3 ⟨rfl, hp3, o3⟩; have q3 : Only w2 w3 [g] := Only.trans (by (repeat (first | (with_reducible assumption) | (with_reducible exact Only.refl _ _) | (with_reducible refine Only.allocs ?_ _) | (with_reducible refine Only.drews ?_)))) o3 (fun _ h => .inl h); have HP3 := Aside0.mk hp3; have hv3 := (o3.block _ (by simp) (by have := HP2.out.g_lt; simp; omega)).trans (heap_alloc_new w2 (.cells #[.int .i64 kd2, .string s2, .int .i64 n2, .slice A32 n32 c32, .slice A42 n42 c42] 28)); have HV3 := Aside0.mk hv3; clear hp3 o3 hv3))
          have hz7 : w.heap.size + 1 ≤ w7.heap.size := by have := HO7.out.size; have := HO6.out.size; have := HO4.out.size; have := q3.size; omega
          obtain ⟨k1, k2, k3, k4⟩ := fin_step HP.out (HP7.out.keep HO8.out) ((q6.trans HO7.out (fun _ h => .inl h)).trans HO8.out (by simp)) (.int .i64 kd8) (.string s8) (.int .i64 n8) (.slice A38 n38 c38) (.slice A48 n48 c48) HB8.out (TV_move (Q := fun k => w.heap.size + 1 ≤ k) (fun k hk hP => ⟨rfl, by rcases hP with hP | hP <;> omega⟩) _ _ HTV8.out) (Nat.lt_succ_self _) _ (Only.refl _ [])
          obtain ⟨f0, f1, f2, f3, f4, _⟩ := blk5 k4
          refine bodyPost_ret (v := .agg #[.int .i64 kd8, .string s8, .int .i64 n8, .slice A38 n38 c38, .slice A48 n48 c48]) (by simp [results, Tryd.results80, go_sem, f0, f1, f2, f3, f4]) rfl ?_
          exact ⟨_, rfl, k1, k2, k3⟩
set_option maxHeartbeats 4000000
set_option maxRecDepth 100000

/-- Parts of the parser one deeper are walked. -/
def LvOK (g : Nat) (A : Option Addr) (c : Nat) (T : List GT) : Nat → Prop
  | 0 => True
  | m + 1 => ExOK 45 g A c T m (exprS T (loS T m)) ∧ ExOK 64 g A c T m (unaryS T (loS T m))
theorem unary_c {g : Nat} {A : Option Addr} {c : Nat} {T : List GT} {n : Nat} (hpr : ExOK 71 g A c T n (primS T (loS T n))) (hlv : LvOK g A c T n) : ExOK 64 g A c T n (unaryS T (loS T n)) := by
  intro w i h
  have hgl := h.g_lt
  have HP := Aside0.mk h
  have hnn := h.hn
  have his := fun W hW => is_c W g A c T i n sMinus hW
  have hb1 : ∀ W, Only (w.alloc (.cells zT 28)) W [g] → W.heap[w.heap.size]? = some (.cells zT 28 (0, 0)) := fun W hW => (hW.block _ (by simp) (by simp; omega)).trans (heap_alloc_new w _)
  have HB1 := Aside0.mk hb1
  clear hb1
  cases hb : isAt T i sMinus with
  | false =>
    have e0 : unaryS T (loS T n) i = primS T (loS T n) i := by simp [unaryS, hb]
    simp only [hb] at his
    rw [e0]
    have HIS := Aside0.mk his
    have hp := fun W hW => hpr W i hW
    cases hr : primS T (loS T n) i with
    | bad k code =>
      simp only [hr] at hp
      have HPR := Aside0.mk hp
      clear his hb e0 h hp hr hpr hlv
      go_enter Tryd.func64, Tryd.ntmps64
      go_wp2_with (first
        | (go_at_call 38; refine (HIS.out _ (HP.out.keep (by (repeat (first | (with_reducible assumption) | (with_reducible exact Only.refl _ _) | (with_reducible refine Only.allocs ?_ _) | (with_reducible refine Only.drews ?_)))))).mono ?_; rintro e w2 ⟨rfl, o2⟩; have q2 : Only w w2 [] := Only.trans (by (repeat (first | (with_reducible assumption) | (with_reducible exact Only.refl _ _) | (with_reducible refine Only.allocs ?_ _) | (with_reducible refine Only.drews ?_)))) (o2.only []) (by simp))
        | (go_at_call 71; refine (HPR.out w2 (HP.out.keep q2)).mono ?_; rintro e w3 ⟨rfl, o3⟩))
      exact ⟨rfl, rfl, (q2.weaken (by simp)).trans o3 (fun _ h => .inl h)⟩
    | ok t j =>
      simp only [hr] at hp
      have HPR := Aside0.mk hp
      clear his hb e0 h hp hr hpr hlv
      go_enter Tryd.func64, Tryd.ntmps64
      go_wp2_with (first
        | (go_at_call 38; refine (HIS.out _ (HP.out.keep (by (repeat (first | (with_reducible assumption) | (with_reducible exact Only.refl _ _) | (with_reducible refine Only.allocs ?_ _) | (with_reducible refine Only.drews ?_)))))).mono ?_; rintro e w2 ⟨rfl, o2⟩; have q2 : Only w w2 [] := Only.trans (by (repeat (first | (with_reducible assumption) | (with_reducible exact Only.refl _ _) | (with_reducible refine Only.allocs ?_ _) | (with_reducible refine Only.drews ?_)))) (o2.only []) (by simp); have HO2 := Aside0.mk (o2.only [g]); have hz2 : w.heap.size + 1 ≤ w2.heap.size := (by have := (o2.only []).size; simpa using this))
        | (go_at_call 71; refine (HPR.out w2 (HP.out.keep q2)).mono ?_; rintro e w3 ⟨u3, rfl, htv3, hp3, o3⟩; obtain ⟨kd3, s3, n3, A33, n33, c33, A43, n43, c43, rfl⟩ := htv3.five; have HTV3 := Aside0.mk htv3; have HP3 := Aside0.mk hp3; have HO3 := Aside0.mk o3; have hb3 := HB1.out w3 (HO2.out.trans o3 (fun _ h => .inl h)); obtain ⟨y0, y1, y2, y3, y4, yf0, yf1, yf2, yf3, yf4⟩ := blk5 hb3; have HB3 := Aside0.mk hb3; clear htv3 hp3 o3 hb3))
      obtain ⟨k1, k2, k3, k4⟩ := fin_step HP.out HP3.out ((q2.weaken (by simp)).trans HO3.out (fun _ h => .inl h)) (.int .i64 kd3) (.string s3) (.int .i64 n3) (.slice A33 n33 c33) (.slice A43 n43 c43) HB3.out (TV_move (Q := fun k => w.heap.size + 1 ≤ k) (fun k hk hP => ⟨rfl, by omega⟩) _ _ HTV3.out) (Nat.lt_succ_self _) _ (Only.refl _ [])
      obtain ⟨f0, f1, f2, f3, f4, _⟩ := blk5 k4
      refine bodyPost_ret (v := .agg #[.int .i64 kd3, .string s3, .int .i64 n3, .slice A33 n33 c33, .slice A43 n43 c43]) (by simp [results, Tryd.results64, go_sem, f0, f1, f2, f3, f4]) rfl ?_
      exact ⟨_, rfl, k1, k2, k3⟩
  | true =>
    have hlt := isAt_lt hb
    have HLT := Aside0.mk hlt
    simp only [hb] at his
    have HIS := Aside0.mk his
    cases n with
    | zero =>
      have e0 : unaryS T (loS T 0) i = .bad i 161 := by simp [unaryS, hb, withinS, loS]
      rw [e0]
      have hs := fun W hW => sink_none W g A c T i hW
      have HS := Aside0.mk hs
      clear his hb e0 h hs hpr hlv hlt
      go_enter Tryd.func64, Tryd.ntmps64
      go_wp2_with (first
        | (go_at_call 38; refine (HIS.out _ (HP.out.keep (by (repeat (first | (with_reducible assumption) | (with_reducible exact Only.refl _ _) | (with_reducible refine Only.allocs ?_ _) | (with_reducible refine Only.drews ?_)))))).mono ?_; rintro e w2 ⟨rfl, o2⟩; have q2 : Only w w2 [] := Only.trans (by (repeat (first | (with_reducible assumption) | (with_reducible exact Only.refl _ _) | (with_reducible refine Only.allocs ?_ _) | (with_reducible refine Only.drews ?_)))) (o2.only []) (by simp))
        | (go_at_call 55; refine (HS.out w2 (HP.out.keep q2)).mono ?_; rintro e w3 ⟨rfl, rfl⟩))
      exact ⟨rfl, rfl, q2.weaken (by simp)⟩
    | succ m =>
      have hs := fun W hW => sink_some W g A c T i m hW HLT.out
      have HS := Aside0.mk hs
      have hu := fun W hW => hlv.2 W (i + 1) hW
      have e1 : unaryS T (loS T (m + 1)) i = (unaryS T (loS T m) (i + 1)).bind fun x k => .ok (.node 7 gE 0 [] [x]) k := by simp [unaryS, hb, withinS, loS]
      cases hr : unaryS T (loS T m) (i + 1) with
      | bad k code =>
        have e0 : unaryS T (loS T (m + 1)) i = .bad k code := by rw [e1, hr]; rfl
        rw [e0]
        simp only [hr] at hu
        have HU := Aside0.mk hu
        clear his hb e0 e1 h hs hpr hlv hlt hu hr
        go_enter Tryd.func64, Tryd.ntmps64
        go_wp2_with (first
          | (go_at_call 38; refine (HIS.out _ (HP.out.keep (by (repeat (first | (with_reducible assumption) | (with_reducible exact Only.refl _ _) | (with_reducible refine Only.allocs ?_ _) | (with_reducible refine Only.drews ?_)))))).mono ?_; rintro e w2 ⟨rfl, o2⟩; have q2 : Only w w2 [] := Only.trans (by (repeat (first | (with_reducible assumption) | (with_reducible exact Only.refl _ _) | (with_reducible refine Only.allocs ?_ _) | (with_reducible refine Only.drews ?_)))) (o2.only []) (by simp))
          | (go_at_call 55; refine (HS.out w2 (HP.out.keep q2)).mono ?_; rintro e w3 ⟨rfl, hp3, o3⟩; have HP3 := Aside0.mk hp3; have HO3 := Aside0.mk o3; clear hp3 o3)
          | (go_at_call 64; refine (HU.out w3 HP3.out).mono ?_; rintro e w4 ⟨rfl, o4⟩))
        exact ⟨rfl, rfl, ((q2.weaken (by simp)).trans HO3.out (fun _ h => .inl h)).trans o4 (fun _ h => .inl h)⟩
      | ok t j =>
        have e0 : unaryS T (loS T (m + 1)) i = .ok (.node 7 gE 0 [] [t]) j := by rw [e1, hr]; rfl
        rw [e0]
        simp only [hr] at hu
        have HU := Aside0.mk hu
        clear his hb e0 e1 h hs hpr hlv hlt hu hr
        go_enter Tryd.func64, Tryd.ntmps64
        go_wp2_with (first
          | (go_at_call 38; refine (HIS.out _ (HP.out.keep (by (repeat (first | (with_reducible assumption) | (with_reducible exact Only.refl _ _) | (with_reducible refine Only.allocs ?_ _) | (with_reducible refine Only.drews ?_)))))).mono ?_; rintro e w2 ⟨rfl, o2⟩; have q2 : Only w w2 [] := Only.trans (by (repeat (first | (with_reducible assumption) | (with_reducible exact Only.refl _ _) | (with_reducible refine Only.allocs ?_ _) | (with_reducible refine Only.drews ?_)))) (o2.only []) (by simp); have HO2 := Aside0.mk (o2.only [g]); have hz2 : w.heap.size + 1 ≤ w2.heap.size := (by have := (o2.only []).size; simpa using this))
          | (go_at_call 55; refine (HS.out w2 (HP.out.keep q2)).mono ?_; rintro e w3 ⟨rfl, hp3, o3⟩; have HP3 := Aside0.mk hp3; have HO3 := Aside0.mk o3; clear hp3 o3)
          | (go_at_call 64; refine (HU.out w3 HP3.out).mono ?_; rintro e w4 ⟨u4, rfl, htv4, hp4, o4⟩; obtain ⟨kd4, s4, n4, A34, n34, c34, A44, n44, c44, rfl⟩ := htv4.five; have HTV4 := Aside0.mk htv4; have HP4 := Aside0.mk hp4; have HO4 := Aside0.mk o4; obtain ⟨x0, x1, x2, xf0, xf1, xf2⟩ := blk3 hp4.cell; have hgl4 : g < w4.heap.size := hp4.g_lt; clear htv4 hp4 o4)
          | fail)
        obtain ⟨hp5, o5⟩ := HP4.out.rise hnn
        obtain ⟨w5, hw5⟩ : ∃ w5, w5 = w4.setCell ⟨g, 2, none⟩ (.int .i64 (40 - (m : Int) - 1)) := ⟨_, rfl⟩
        rw [← hw5] at hp5 o5
        rw [← hw5]
        have hz5 : w5.heap.size = w4.heap.size := by rw [hw5]; simp [World.setCell]
        obtain ⟨w7, hw7⟩ : ∃ w7, w7 = (w5.alloc (.cells #[.int .i64 kd4, .string s4, .int .i64 n4, .slice A34 n34 c34, .slice A44 n44 c44] 28)).alloc (.cells #[.int .i64 kd4, .string s4, .int .i64 n4, .slice A34 n34 c34, .slice A44 n44 c44] 28) := ⟨_, rfl⟩
        have o57 : Only w5 w7 [] := by rw [hw7]; exact (Only.alloc w5 _ []).allocs _
        have h7 : w7.heap[w4.heap.size + 1]? = some (.cells #[.int .i64 kd4, .string s4, .int .i64 n4, .slice A34 n34 c34, .slice A44 n44 c44] 28 (0, 0)) := by
          rw [hw7, ← hz5, ← size_alloc1 w5 (.cells #[.int .i64 kd4, .string s4, .int .i64 n4, .slice A34 n34 c34, .slice A44 n44 c44] 28)]
          exact heap_alloc_new _ _
        have hz24 : w2.heap.size ≤ w4.heap.size := by have := HO3.out.size; have := HO4.out.size; omega
        have hrt : RT w7 (fun k => w.heap.size + 1 ≤ k) (.slice (some ⟨w4.heap.size + 1, 0, none⟩) 1 1) [t] := (OT.lit1 (B := w.heap.size + 1) h7 (by omega) (TV_move (fun k hk hP => ⟨(o57.block k (by omega) (by simp)).trans (o5.block k hk (by have := HO3.out.size; simp; omega)), by have := HO3.out.size; omega, by omega⟩) t _ HTV4.out)).rt
        have ho27 : Only w2 w7 [g] := ((HO3.out.trans HO4.out (fun _ h => .inl h)).trans o5 (fun _ h => .inl h)).trans o57 (by simp)
        have hb7 := HB1.out w7 (HO2.out.trans ho27 (fun _ h => .inl h))
        have htr := tree_c w7 (fun k => w.heap.size + 1 ≤ k) 7 ⟨#[]⟩ _ [t] hrt (by simp)
        rw [← hw7]
        clear hw7 hw5 x0 x1 x2 xf0 xf1 xf2
        refine htr.mono ?_
        rintro e w8 ⟨u8, rfl, htv8, o8⟩
        obtain ⟨kd8, s8, n8, A38, n38, c38, A48, n48, c48, rfl⟩ := htv8.five
        have hb8 := (o8.block _ (Array.getElem?_eq_some_iff.1 hb7).1 (by simp)).trans hb7
        obtain ⟨y0, y1, y2, y3, y4, yf0, yf1, yf2, yf3, yf4⟩ := blk5 hb8
        have HB8 := Aside0.mk hb8
        have HTV8 := Aside0.mk htv8
        have HH := Aside0.mk (And.intro o8 (And.intro ho27 (And.intro o57 hp5)))
        have hz7 : w.heap.size + 1 ≤ w7.heap.size := by have := ho27.size; omega
        clear hb8 htv8 o8 ho27 o57 hp5 hb7 h7 htr hrt o5
        go_wp2_with fail
        obtain ⟨o8, ho27, o57, hp5⟩ := HH.out
        obtain ⟨k1, k2, k3, k4⟩ := fin_step HP.out ((hp5.keep o57).keep o8) (((q2.weaken (by simp)).trans ho27 (fun _ h => .inl h)).trans o8 (by simp)) (.int .i64 kd8) (.string s8) (.int .i64 n8) (.slice A38 n38 c38) (.slice A48 n48 c48) HB8.out (TV_move (Q := fun k => w.heap.size + 1 ≤ k) (fun k hk hP => ⟨rfl, by rcases hP with hP | hP <;> omega⟩) _ _ HTV8.out) (Nat.lt_succ_self _) _ (Only.refl _ [])
        obtain ⟨f0, f1, f2, f3, f4, _⟩ := blk5 k4
        refine bodyPost_ret (v := .agg #[.int .i64 kd8, .string s8, .int .i64 n8, .slice A38 n38 c38, .slice A48 n48 c48]) (by simp [results, Tryd.results64, go_sem, f0, f1, f2, f3, f4]) rfl ?_
        exact ⟨_, rfl, k1, k2, k3⟩
set_option maxHeartbeats 4000000
set_option maxRecDepth 100000

theorem prim1_c {g : Nat} {A : Option Addr} {c : Nat} {T : List GT} {m : Nat} {L : Lv} (hex : ExOK 45 g A c T m L.ex) (hL : OnL T L) (bp bn : Nat) (nm : ByteArray) (w : World) (i : Nat) (h : PAt w g A c T i m) (hbp : BoxAt w bp g) (hbn : w.heap[bn]? = some (.cells #[.string nm] 9 (0, 0))) : Calls Tryd.prog 75 #[.pointer (some ⟨bn, 0, none⟩), .pointer (some ⟨bp, 0, none⟩)] w (ERet w g A c T m (rowS T 11 nm sShut L i)) := by
  have hgl := h.g_lt
  have HP := Aside0.mk h
  have hbl : bp < w.heap.size := (Array.getElem?_eq_some_iff.1 hbp).1
  have hnl : bn < w.heap.size := (Array.getElem?_eq_some_iff.1 hbn).1
  have hbg : bp ≠ g := fun e => by
    rw [e] at hbp
    have h1 := h.cell
    rw [hbp] at h1
    simp at h1
  have hng : bn ≠ g := fun e => by
    rw [e] at hbn
    have h1 := h.cell
    rw [hbn] at h1
    simp at h1
  have hall : ∀ W, Only w W [g] → W.cell? ⟨bn, 0, none⟩ = some (.string nm) ∧ W.cell? ⟨bp, 0, none⟩ = some (.pointer (some ⟨g, 0, none⟩)) := fun W hW => by
    have h1 := (hW.block bn hnl (by simpa using hng)).trans hbn
    exact ⟨by rw [Lib.cell_of_heap h1]; rfl, (hbp.keep hW (by simpa using hbg)).cell.1⟩
  have HALL := Aside0.mk hall
  have hli := fun W hW => list_c hex hL.1 sShut W i hW
  cases hr : listS T L.ex sShut i with
  | bad k code =>
    have e0 : rowS T 11 nm sShut L i = .bad k code := by simp [rowS, hr, PR.bind]
    simp only [hr] at hli
    rw [e0]
    have HLI := Aside0.mk hli
    obtain ⟨c0, c1⟩ := hall w (Only.refl _ _)
    clear hli hr e0 h hbp hbn hall
    go_enter Tryd.func75, Tryd.ntmps75
    go_wp2_with fail
    refine wp_region_any (by kernel_rfl) ?_
    (try (change wpAny _ _ _ _ _ _ _ (World.drew _)))
    refine wpAny_ready (rs := [0, 1]) (by kernel_rfl) (by simp) ?_
    refine AllReady.cons rfl (fun K hK => ?_) ?_
    · go_simp
      refine hK _ _ ?_
      refine wpAny_ready (rs := [1]) (by kernel_rfl) (by simp) ?_
      refine AllReady.cons rfl (fun K2 hK2 => ?_) AllReady.nil
      go_simp
      refine hK2 _ _ ?_
      refine wpAny_ready (rs := [2]) (by kernel_rfl) (by simp) ?_
      refine AllReady.cons rfl (fun K3 hK3 => ?_) AllReady.nil
      go_simp
      (refine (HLI.out _ (HP.out.keep (by (repeat (first | (with_reducible assumption) | (with_reducible exact Only.refl _ _) | (with_reducible refine Only.allocs ?_ _) | (with_reducible refine Only.drews ?_)))))).mono ?_; rintro e w2 ⟨rfl, o2⟩; exact ⟨rfl, rfl, Only.trans (by (repeat (first | (with_reducible assumption) | (with_reducible exact Only.refl _ _) | (with_reducible refine Only.allocs ?_ _) | (with_reducible refine Only.drews ?_)))) o2 (fun _ h => .inl h)⟩)
    · refine AllReady.cons rfl (fun K hK => ?_) AllReady.nil
      go_simp
      refine hK _ _ ?_
      refine wpAny_ready (rs := [0, 2]) (by kernel_rfl) (by simp) ?_
      refine AllReady.cons rfl (fun K hK => ?_) ?_
      · go_simp
        refine hK _ _ ?_
        refine wpAny_ready (rs := [2]) (by kernel_rfl) (by simp) ?_
        refine AllReady.cons rfl (fun K2 hK2 => ?_) AllReady.nil
        go_simp
        (refine (HLI.out _ (HP.out.keep (by (repeat (first | (with_reducible assumption) | (with_reducible exact Only.refl _ _) | (with_reducible refine Only.allocs ?_ _) | (with_reducible refine Only.drews ?_)))))).mono ?_; rintro e w2 ⟨rfl, o2⟩; exact ⟨rfl, rfl, Only.trans (by (repeat (first | (with_reducible assumption) | (with_reducible exact Only.refl _ _) | (with_reducible refine Only.allocs ?_ _) | (with_reducible refine Only.drews ?_)))) o2 (fun _ h => .inl h)⟩)
      · refine AllReady.cons rfl (fun K hK => ?_) AllReady.nil
        go_simp
        (refine (HLI.out _ (HP.out.keep (by (repeat (first | (with_reducible assumption) | (with_reducible exact Only.refl _ _) | (with_reducible refine Only.allocs ?_ _) | (with_reducible refine Only.drews ?_)))))).mono ?_; rintro e w2 ⟨rfl, o2⟩; exact ⟨rfl, rfl, Only.trans (by (repeat (first | (with_reducible assumption) | (with_reducible exact Only.refl _ _) | (with_reducible refine Only.allocs ?_ _) | (with_reducible refine Only.drews ?_)))) o2 (fun _ h => .inl h)⟩)
  | ok l j =>
    have e0 : rowS T 11 nm sShut L i = .ok (.node 11 nm 0 [] l) j := by simp [rowS, hr, PR.bind]
    simp only [hr] at hli
    rw [e0]
    have HLI := Aside0.mk hli
    have hb1 : ∀ W, Only (w.alloc (.cells zT 28)) W [g] → W.heap[w.heap.size]? = some (.cells zT 28 (0, 0)) := fun W hW => (hW.block _ (by simp) (by simp; omega)).trans (heap_alloc_new w _)
    have HB1 := Aside0.mk hb1
    have hlen := h.len
    clear hli hr e0 h hbp hbn hall hb1
    go_enter Tryd.func75, Tryd.ntmps75
    go_wp2_with fail
    go_region_held3 (fun W => W.cell? ⟨bn, 0, none⟩ = some (.string nm) ∧ W.cell? ⟨bp, 0, none⟩ = some (.pointer (some ⟨g, 0, none⟩)))
      (first | exact HALL.out _ (by (repeat (first | (with_reducible assumption) | (with_reducible exact Only.refl _ _) | (with_reducible refine Only.allocs ?_ _) | (with_reducible refine Only.drews ?_) | (with_reducible refine Only.setNew ?_ _ (Nat.le_refl _) _)))))
      (first
        | (go_at_call 76; refine (HLI.out _ (HP.out.keep (by (repeat (first | (with_reducible assumption) | (with_reducible exact Only.refl _ _) | (with_reducible refine Only.allocs ?_ _) | (with_reducible refine Only.drews ?_)))))).mono ?_; rintro e w2 ⟨v2, rfl, hrt2, hp2, o2, hll⟩; have q2 : Only w w2 [g] := Only.trans (by (repeat (first | (with_reducible assumption) | (with_reducible exact Only.refl _ _) | (with_reducible refine Only.allocs ?_ _) | (with_reducible refine Only.drews ?_)))) o2 (fun _ h => .inl h); have HO2 : Aside0 (Only (w.alloc (.cells zT 28)) w2 [g]) := ⟨Only.trans (by (repeat (first | (with_reducible assumption) | (with_reducible exact Only.refl _ _) | (with_reducible refine Only.allocs ?_ _) | (with_reducible refine Only.drews ?_)))) o2 (fun _ h => .inl h)⟩; have HP2 := Aside0.mk hp2; have HRT2 := Aside0.mk hrt2; have hj := hp2.hi; have hz2 : w.heap.size + 1 ≤ w2.heap.size := (by have := HO2.out.size; simpa using this); clear hrt2 hp2 o2)
        | (go_at_call 23; refine (tree_c w2 _ 11 nm v2 l HRT2.out (by omega)).mono ?_; rintro e w3 ⟨u3, rfl, htv3, o3⟩; obtain ⟨kd3, s3, n3, A33, n33, c33, A43, n43, c43, rfl⟩ := htv3.five; have q3 : Only w w3 [g] := q2.trans o3 (by simp); have HTV3 := Aside0.mk htv3; have HO3 := Aside0.mk o3; obtain ⟨y0, y1, y2, y3, y4, yf0, yf1, yf2, yf3, yf4⟩ := blk5 (HB1.out w3 (HO2.out.trans o3 (by simp))); clear htv3 o3))
    all_goals go_wp2_with fail
    have hb3 := HB1.out w3 (HO2.out.trans HO3.out (by simp))
    obtain ⟨k1, k2, k3, k4⟩ := fin_step HP.out (HP2.out.keep HO3.out) q3 (.int .i64 kd3) (.string s3) (.int .i64 n3) (.slice A33 n33 c33) (.slice A43 n43 c43) hb3 (TV_move (Q := fun k => w.heap.size + 1 ≤ k) (fun k hk hP => ⟨rfl, by rcases hP with hP | hP <;> ((try simp at hP); omega)⟩) _ _ HTV3.out) (Nat.lt_succ_self _) _ (Only.refl _ [])
    obtain ⟨f0, f1, f2, f3, f4, _⟩ := blk5 k4
    refine bodyPost_ret (v := .agg #[.int .i64 kd3, .string s3, .int .i64 n3, .slice A33 n33 c33, .slice A43 n43 c43]) (by simp [results, Tryd.results75, go_sem, f0, f1, f2, f3, f4]) rfl ?_
    exact ⟨_, rfl, k1, k2, k3⟩
end Go.Proofs.YtejidddjkngoiaaDoor
