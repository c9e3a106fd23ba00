/- lex: the token that is an int. -/
import Derived.Test.YtejidddjkngoiaaDoorLx2
namespace Go.Proofs.YtejidddjkngoiaaDoor
open Go.RowKit Go.Proofs.YtejidddjkngoiaaDoorW.PrintWords
set_option linter.all false
abbrev tokA (k : Int) (S : ByteArray) (n : Int) (B : Value) (at_ : Int) : Value := .agg #[.int .i64 k, .string S, .int .i64 n, B, .int .i64 at_]

theorem ScAt.alloc {w : World} {g : Nat} {s : ByteArray} {j : Int} (h : ScAt w g s j) (o : Obj) : ScAt (w.alloc o) g s j := (Below.heap_alloc w o g (blk_lt h)).trans h
theorem ScAt.drewN {w : World} {g : Nat} {s : ByteArray} {j : Int} (h : ScAt w g s j) (n : Nat) : ScAt (w.drewN n) g s j := h
theorem ScAt.below {w w' : World} {g : Nat} {s : ByteArray} {j : Int} (h : ScAt w g s j) (hb : Below w.heap.size w w') : ScAt w' g s j := (hb.block g (blk_lt h)).trans h
theorem hereB_lt {s : ByteArray} {i : Nat} (h : i < s.size) : hereB s (i : Int) = bt s (i : Int) := if_pos (by omega)
/-- block g is these cells -/
def BK (w : World) (g : Nat) (t : TypeId) (cs : Array Value) : Prop := w.heap[g]? = some (.cells cs t (0, 0))
theorem BK.keep {w w' : World} {g g' : Nat} {t : TypeId} {cs : Array Value} (h : BK w g t cs) (hk : KeepBut w w' g' none) (hne : g ≠ g') : BK w' g t cs := hk.blk h hne (by simp)
theorem BK.below {w w' : World} {g : Nat} {t : TypeId} {cs : Array Value} (h : BK w g t cs) (hb : Below w.heap.size w w') : BK w' g t cs := (hb.block g (blk_lt h)).trans h
theorem BK.drewN {w : World} {g : Nat} {t : TypeId} {cs : Array Value} (h : BK w g t cs) (n : Nat) : BK (w.drewN n) g t cs := h
theorem BK.cell {w : World} {g : Nat} {t : TypeId} {cs : Array Value} (h : BK w g t cs) (i : Nat) : w.cell? ⟨g, i, none⟩ = cs[i]? := blk_cell h i
theorem BK.frozen {w : World} {g : Nat} {t : TypeId} {cs : Array Value} (h : BK w g t cs) (i : Nat) : w.frozen? ⟨g, i, none⟩ = false := blk_frozen h i
theorem BK.lt {w : World} {g : Nat} {t : TypeId} {cs : Array Value} (h : BK w g t cs) : g < w.heap.size := blk_lt h
theorem parse_ok (t : ByteArray) (v : Int) (w : World) (ht : t.size ≤ 16384) (h : Lib.parseIntB 64 t.data.toList = .ok v) :
    Calls Tryd.prog 26 #[.string t, .int .i64 10, .int .i64 64] w fun e w' => e = .returned (.tuple #[.int .i64 v, .nilIface]) ∧ Below w.heap.size w w' :=
  (Tryd.strconv_ParseInt_10_at64_ok t (by omega) v h w).mono fun e w' ⟨he, hw⟩ => ⟨he, by
    rcases hw with rfl | ⟨s, rfl⟩
    · exact Below.refl _ _
    · exact Lib.bytesWorld_below _ _ _⟩
theorem parse_bad (t : ByteArray) (w : World) (hG : Glob w) (ht : t.size ≤ 16384) (h : ∀ v, Lib.parseIntB 64 t.data.toList ≠ .ok v) :
    Calls Tryd.prog 26 #[.string t, .int .i64 10, .int .i64 64] w fun e w' => ∃ (n : Int) (p : Value), e = .returned (.tuple #[.int .i64 n, .iface 83 p]) ∧ Below w.heap.size w w' := by
  obtain ⟨_, _, ⟨tp, p, h1⟩, ⟨tp2, p2, h2⟩⟩ := hG.here
  cases hb : Lib.parseIntB 64 t.data.toList with
  | ok v => exact absurd hb (h v)
  | range => exact (Tryd.strconv_ParseInt_10_at64_range_var t (by omega) hb tp2 p2 w h2).mono fun e w' ⟨N, he, _, _, hw⟩ => ⟨_, _, he, hw⟩
  | _ => exact (Any.strconv_ParseInt_10_at64_syntax_var Tryd.laysC174 t (by omega) hb tp p w h1).mono fun e w' ⟨N, he, _, _, hw⟩ => ⟨_, _, he, hw⟩

/-- what is known in a walk of token: the scanner, the result's block, the token's block -/
structure St (w0 w : World) (g : Nat) (s : ByteArray) (j : Int) (gr gt : Nat) (R T : Array Value) : Prop where
  sc : ScAt w g s j
  r : BK w gr 44 R
  t : BK w gt 44 T
  kb : KeepBut w0 w g none
  bl : Below g w0 w
  lg : g < w0.heap.size
  nr : w0.heap.size ≤ gr
  nt : w0.heap.size ≤ gt
  ne : gr ≠ gt
section
variable {w0 w w' : World} {g : Nat} {s : ByteArray} {j j' : Int} {gr gt : Nat} {R T : Array Value}
theorem St.drewN (h : St w0 w g s j gr gt R T) (n : Nat) : St w0 (w.drewN n) g s j gr gt R T := ⟨h.sc, h.r, h.t, keep_drewN h.kb n, pw_below_drewN h.bl n, h.lg, h.nr, h.nt, h.ne⟩
theorem St.setT (h : St w0 w g s j gr gt R T) (k : Nat) (u : Value) : St w0 (w.setCell ⟨gt, k, none⟩ u) g s j gr gt R (T.setIfInBounds k u) :=
  ⟨blk_far h.sc (by have := h.lg; have := h.nt; dsimp only; omega) u, blk_far h.r (by exact h.ne) u, blk_set h.t k u, keep_far h.kb (by exact h.nt) u, h.bl.setCell (by have := h.lg; have := h.nt; dsimp only; omega) u, h.lg, h.nr, h.nt, h.ne⟩
theorem St.setR (h : St w0 w g s j gr gt R T) (k : Nat) (u : Value) : St w0 (w.setCell ⟨gr, k, none⟩ u) g s j gr gt (R.setIfInBounds k u) T :=
  ⟨blk_far h.sc (by have := h.lg; have := h.nr; dsimp only; omega) u, blk_set h.r k u, blk_far h.t (by exact h.ne.symm) u, keep_far h.kb (by exact h.nr) u, h.bl.setCell (by have := h.lg; have := h.nr; dsimp only; omega) u, h.lg, h.nr, h.nt, h.ne⟩
theorem St.setR5 (h : St w0 w g s j gr gt R T) (u0 u1 u2 u3 u4 : Value) : ScAt (((((w.setCell ⟨gr, 0, none⟩ u0).setCell ⟨gr, 1, none⟩ u1).setCell ⟨gr, 2, none⟩ u2).setCell ⟨gr, 3, none⟩ u3).setCell ⟨gr, 4, none⟩ u4) g s j ∧
    KeepBut w0 (((((w.setCell ⟨gr, 0, none⟩ u0).setCell ⟨gr, 1, none⟩ u1).setCell ⟨gr, 2, none⟩ u2).setCell ⟨gr, 3, none⟩ u3).setCell ⟨gr, 4, none⟩ u4) g none ∧
    Below g w0 (((((w.setCell ⟨gr, 0, none⟩ u0).setCell ⟨gr, 1, none⟩ u1).setCell ⟨gr, 2, none⟩ u2).setCell ⟨gr, 3, none⟩ u3).setCell ⟨gr, 4, none⟩ u4) :=
  let z := ((((h.setR 0 u0).setR 1 u1).setR 2 u2).setR 3 u3).setR 4 u4
  ⟨z.sc, z.kb, z.bl⟩
theorem St.setS (h : St w0 w g s j gr gt R T) (j' : Int) : St w0 (w.setCell ⟨g, 1, none⟩ (.int .i64 j')) g s j' gr gt R T :=
  ⟨by have := blk_set h.sc 1 (.int .i64 j'); simpa [ScAt] using this, blk_far h.r (by have := h.lg; have := h.nr; dsimp only; omega) _, blk_far h.t (by have := h.lg; have := h.nt; dsimp only; omega) _, KeepBut.set_ h.kb 1 _, h.bl.setCell (by exact Nat.le_refl _) _, h.lg, h.nr, h.nt, h.ne⟩
theorem St.below (h : St w0 w g s j gr gt R T) (hb : Below w.heap.size w w') : St w0 w' g s j gr gt R T :=
  ⟨h.sc.below hb, h.r.below hb, h.t.below hb, h.kb.trans (KeepBut.of_below hb g none) (.inl rfl), h.bl.trans (hb.mono (by have := blk_lt h.sc; omega)), h.lg, h.nr, h.nt, h.ne⟩
theorem St.scan {s' : ByteArray} (h : St w0 w g s j gr gt R T) (hs : ScAt w' g s' j') (hk : KeepBut w w' g none) (hb : Below g w w') : St w0 w' g s' j' gr gt R T :=
  ⟨hs, h.r.keep hk (by have := h.lg; have := h.nr; omega), h.t.keep hk (by have := h.lg; have := h.nt; omega), h.kb.trans hk (.inl rfl), h.bl.trans hb, h.lg, h.nr, h.nt, h.ne⟩
theorem St.start (w : World) {g : Nat} {s : ByteArray} {i : Int} (h : ScAt w g s i) (R T : Array Value) :
    St w ((w.alloc (.cells R 44)).alloc (.cells T 44)) g s i w.heap.size (w.heap.size + 1) R T :=
  ⟨(h.alloc _).alloc _, (Below.heap_alloc _ _ _ (by simp)).trans (heap_alloc_new w _), by have := heap_alloc_new (w.alloc (.cells R 44)) (.cells T 44); simpa [BK] using this,
    keep_alloc (keep_alloc (KeepBut.refl _ _ _) _) _, ((Below.refl _ _).alloc (Nat.le_of_lt (blk_lt h)) _).alloc (by have := blk_lt h; simp; omega) _, blk_lt h, Nat.le_refl _, Nat.le_succ _, by omega⟩
theorem St.glob {B : World} (h : St w0 w g s j gr gt R T) (hG : Glob B) (hB : Below B.heap.size B w0) (hg : B.heap.size ≤ g) : Glob w := hG.below (hB.trans (h.bl.mono hg))
end
theorem ScAt.cell0 {w : World} {g : Nat} {s : ByteArray} {j : Int} (h : ScAt w g s j) : w.cell? ⟨g, 0, none⟩ = some (.string s) := blk_cell h 0
theorem ScAt.cell1 {w : World} {g : Nat} {s : ByteArray} {j : Int} (h : ScAt w g s j) : w.cell? ⟨g, 1, none⟩ = some (.int .i64 j) := blk_cell h 1
theorem ScAt.froz {w : World} {g : Nat} {s : ByteArray} {j : Int} (h : ScAt w g s j) : w.frozen? ⟨g, 1, none⟩ = false := blk_frozen h 1
set_option maxHeartbeats 2000000 in
set_option maxRecDepth 100000 in
theorem token_int_ok (g : Nat) (s : ByteArray) (i : Nat) (w : World) (hI : ScAt w g s (i : Int)) (hlt : i < s.size) (hs : s.size ≤ 16384)
    (hd : digB (bt s (i : Int)) = true) (v : Int) (hp : Lib.parseIntB 64 (s.extract i (i + runLen digB s i)).data.toList = .ok v) (hv : v ≤ 4611686018427387903)
    (hsm : smaB (hereB s ((i + runLen digB s i : Nat) : Int)) = false) (hgr : greB (hereB s ((i + runLen digB s i : Nat) : Int)) = false) :
    Calls Tryd.prog 20 #[.pointer (some ⟨g, 0, none⟩)] w fun e w' =>
      e = .returned (.tuple #[tokA 1 ⟨#[]⟩ v (.slice none 0 0) i, .int .i64 0]) ∧ ScAt w' g s ((i + runLen digB s i : Nat) : Int) ∧ KeepBut w w' g none ∧ Below g w w' := by
  have c0 : w.cell? ⟨g, 0, none⟩ = some (.string s) := blk_cell hI 0
  have c1 : w.cell? ⟨g, 1, none⟩ = some (.int .i64 i) := blk_cell hI 1
  have hg := blk_lt hI
  have b1 := bt_range s (i : Int)
  have HH := fun w hI => here_any g s (i : Int) w hI (by omega)
  rw [hereB_lt hlt] at HH
  have HH' := Lib.hid HH
  have S0 := St.start w hI #[.int .i64 0, .string ⟨#[]⟩, .int .i64 0, .slice none 0 0, .int .i64 0] #[.int .i64 0, .string ⟨#[]⟩, .int .i64 0, .slice none 0 0, .int .i64 i]
  have HS0 := Lib.hid S0
  clear HH S0 hI
  have D := fun w => digit_any (bt s (i : Int)) w
  rw [hd] at D
  have HD := Lib.hid D
  have WH := fun w hI => while_digit g s i w hI (by omega) hs
  have hle := run_le digB s i (by omega)
  obtain ⟨j, hj⟩ : ∃ j : Nat, j = i + runLen digB s i := ⟨_, rfl⟩
  rw [← hj] at WH hp hsm hgr hle ⊢
  have P := fun w => parse_ok (s.extract i j) v w (by rw [ByteArray.size_extract]; omega) hp
  have H2 := fun w hI => here_any g s (j : Int) w hI (by omega)
  obtain ⟨c2, hc2⟩ : ∃ c, c = hereB s (j : Int) := ⟨_, rfl⟩
  rw [← hc2] at H2 hsm hgr
  have SM := fun w => small_any c2 w
  have GR := fun w => great_any c2 w
  rw [hsm] at SM
  rw [hgr] at GR
  have HWH := Lib.hid WH
  have HP := Lib.hid P
  have HH2 := Lib.hid H2
  have HSM := Lib.hid SM
  have HGR := Lib.hid GR
  have qe : ∀ w, (binOp .neq 65 .nilIface .nilIface).run Tryd.prog w = .ok (.bool false) w := fun w => by kernel_rfl
  have hv2 : decide (4611686018427387903 < v) = false := decide_eq_false (by omega)
  clear D hd hp WH P H2 SM GR hsm hgr hj hc2
  go_enter Tryd.func20, Tryd.ntmps20
  go_wp2_with fail
  go_step3
  go_wp2_with fail
  refine (HH'.out _ HS0.out.sc).mono ?_
  rintro e w1 ⟨rfl, n1, rfl⟩
  go_wp2_with fail
  refine (HD.out _).mono ?_
  rintro e w1 ⟨rfl, rfl⟩
  go_wp2_with fail
  have S1 := (HS0.out.drewN n1).setT 0 (.int .i64 1)
  refine (HWH.out _ S1.sc).mono ?_
  rintro e w2 ⟨rfl, I2, K2, L2⟩
  have S2 := S1.scan I2 K2 L2
  clear S1 I2 K2 L2
  go_wp2_with fail
  refine (HP.out _).mono ?_
  rintro e w3 ⟨rfl, B3⟩
  have S3 := S2.below B3
  clear S2 B3
  have HS3 := Lib.hid S3
  clear S3 c0 c1
  have c0 := HS3.out.sc.cell0
  have c1 := HS3.out.sc.cell1
  have f1 := HS3.out.sc.froz
  have ct := HS3.out.t.cell
  have ft := HS3.out.t.frozen
  have cr := HS3.out.r.cell
  have fr := HS3.out.r.frozen
  go_wp2_with fail
  refine (HH2.out _ HS3.out.sc).mono ?_
  rintro e w4 ⟨rfl, n4, rfl⟩
  go_wp2_with fail
  refine (HSM.out _).mono ?_
  rintro e w5 ⟨rfl, rfl⟩
  go_wp2_with fail
  refine (HH2.out _ (HS3.out.drewN _).sc).mono ?_
  rintro e w4 ⟨rfl, n5, rfl⟩
  go_wp2_with fail
  refine (HGR.out _).mono ?_
  rintro e w5 ⟨rfl, rfl⟩
  go_wp2_with fail
  rw [Exit.noGoto_ret]
  have SZ := ((HS3.out.drewN (n4 + n5)).setT 2 (.int .i64 v))
  exact bodyPost_ret (v := .tuple #[tokA 1 ⟨#[]⟩ v (.slice none 0 0) i, .int .i64 0]) (by simp [results, Tryd.results20, go_sem, cr]) rfl ⟨rfl, SZ.setR5 _ _ _ _ _⟩
end Go.Proofs.YtejidddjkngoiaaDoor
