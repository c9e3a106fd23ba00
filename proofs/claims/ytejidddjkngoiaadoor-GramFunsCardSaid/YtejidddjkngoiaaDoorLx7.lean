/- lex: the token that is a sign, and a byte with which none begins. -/
import Derived.Test.YtejidddjkngoiaaDoorLx3
namespace Go.Proofs.YtejidddjkngoiaaDoor
open Go.RowKit Go.Proofs.YtejidddjkngoiaaDoorW.PrintWords
set_option linter.all false
def signsL : List ByteArray := [⟨#[45, 62]⟩, ⟨#[61, 61]⟩, ⟨#[47, 61]⟩, ⟨#[61, 60]⟩, ⟨#[62, 61]⟩, ⟨#[61]⟩, ⟨#[60]⟩, ⟨#[62]⟩, ⟨#[43]⟩, ⟨#[45]⟩, ⟨#[42]⟩, ⟨#[47]⟩, ⟨#[33]⟩, ⟨#[40]⟩, ⟨#[41]⟩, ⟨#[123]⟩, ⟨#[125]⟩, ⟨#[91]⟩, ⟨#[93]⟩, ⟨#[44]⟩, ⟨#[59]⟩, ⟨#[46]⟩]
theorem signsV_eq : signsV = (signsL.map Value.string).toArray := rfl
theorem signsV_at (k : Nat) (h : k < 22) : signsV[k]? = some (.string (signsL[k]'h)) := by
  rw [signsV_eq, List.getElem?_toArray, List.getElem?_map, List.getElem?_eq_getElem (show k < signsL.length from h)]; rfl
theorem signs_small (k : Nat) (h : k < signsL.length) : (signsL[k]).size ≤ 2 := by
  have : ∀ p ∈ signsL, p.size ≤ 2 := by decide
  exact this _ (List.getElem_mem _)
theorem St.alloc {w0 w : World} {g : Nat} {s : ByteArray} {j : Int} {gr gt : Nat} {R T : Array Value} (h : St w0 w g s j gr gt R T) (o : Obj) : St w0 (w.alloc o) g s j gr gt R T := h.below (below_alloc (Below.refl _ _) o)
theorem BK.new' (W : World) (n : Nat) {t : TypeId} {cs : Array Value} (h : W.heap.size = n) : BK (W.alloc (.cells cs t)) n t cs := by subst h; exact heap_alloc_new W _
/-- no sign ahead of the k-th stands there -/
def NoneB (l : List UInt8) (k : Nat) : Prop := ∀ m (h : m < signsL.length), m < k → Lib.hasPrefix l (signsL[m]).data.toList = false

set_option maxHeartbeats 4000000 in
set_option maxRecDepth 100000 in
theorem token_sign (g : Nat) (s : ByteArray) (i : Nat) (w : World) (hI : ScAt w g s (i : Int)) (hlt : i < s.size) (hs : s.size ≤ 16384)
    (hd : digB (bt s (i : Int)) = false) (hq : (bt s (i : Int) == 34) = false) (hgr : greB (bt s (i : Int)) = false) (hsm : smaB (bt s (i : Int)) = false) :
    Calls Tryd.prog 20 #[.pointer (some ⟨g, 0, none⟩)] w fun e w' =>
      ((∃ k, ∃ h : k < signsL.length, NoneB (s.extract i s.size).data.toList k ∧ Lib.hasPrefix (s.extract i s.size).data.toList (signsL[k]).data.toList = true ∧
          e = .returned (.tuple #[tokA 5 signsL[k] 0 (.slice none 0 0) i, .int .i64 0]) ∧ ScAt w' g s ((i + (signsL[k]).size : Nat) : Int)) ∨
        (NoneB (s.extract i s.size).data.toList 22 ∧ e = .returned (.tuple #[tokA 0 ⟨#[]⟩ 0 (.slice none 0 0) i, .int .i64 151]) ∧ ScAt w' g s (i : Int))) ∧ KeepBut w w' g none ∧ Below g w w' := by
  have c0 : w.cell? ⟨g, 0, none⟩ = some (.string s) := blk_cell hI 0
  have c1 : w.cell? ⟨g, 1, none⟩ = some (.int .i64 i) := blk_cell hI 1
  have hg := blk_lt hI
  have b1 := bt_range s (i : Int)
  have HH := fun w hI => here_any g s (i : Int) w hI (by omega)
  rw [hereB_lt hlt] at HH
  have HH' := Lib.hid HH
  have S0 := St.start w hI #[.int .i64 0, .string ⟨#[]⟩, .int .i64 0, .slice none 0 0, .int .i64 0] #[.int .i64 0, .string ⟨#[]⟩, .int .i64 0, .slice none 0 0, .int .i64 i]
  have HS0 := Lib.hid S0
  clear HH S0 hI
  have D := fun w => digit_any (bt s (i : Int)) w
  rw [hd] at D
  have HD := Lib.hid D
  have GR := fun w => great_any (bt s (i : Int)) w
  rw [hgr] at GR
  have HGR := Lib.hid GR
  have SM := fun w => small_any (bt s (i : Int)) w
  rw [hsm] at SM
  have HSM := Lib.hid SM
  obtain ⟨X, hX⟩ : ∃ X, X = s.extract i s.size := ⟨_, rfl⟩
  have HX := Lib.hid hX
  rw [← hX]
  clear D hd GR hgr SM hsm hX
  go_enter Tryd.func20, Tryd.ntmps20
  go_wp2_with fail
  go_step3
  go_wp2_with fail
  refine (HH'.out _ HS0.out.sc).mono ?_
  rintro e w1 ⟨rfl, n1, rfl⟩
  go_wp2_with fail
  refine (HD.out _).mono ?_
  rintro e w1 ⟨rfl, rfl⟩
  go_wp2_with fail
  refine (HGR.out _).mono ?_
  rintro e w1 ⟨rfl, rfl⟩
  go_wp2_with fail
  refine (HSM.out _).mono ?_
  rintro e w1 ⟨rfl, rfl⟩
  go_wp2_with fail
  go_step3
  go_wp2_with fail
  refine (signs_any _).mono ?_
  rintro e w2 ⟨rfl, hw2⟩
  have S2 := (HS0.out.drewN n1).alloc (.cells signsV 9)
  have Z2 : BK w2 (w.heap.size + 1 + 1) 9 signsV := by rw [hw2]; exact BK.new' _ _ (by simp)
  rw [← hw2] at S2
  have HS2 := Lib.hid S2
  have HZ2 := Lib.hid Z2
  clear S2 Z2 hw2 c0 c1
  go_wp2_with fail
  obtain ⟨gs, hgs⟩ : ∃ gs, gs = w.heap.size + 1 + 1 := ⟨_, rfl⟩
  rw [← hgs] at HZ2 ⊢
  have n1 : gs ≠ g := by omega
  have n2 : gs ≠ w.heap.size + 1 := by omega
  have n3 : gs ≠ w.heap.size := by omega
  clear hgs
  go_loopg [90] 22 (fun gk s90 wr => ∃ k : Nat, k ≤ 22 ∧ gk = 22 - k ∧ s90 = .int .i64 k ∧ Aside0 (NoneB X.data.toList k) ∧ Aside0 (St w wr g s (i : Int) w.heap.size (w.heap.size + 1) #[.int .i64 0, .string ⟨#[]⟩, .int .i64 0, .slice none 0 0, .int .i64 0] #[.int .i64 0, .string ⟨#[]⟩, .int .i64 0, .slice none 0 0, .int .i64 i]) ∧ Aside0 (BK wr gs 9 signsV))
  case atStart => exact ⟨0, by omega, rfl, rfl, ⟨fun m h hm => absurd hm (by omega)⟩, ⟨HS2.out⟩, ⟨HZ2.out⟩⟩
  case round =>
    obtain ⟨k, hk, rfl, rfl, HN, HS, HZ⟩ := hrel
    clear HS2 HZ2
    by_cases hlt2 : k < 22
    · have hl1 : decide ((k : Int) < 22) = true := decide_eq_true (by omega)
      obtain ⟨p, hp⟩ : ∃ p, p = signsL[k]'hlt2 := ⟨_, rfl⟩
      have hz : wr.cell? ⟨gs, k, none⟩ = some (.string p) := by rw [HZ.out.cell k, signsV_at k hlt2, hp]
      have hps : p.size ≤ 2 := by rw [hp]; exact signs_small k hlt2
      have P := fun w => Tryd.strings_HasPrefix (s.extract i s.size) p w
      obtain ⟨b, hb⟩ : ∃ b, b = Lib.hasPrefix X.data.toList p.data.toList := ⟨_, rfl⟩
      rw [← HX.out, ← hb, HX.out] at P
      have HP := Lib.hid P
      have HB := Lib.hid hb
      have HPP := Lib.hid hp
      clear P hb hp
      have c0 := HS.out.sc.cell0
      have c1 := HS.out.sc.cell1
      have f1 := HS.out.sc.froz
      have ct := HS.out.t.cell
      have ft := HS.out.t.frozen
      have cr := HS.out.r.cell
      have fr := HS.out.r.frozen
      have p1 : ((i : Int) ≤ (s.size : Int)) = True := eq_true (by omega)
      cases b
      · go_wp2_with fail
        go_quiet ((go_at_call 34; exact Calls.quiet_of_same (HP.out _)))
        go_wp2_with fail
        go_roundg (22 - (k + 1))
        case measure => omega
        case rel =>
          refine ⟨k + 1, by omega, rfl, by go_num, ⟨?_⟩, ⟨HS.out.drewN _⟩, ⟨HZ.out.drewN _⟩⟩
          intro m h hm
          by_cases e : m = k
          · subst e; rw [show signsL[m]'h = p from HPP.out.symm]; exact HB.out.symm
          · exact HN.out m h (by omega)
      · go_wp2_with fail
        go_quiet ((go_at_call 34; exact Calls.quiet_of_same (HP.out _)))
        go_wp2_with fail
        rw [Exit.noGoto_ret]
        have SZ := ((((HS.out.drewN nq).setS ((i : Int) + (p.size : Int))).setT 0 (.int .i64 5)).setT 1 (.string p))
        refine bodyPost_ret (v := .tuple #[tokA 5 p 0 (.slice none 0 0) i, .int .i64 0]) (by simp [results, Tryd.results20, go_sem, cr]) rfl ⟨.inl ⟨k, hlt2, HN.out, ?_, ?_, ?_⟩, (SZ.setR5 _ _ _ _ _).2⟩
        · rw [show signsL[k]'hlt2 = p from HPP.out.symm]; exact HB.out.symm
        · rw [show signsL[k]'hlt2 = p from HPP.out.symm]
        · rw [show signsL[k]'hlt2 = p from HPP.out.symm]; exact (SZ.setR5 _ _ _ _ _).1
    · have hl1 : decide ((k : Int) < 22) = false := decide_eq_false (by omega)
      obtain rfl : k = 22 := by omega
      have c0 := HS.out.sc.cell0
      have c1 := HS.out.sc.cell1
      have ct := HS.out.t.cell
      have cr := HS.out.r.cell
      have fr := HS.out.r.frozen
      go_wp2_with fail
      rw [Exit.noGoto_ret]
      have SZ := HS.out
      exact bodyPost_ret (v := .tuple #[tokA 0 ⟨#[]⟩ 0 (.slice none 0 0) i, .int .i64 151]) (by simp [results, Tryd.results20, go_sem, cr]) rfl ⟨.inr ⟨HN.out, rfl, (SZ.setR5 _ _ _ _ _).1⟩, (SZ.setR5 _ _ _ _ _).2⟩
end Go.Proofs.YtejidddjkngoiaaDoor
