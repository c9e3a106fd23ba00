/- lex: Word, and the predicates on bytes; while. -/
import Derived.Test.YtejidddjkngoiaaDoorProg
import Derived.WalkKit
import Derived.WalkLawsBesides
import Derived.WalkSpells
import Derived.KernelRfl
import Derived.Lib.Hide
import Derived.Test.YtejidddjkngoiaaDoorGlob
import Derived.Deep.QuietTactic
import Derived.BigQuiet
namespace Go.Proofs.YtejidddjkngoiaaDoor
open Go.RowKit Go.Proofs.YtejidddjkngoiaaDoorW.PrintWords
set_option linter.all false

/-- " case of end receive after rem " -/
def wordsB : ByteArray := ⟨#[32, 99, 97, 115, 101, 32, 111, 102, 32, 101, 110, 100, 32, 114, 101, 99, 101, 105, 118, 101, 32, 97, 102, 116, 101, 114, 32, 114, 101, 109, 32]⟩
def lexWord (s : ByteArray) : Bool := !s.toList.isEmpty && !(Lib.contains s.data.toList [32]) && Lib.contains wordsB.data.toList (((⟨#[32]⟩ : ByteArray) ++ s) ++ ⟨#[32]⟩).data.toList
set_option maxHeartbeats 400000 in
theorem word_any (s : ByteArray) (w : World) (hG : Glob w) (hs : s.size ≤ 140737488355328) :
    Calls Tryd.prog 32 #[.string s] w fun e w' => e = .returned (.bool (lexWord s)) ∧ Drawn0 w w' := by
  have G := hG.here.1
  unfold lexWord
  by_cases h0 : s.toList = []
  · have h0' : s.toList.isEmpty = true := by simp [h0]
    rw [h0']
    go_enter Tryd.func32, Tryd.ntmps32
    go_wp2
    go_ret
    exact ⟨by simp, Drawn0.refl _⟩
  have h0' : s.toList.isEmpty = false := by simpa using h0
  rw [h0']
  have C1 := fun w' (_ : Glob w') => contains_space s w'
  have hz : (wordsB).size < 4294967281 := by decide
  have C2 := fun w' (hw : Glob w') => contains_calls wordsB (((⟨#[32]⟩ : ByteArray) ++ s) ++ ⟨#[32]⟩) w' hw hz
  obtain ⟨b1, hb1⟩ : ∃ b, b = Lib.contains s.data.toList [32] := ⟨_, rfl⟩
  obtain ⟨b2, hb2⟩ : ∃ b, b = Lib.contains wordsB.data.toList (((⟨#[32]⟩ : ByteArray) ++ s) ++ ⟨#[32]⟩).data.toList := ⟨_, rfl⟩
  rw [← hb2] at C2 ⊢
  rw [← hb1] at C1 ⊢
  have HC1 := Lib.hid C1
  have HC2 := Lib.hid C2
  have e1 : 1 + s.size ≤ 9223372036854775807 := by omega
  have e2 : 1 + s.size + 1 ≤ 9223372036854775807 := by omega
  clear hb1 hb2 C1 C2 hz hs G h0
  cases b1
  · go_enter Tryd.func32, Tryd.ntmps32
    go_wp2_with fail
    refine (HC1.out _ hG).mono ?_
    rintro e w1 ⟨rfl, n1, rfl⟩
    go_wp2_with fail
    refine (HC2.out _ (hG.drewN _)).mono ?_
    rintro e w1 ⟨rfl, n2, rfl⟩
    go_wp2_with fail
    go_ret
    exact ⟨by simp, _, rfl⟩
  · go_enter Tryd.func32, Tryd.ntmps32
    go_wp2_with fail
    refine (HC1.out _ hG).mono ?_
    rintro e w1 ⟨rfl, n1, rfl⟩
    go_wp2_with fail
    go_ret
    exact ⟨by simp, _, rfl⟩

def digB (c : Int) : Bool := decide (48 ≤ c) && decide (c ≤ 57)
def smaB (c : Int) : Bool := decide (97 ≤ c) && decide (c ≤ 122)
def greB (c : Int) : Bool := (decide (65 ≤ c) && decide (c ≤ 90)) || c == 95
def namB (c : Int) : Bool := smaB c || greB c || digB c
theorem digit_any (c : Int) (w : World) :
    Calls Tryd.prog 25 #[.int .u8 c] w fun e w' => e = .returned (.bool (digB c)) ∧ w = w' := by
  unfold digB
  by_cases h : 48 ≤ c
  · have h1 : decide (48 ≤ c) = true := decide_eq_true h
    go_enter Tryd.func25, Tryd.ntmps25
    go_wp2
    go_ret
    exact ⟨by simp [h1], rfl⟩
  · have h1 : decide (48 ≤ c) = false := decide_eq_false h
    go_enter Tryd.func25, Tryd.ntmps25
    go_wp2
    go_ret
    exact ⟨by simp [h1], rfl⟩
theorem small_any (c : Int) (w : World) :
    Calls Tryd.prog 28 #[.int .u8 c] w fun e w' => e = .returned (.bool (smaB c)) ∧ w = w' := by
  unfold smaB
  by_cases h : 97 ≤ c
  · have h1 : decide (97 ≤ c) = true := decide_eq_true h
    go_enter Tryd.func28, Tryd.ntmps28
    go_wp2
    go_ret
    exact ⟨by simp [h1], rfl⟩
  · have h1 : decide (97 ≤ c) = false := decide_eq_false h
    go_enter Tryd.func28, Tryd.ntmps28
    go_wp2
    go_ret
    exact ⟨by simp [h1], rfl⟩
theorem great_any (c : Int) (w : World) :
    Calls Tryd.prog 29 #[.int .u8 c] w fun e w' => e = .returned (.bool (greB c)) ∧ w = w' := by
  unfold greB
  by_cases h : 65 ≤ c
  · have h1 : decide (65 ≤ c) = true := decide_eq_true h
    by_cases h2 : c ≤ 90
    · have h3 : decide (c ≤ 90) = true := decide_eq_true h2
      go_enter Tryd.func29, Tryd.ntmps29
      go_wp2
      go_ret
      exact ⟨by simp [h1, h3], rfl⟩
    · have h3 : decide (c ≤ 90) = false := decide_eq_false h2
      go_enter Tryd.func29, Tryd.ntmps29
      go_wp2
      go_ret
      exact ⟨by simp [h1, h3], rfl⟩
  · have h1 : decide (65 ≤ c) = false := decide_eq_false h
    go_enter Tryd.func29, Tryd.ntmps29
    go_wp2
    go_ret
    exact ⟨by simp [h1], rfl⟩
theorem named_any (c : Int) (w : World) :
    Calls Tryd.prog 31 #[.int .u8 c] w fun e w' => e = .returned (.bool (namB c)) ∧ w = w' := by
  unfold namB
  obtain ⟨a, ha⟩ : ∃ a, a = smaB c := ⟨_, rfl⟩
  obtain ⟨b, hb⟩ : ∃ a, a = greB c := ⟨_, rfl⟩
  have S := fun w => small_any c w
  have G := fun w => great_any c w
  rw [← ha] at S ⊢
  rw [← hb] at G ⊢
  have HS := Lib.hid S
  have HG := Lib.hid G
  clear S G ha hb
  cases a
  · cases b
    · go_enter Tryd.func31, Tryd.ntmps31
      go_wp2_with (first | (go_at_call 28; refine (HS.out _).mono ?_; rintro e w' ⟨rfl, rfl⟩) | (go_at_call 29; refine (HG.out _).mono ?_; rintro e w' ⟨rfl, rfl⟩) | (go_at_call 25; refine (digit_any _ _).mono ?_; rintro e w' ⟨rfl, rfl⟩))
      go_ret
      exact ⟨by simp, rfl⟩
    · go_enter Tryd.func31, Tryd.ntmps31
      go_wp2_with (first | (go_at_call 28; refine (HS.out _).mono ?_; rintro e w' ⟨rfl, rfl⟩) | (go_at_call 29; refine (HG.out _).mono ?_; rintro e w' ⟨rfl, rfl⟩))
      go_ret
      exact ⟨by simp, rfl⟩
  · go_enter Tryd.func31, Tryd.ntmps31
    go_wp2_with (go_at_call 28; refine (HS.out _).mono ?_; rintro e w' ⟨rfl, rfl⟩)
    go_ret
    exact ⟨by simp, rfl⟩

/-! ### while -/
theorem bt_list (s : ByteArray) (i : Nat) (h : i < s.data.toList.length) : bt s (i : Int) = ((s.data.toList[i]).toNat : Int) := by
  have hs : (i : Int).toNat < s.size := by rw [Array.length_toList] at h; exact h
  rw [← bt_at s i hs]
  rfl
/-- how many bytes from place i on are so -/
def runLen (p : Int → Bool) (s : ByteArray) (i : Nat) : Nat := ((s.data.toList.drop i).takeWhile fun c => p (c.toNat : Int)).length
theorem takeWhile_at {α : Type} (p : α → Bool) : ∀ (l : List α) (d : Nat), d ≤ (l.takeWhile p).length → (d < (l.takeWhile p).length ↔ ∃ h : d < l.length, p l[d] = true)
  | [], d, h => by simp at h; subst h; simp
  | x :: l, d, h => by
    by_cases hx : p x = true
    · cases d with
      | zero => simp [List.takeWhile_cons, hx]
      | succ d =>
        simp [List.takeWhile_cons, hx] at h ⊢
        simpa using takeWhile_at p l d h
    · simp [List.takeWhile_cons, hx] at h ⊢
      subst h
      simp [hx]
theorem run_step (p : Int → Bool) (s : ByteArray) (i d : Nat) (h : d ≤ runLen p s i) (hd : i + d < s.size) : d < runLen p s i ↔ p (bt s ((i + d : Nat) : Int)) = true := by
  unfold runLen at *
  have hlen : s.data.toList.length = s.size := by rw [Array.length_toList]; rfl
  rw [takeWhile_at _ _ _ h]
  have e : (s.data.toList.drop i).length = s.size - i := by rw [List.length_drop, hlen]
  constructor
  · rintro ⟨h1, h2⟩
    rw [List.getElem_drop] at h2
    rw [bt_list s (i + d) (by omega)]
    exact h2
  · intro h2
    refine ⟨by omega, ?_⟩
    rw [List.getElem_drop]
    rw [bt_list s (i + d) (by omega)] at h2
    exact h2
theorem run_le (p : Int → Bool) (s : ByteArray) (i : Nat) (hi : i ≤ s.size) : i + runLen p s i ≤ s.size := by
  unfold runLen
  have hlen : s.data.toList.length = s.size := by rw [Array.length_toList]; rfl
  have h1 := (List.takeWhile_sublist (fun c : UInt8 => p (c.toNat : Int)) (l := s.data.toList.drop i)).length_le
  rw [List.length_drop, hlen] at h1
  omega
theorem run_end (p : Int → Bool) (s : ByteArray) (i d : Nat) (h : d ≤ runLen p s i) (hd : ¬ i + d < s.size) (hi : i ≤ s.size) : d = runLen p s i := by
  have := run_le p s i hi
  omega
def ScAt (w : World) (g : Nat) (s : ByteArray) (i : Int) : Prop := w.heap[g]? = some (.cells #[.string s, .int .i64 i] 51 (0, 0))
set_option maxHeartbeats 800000 in
set_option maxRecDepth 100000 in
theorem while_digit (g : Nat) (s : ByteArray) (i : Nat) (w : World) (hI : ScAt w g s i) (hi : i ≤ s.size) (hs : s.size ≤ 16384) :
    Calls Tryd.prog 27 #[.pointer (some ⟨g, 0, none⟩), .func (.func 25) #[] #[]] w fun e w' =>
      e = .returned (.string (s.extract i (i + runLen digB s i))) ∧ ScAt w' g s ((i + runLen digB s i : Nat) : Int) ∧ KeepBut w w' g none ∧ Below g w w' := by
  have c0 : w.cell? ⟨g, 0, none⟩ = some (.string s) := blk_cell hI 0
  have c1 : w.cell? ⟨g, 1, none⟩ = some (.int .i64 i) := blk_cell hI 1
  go_enter Tryd.func27, Tryd.ntmps27
  go_wp2_with fail
  go_loopg [] (s.size - i) (fun gk wr => ∃ d : Nat, d ≤ runLen digB s i ∧ i + d ≤ s.size ∧ gk = s.size - (i + d) ∧ Aside0 (ScAt wr g s ((i + d : Nat) : Int)) ∧ Aside0 (KeepBut w wr g none) ∧ Aside0 (Below g w wr))
  case atStart => exact ⟨0, Nat.zero_le _, hi, rfl, ⟨hI⟩, ⟨KeepBut.refl _ _ _⟩, ⟨Below.refl _ _⟩⟩
  case round =>
    clear c0 c1
    obtain ⟨d, hd, hds, rfl, HI, HK, HBL⟩ := hrel
    obtain ⟨j, hj⟩ : ∃ j : Int, j = ((i + d : Nat) : Int) := ⟨_, rfl⟩
    rw [← hj] at HI
    have c0 : wr.cell? ⟨g, 0, none⟩ = some (.string s) := blk_cell HI.out 0
    have c1 : wr.cell? ⟨g, 1, none⟩ = some (.int .i64 j) := blk_cell HI.out 1
    have f1 : wr.frozen? ⟨g, 1, none⟩ = false := blk_frozen HI.out 1
    have HJ := Lib.hid hj
    have k0 : 0 ≤ j := by omega
    have k1 : j ≤ 16384 := by omega
    have k2 : (i : Int) ≤ j := by omega
    have k3 : j ≤ (s.size : Int) := by omega
    have k4 : j.toNat = i + d := by omega
    have HK4 := Lib.hid k4
    clear k4
    have p10 := eq_true k2
    have p11 := eq_true k3
    have p12 : (0 ≤ (i : Int)) = True := eq_true (by omega)
    by_cases hlt : j < (s.size : Int)
    · have hlt1 : decide (j < (s.size : Int)) = true := decide_eq_true hlt
      have p9 := eq_true k0
      have q9 := eq_true hlt
      have hx := bt_at s j
      obtain ⟨b, hb⟩ : ∃ b, b = digB (bt s j) := ⟨_, rfl⟩
      have hq : ∀ W n, Calls Tryd.prog 25 #[.int .u8 (bt s j)] (World.drewN W n) fun e w'' => e = .returned (.bool b) ∧ ∃ m, w'' = World.drewN W m := fun W n => by
        rw [hb]
        exact (digit_any (bt s j) (W.drewN n)).mono fun e w' ⟨he, hw⟩ => ⟨he, n, hw.symm⟩
      have HQ := Lib.hid hq
      have HB := Lib.hid hb
      clear hq hb hj
      have HLT := Lib.hid hlt
      clear hlt
      cases b
      · go_wp2_with fail
        go_quiet (exact HQ.out _ _)
        go_wp2_with fail
        go_quiet (fail)
        go_wp2_with fail
        go_ret
        have hlt' : i + d < s.size := by have := HLT.out; have := HJ.out; omega
        have hne : ¬ d < runLen digB s i := fun h => by
          have h2 := (run_step digB s i d hd hlt').mp h
          rw [← HJ.out, ← HB.out] at h2
          cases h2
        have hdd : d = runLen digB s i := by omega
        rw [HK4.out, ← hdd, ← HJ.out]
        exact ⟨rfl, by exact HI.out, by exact HK.out, pw_below_drewN (pw_below_drewN HBL.out _) _⟩
      · go_wp2_with fail
        go_quiet (exact HQ.out _ _)
        go_wp2_with fail
        go_roundg (s.size - (i + (d + 1)))
        case measure => have := HLT.out; have := HJ.out; omega
        case rel =>
          have hlt' : i + d < s.size := by have := HLT.out; have := HJ.out; omega
          have hd' : d < runLen digB s i := (run_step digB s i d hd hlt').mpr (by rw [← HJ.out]; exact HB.out.symm)
          refine ⟨d + 1, by omega, by omega, rfl, ⟨?_⟩, ⟨?_⟩, ⟨?_⟩⟩
          · rw [show ((i + (d + 1) : Nat) : Int) = j + 1 by have := HJ.out; omega]
            exact blk_set (by exact HI.out) 1 _
          · exact KeepBut.set_ (by exact HK.out) 1 _
          · exact (pw_below_drewN HBL.out _).setCell (by exact Nat.le_refl _) _
    · have hlt1 : decide (j < (s.size : Int)) = false := decide_eq_false hlt
      have HLT := Lib.hid hlt
      clear hlt hj
      go_wp2_with fail
      go_quiet (fail)
      go_wp2_with fail
      go_quiet (fail)
      go_wp2_with fail
      go_ret
      have hdd : d = runLen digB s i := run_end digB s i d hd (by have := HLT.out; have := HJ.out; omega) hi
      rw [HK4.out, ← hdd, ← HJ.out]
      exact ⟨rfl, by exact HI.out, by exact HK.out, pw_below_drewN (pw_below_drewN HBL.out _) _⟩
set_option maxHeartbeats 800000 in
set_option maxRecDepth 100000 in
theorem while_named (g : Nat) (s : ByteArray) (i : Nat) (w : World) (hI : ScAt w g s i) (hi : i ≤ s.size) (hs : s.size ≤ 16384) :
    Calls Tryd.prog 27 #[.pointer (some ⟨g, 0, none⟩), .func (.func 31) #[] #[]] w fun e w' =>
      e = .returned (.string (s.extract i (i + runLen namB s i))) ∧ ScAt w' g s ((i + runLen namB s i : Nat) : Int) ∧ KeepBut w w' g none ∧ Below g w w' := by
  have c0 : w.cell? ⟨g, 0, none⟩ = some (.string s) := blk_cell hI 0
  have c1 : w.cell? ⟨g, 1, none⟩ = some (.int .i64 i) := blk_cell hI 1
  go_enter Tryd.func27, Tryd.ntmps27
  go_wp2_with fail
  go_loopg [] (s.size - i) (fun gk wr => ∃ d : Nat, d ≤ runLen namB s i ∧ i + d ≤ s.size ∧ gk = s.size - (i + d) ∧ Aside0 (ScAt wr g s ((i + d : Nat) : Int)) ∧ Aside0 (KeepBut w wr g none) ∧ Aside0 (Below g w wr))
  case atStart => exact ⟨0, Nat.zero_le _, hi, rfl, ⟨hI⟩, ⟨KeepBut.refl _ _ _⟩, ⟨Below.refl _ _⟩⟩
  case round =>
    clear c0 c1
    obtain ⟨d, hd, hds, rfl, HI, HK, HBL⟩ := hrel
    obtain ⟨j, hj⟩ : ∃ j : Int, j = ((i + d : Nat) : Int) := ⟨_, rfl⟩
    rw [← hj] at HI
    have c0 : wr.cell? ⟨g, 0, none⟩ = some (.string s) := blk_cell HI.out 0
    have c1 : wr.cell? ⟨g, 1, none⟩ = some (.int .i64 j) := blk_cell HI.out 1
    have f1 : wr.frozen? ⟨g, 1, none⟩ = false := blk_frozen HI.out 1
    have HJ := Lib.hid hj
    have k0 : 0 ≤ j := by omega
    have k1 : j ≤ 16384 := by omega
    have k2 : (i : Int) ≤ j := by omega
    have k3 : j ≤ (s.size : Int) := by omega
    have k4 : j.toNat = i + d := by omega
    have HK4 := Lib.hid k4
    clear k4
    have p10 := eq_true k2
    have p11 := eq_true k3
    have p12 : (0 ≤ (i : Int)) = True := eq_true (by omega)
    by_cases hlt : j < (s.size : Int)
    · have hlt1 : decide (j < (s.size : Int)) = true := decide_eq_true hlt
      have p9 := eq_true k0
      have q9 := eq_true hlt
      have hx := bt_at s j
      obtain ⟨b, hb⟩ : ∃ b, b = namB (bt s j) := ⟨_, rfl⟩
      have hq : ∀ W n, Calls Tryd.prog 31 #[.int .u8 (bt s j)] (World.drewN W n) fun e w'' => e = .returned (.bool b) ∧ ∃ m, w'' = World.drewN W m := fun W n => by
        rw [hb]
        exact (named_any (bt s j) (W.drewN n)).mono fun e w' ⟨he, hw⟩ => ⟨he, n, hw.symm⟩
      have HQ := Lib.hid hq
      have HB := Lib.hid hb
      clear hq hb hj
      have HLT := Lib.hid hlt
      clear hlt
      cases b
      · go_wp2_with fail
        go_quiet (exact HQ.out _ _)
        go_wp2_with fail
        go_quiet (fail)
        go_wp2_with fail
        go_ret
        have hlt' : i + d < s.size := by have := HLT.out; have := HJ.out; omega
        have hne : ¬ d < runLen namB s i := fun h => by
          have h2 := (run_step namB s i d hd hlt').mp h
          rw [← HJ.out, ← HB.out] at h2
          cases h2
        have hdd : d = runLen namB s i := by omega
        rw [HK4.out, ← hdd, ← HJ.out]
        exact ⟨rfl, by exact HI.out, by exact HK.out, pw_below_drewN (pw_below_drewN HBL.out _) _⟩
      · go_wp2_with fail
        go_quiet (exact HQ.out _ _)
        go_wp2_with fail
        go_roundg (s.size - (i + (d + 1)))
        case measure => have := HLT.out; have := HJ.out; omega
        case rel =>
          have hlt' : i + d < s.size := by have := HLT.out; have := HJ.out; omega
          have hd' : d < runLen namB s i := (run_step namB s i d hd hlt').mpr (by rw [← HJ.out]; exact HB.out.symm)
          refine ⟨d + 1, by omega, by omega, rfl, ⟨?_⟩, ⟨?_⟩, ⟨?_⟩⟩
          · rw [show ((i + (d + 1) : Nat) : Int) = j + 1 by have := HJ.out; omega]
            exact blk_set (by exact HI.out) 1 _
          · exact KeepBut.set_ (by exact HK.out) 1 _
          · exact (pw_below_drewN HBL.out _).setCell (by exact Nat.le_refl _) _
    · have hlt1 : decide (j < (s.size : Int)) = false := decide_eq_false hlt
      have HLT := Lib.hid hlt
      clear hlt hj
      go_wp2_with fail
      go_quiet (fail)
      go_wp2_with fail
      go_quiet (fail)
      go_wp2_with fail
      go_ret
      have hdd : d = runLen namB s i := run_end namB s i d hd (by have := HLT.out; have := HJ.out; omega) hi
      rw [HK4.out, ← hdd, ← HJ.out]
      exact ⟨rfl, by exact HI.out, by exact HK.out, pw_below_drewN (pw_below_drewN HBL.out _) _⟩
end Go.Proofs.YtejidddjkngoiaaDoor
