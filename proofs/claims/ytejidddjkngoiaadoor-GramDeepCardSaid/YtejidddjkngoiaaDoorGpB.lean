/- gram, the plain law: which tokens some texts have. -/
import Derived.Test.YtejidddjkngoiaaDoorGpA
import Derived.Test.YtejidddjkngoiaaDoorGmS
namespace Go.Proofs.YtejidddjkngoiaaDoor
open Go.RowKit Go.Proofs.YtejidddjkngoiaaDoor.PGram Go.Proofs.YtejidddjkngoiaaDoorW.PrintWords
set_option linter.all false

/-- From a text on the scan goes well: kinds and texts of its tokens. -/
def Sc (l : List UInt8) (ps : List (Int × ByteArray)) : Prop := ∀ m c i, l.length < m → c + ps.length ≤ 4000 → (scanL m c i l).2 = (0, 0) ∧ (scanL m c i l).1.map (fun t => (t.f0, t.f1)) = ps ∧ ∀ t ∈ (scanL m c i l).1, t.f3 = []
theorem Sc.nil : Sc [] [] := fun m c i hm _ => by
  obtain ⟨m, rfl⟩ : ∃ k, m = k + 1 := ⟨m - 1, by omega⟩
  unfold scanL
  simp [gapL]
theorem Sc.sp {l : List UInt8} {ps : List (Int × ByteArray)} (h : Sc l ps) : Sc (32 :: l) ps := fun m c i hm hc => by
  obtain ⟨m, rfl⟩ : ∃ k, m = k + 1 := ⟨m - 1, by omega⟩
  have e : gapL false (32 :: l) = gapL false l + 1 := by rw [gapL]; rfl
  have h2 := h (m + 1) c (i + 1) (by simp at hm; omega) hc
  have e2 : scanL (m + 1) c i (32 :: l) = scanL (m + 1) c (i + 1) l := by
    rw [scanL, scanL]
    simp only [e, List.drop_succ_cons]
    rw [show i + (gapL false l + 1) = i + 1 + gapL false l by omega]
  rw [e2]
  exact h2
theorem Sc.tok {l : List UInt8} {ps : List (Int × ByteArray)} {kd v : Int} {s : ByteArray} {n : Nat} (hl : l ≠ []) (hg : gapL false l = 0) (ht : tokL l = (kd, s, v, [], 0, n)) (hn : 1 ≤ n ∧ n ≤ l.length) (h : Sc (l.drop n) ps) : Sc l ((kd, s) :: ps) := fun m c i hm hc => by
  obtain ⟨m, rfl⟩ : ∃ k, m = k + 1 := ⟨m - 1, by omega⟩
  have h2 := h m (c + 1) (i + n) (by rw [List.length_drop]; omega) (by simp at hc; omega)
  have e1 : tokE l = 0 := by unfold tokE; rw [ht]
  have e2 : tokN l = n := by unfold tokN; rw [ht]
  have e3 : ((tokS i l).f0, (tokS i l).f1) = (kd, s) := by unfold tokS; rw [ht]
  have e4 : (tokS i l).f3 = [] := by unfold tokS; rw [ht]
  rw [scanL]
  simp only [hg, List.drop_zero, Nat.add_zero, e1, e2]
  rw [if_neg hl, if_neg (by simp at hc; omega), if_pos trivial, if_pos (by rw [h2.1])]
  refine ⟨h2.1, by rw [List.map_cons, e3, h2.2.1], fun t ht => ?_⟩
  rcases List.mem_cons.1 ht with rfl | ht
  · exact e4
  · exact h2.2.2 t ht
abbrev gk (kd : Int) (l : List UInt8) : Int × ByteArray := (kd, gs l)
theorem sc_open (r : List UInt8) (ps : List (Int × ByteArray)) (h : Sc (r) ps) : Sc (40 :: r) (gk 5 [40] :: ps) := Sc.tok (n := 1) (by simp) (by kernel_rfl) (show tokL (40 :: r) = (5, gs [40], 0, [], 0, 1) by kernel_rfl) (by simp) h
theorem sc_shut (r : List UInt8) (ps : List (Int × ByteArray)) (h : Sc (r) ps) : Sc (41 :: r) (gk 5 [41] :: ps) := Sc.tok (n := 1) (by simp) (by kernel_rfl) (show tokL (41 :: r) = (5, gs [41], 0, [], 0, 1) by kernel_rfl) (by simp) h
theorem sc_brace (r : List UInt8) (ps : List (Int × ByteArray)) (h : Sc (r) ps) : Sc (123 :: r) (gk 5 [123] :: ps) := Sc.tok (n := 1) (by simp) (by kernel_rfl) (show tokL (123 :: r) = (5, gs [123], 0, [], 0, 1) by kernel_rfl) (by simp) h
theorem sc_unbrace (r : List UInt8) (ps : List (Int × ByteArray)) (h : Sc (r) ps) : Sc (125 :: r) (gk 5 [125] :: ps) := Sc.tok (n := 1) (by simp) (by kernel_rfl) (show tokL (125 :: r) = (5, gs [125], 0, [], 0, 1) by kernel_rfl) (by simp) h
theorem sc_brack (r : List UInt8) (ps : List (Int × ByteArray)) (h : Sc (r) ps) : Sc (91 :: r) (gk 5 [91] :: ps) := Sc.tok (n := 1) (by simp) (by kernel_rfl) (show tokL (91 :: r) = (5, gs [91], 0, [], 0, 1) by kernel_rfl) (by simp) h
theorem sc_unbrack (r : List UInt8) (ps : List (Int × ByteArray)) (h : Sc (r) ps) : Sc (93 :: r) (gk 5 [93] :: ps) := Sc.tok (n := 1) (by simp) (by kernel_rfl) (show tokL (93 :: r) = (5, gs [93], 0, [], 0, 1) by kernel_rfl) (by simp) h
theorem sc_dot (r : List UInt8) (ps : List (Int × ByteArray)) (h : Sc (r) ps) : Sc (46 :: r) (gk 5 [46] :: ps) := Sc.tok (n := 1) (by simp) (by kernel_rfl) (show tokL (46 :: r) = (5, gs [46], 0, [], 0, 1) by kernel_rfl) (by simp) h
theorem sc_bang (r : List UInt8) (ps : List (Int × ByteArray)) (h : Sc (r) ps) : Sc (33 :: r) (gk 5 [33] :: ps) := Sc.tok (n := 1) (by simp) (by kernel_rfl) (show tokL (33 :: r) = (5, gs [33], 0, [], 0, 1) by kernel_rfl) (by simp) h
theorem sc_minus (r : List UInt8) (ps : List (Int × ByteArray)) (h : Sc (32 :: r) ps) : Sc (45 :: 32 :: r) (gk 5 [45] :: ps) := Sc.tok (n := 1) (by simp) (by kernel_rfl) (show tokL (45 :: 32 :: r) = (5, gs [45], 0, [], 0, 1) by kernel_rfl) (by simp) h
theorem sc_eq (r : List UInt8) (ps : List (Int × ByteArray)) (h : Sc (32 :: r) ps) : Sc (61 :: 32 :: r) (gk 5 [61] :: ps) := Sc.tok (n := 1) (by simp) (by kernel_rfl) (show tokL (61 :: 32 :: r) = (5, gs [61], 0, [], 0, 1) by kernel_rfl) (by simp) h
theorem sc_arrow (r : List UInt8) (ps : List (Int × ByteArray)) (h : Sc (r) ps) : Sc (45 :: 62 :: r) (gk 5 [45, 62] :: ps) := Sc.tok (n := 2) (by simp) (by kernel_rfl) (show tokL (45 :: 62 :: r) = (5, gs [45, 62], 0, [], 0, 2) by kernel_rfl) (by simp) h
theorem sc_f (r : List UInt8) (ps : List (Int × ByteArray)) (h : Sc (40 :: r) ps) : Sc (102 :: 40 :: r) (gk 2 [102] :: ps) := Sc.tok (n := 1) (by simp) (by kernel_rfl) (show tokL (102 :: 40 :: r) = (2, gs [102], 0, [], 0, 1) by kernel_rfl) (by simp) h
theorem sc_a (r : List UInt8) (ps : List (Int × ByteArray)) (h : Sc (40 :: r) ps) : Sc (97 :: 40 :: r) (gk 2 [97] :: ps) := Sc.tok (n := 1) (by simp) (by kernel_rfl) (show tokL (97 :: 40 :: r) = (2, gs [97], 0, [], 0, 1) by kernel_rfl) (by simp) h
theorem sc_x (r : List UInt8) (ps : List (Int × ByteArray)) (h : Sc (32 :: r) ps) : Sc (120 :: 32 :: r) (gk 2 [120] :: ps) := Sc.tok (n := 1) (by simp) (by kernel_rfl) (show tokL (120 :: 32 :: r) = (2, gs [120], 0, [], 0, 1) by kernel_rfl) (by simp) h
theorem sc_y (r : List UInt8) (ps : List (Int × ByteArray)) (h : Sc (32 :: r) ps) : Sc (121 :: 32 :: r) (gk 2 [121] :: ps) := Sc.tok (n := 1) (by simp) (by kernel_rfl) (show tokL (121 :: 32 :: r) = (2, gs [121], 0, [], 0, 1) by kernel_rfl) (by simp) h
theorem sc_of (r : List UInt8) (ps : List (Int × ByteArray)) (h : Sc (32 :: r) ps) : Sc (111 :: 102 :: 32 :: r) (gk 6 [111, 102] :: ps) := Sc.tok (n := 2) (by simp) (by kernel_rfl) (show tokL (111 :: 102 :: 32 :: r) = (6, gs [111, 102], 0, [], 0, 2) by kernel_rfl) (by simp) h
theorem sc_case (r : List UInt8) (ps : List (Int × ByteArray)) (h : Sc (32 :: r) ps) : Sc (99 :: 97 :: 115 :: 101 :: 32 :: r) (gk 6 [99, 97, 115, 101] :: ps) := Sc.tok (n := 4) (by simp) (by kernel_rfl) (show tokL (99 :: 97 :: 115 :: 101 :: 32 :: r) = (6, gs [99, 97, 115, 101], 0, [], 0, 4) by kernel_rfl) (by simp) h
theorem sc_recv (r : List UInt8) (ps : List (Int × ByteArray)) (h : Sc (32 :: r) ps) : Sc (114 :: 101 :: 99 :: 101 :: 105 :: 118 :: 101 :: 32 :: r) (gk 6 [114, 101, 99, 101, 105, 118, 101] :: ps) := Sc.tok (n := 7) (by simp) (by kernel_rfl) (show tokL (114 :: 101 :: 99 :: 101 :: 105 :: 118 :: 101 :: 32 :: r) = (6, gs [114, 101, 99, 101, 105, 118, 101], 0, [], 0, 7) by kernel_rfl) (by simp) h
theorem sc_end1 (r : List UInt8) (ps : List (Int × ByteArray)) (h : Sc (32 :: r) ps) : Sc (101 :: 110 :: 100 :: 32 :: r) (gk 6 [101, 110, 100] :: ps) := Sc.tok (n := 3) (by simp) (by kernel_rfl) (show tokL (101 :: 110 :: 100 :: 32 :: r) = (6, gs [101, 110, 100], 0, [], 0, 3) by kernel_rfl) (by simp) h
theorem sc_end2 (r : List UInt8) (ps : List (Int × ByteArray)) (h : Sc (46 :: r) ps) : Sc (101 :: 110 :: 100 :: 46 :: r) (gk 6 [101, 110, 100] :: ps) := Sc.tok (n := 3) (by simp) (by kernel_rfl) (show tokL (101 :: 110 :: 100 :: 46 :: r) = (6, gs [101, 110, 100], 0, [], 0, 3) by kernel_rfl) (by simp) h
theorem sc_z_shut (r : List UInt8) (ps : List (Int × ByteArray)) (h : Sc (41 :: r) ps) : Sc (122 :: 41 :: r) (gk 2 [122] :: ps) := Sc.tok (n := 1) (by simp) (by kernel_rfl) (show tokL (122 :: 41 :: r) = (2, gs [122], 0, [], 0, 1) by kernel_rfl) (by simp) h
theorem sc_z_unbrace (r : List UInt8) (ps : List (Int × ByteArray)) (h : Sc (125 :: r) ps) : Sc (122 :: 125 :: r) (gk 2 [122] :: ps) := Sc.tok (n := 1) (by simp) (by kernel_rfl) (show tokL (122 :: 125 :: r) = (2, gs [122], 0, [], 0, 1) by kernel_rfl) (by simp) h
theorem sc_z_unbrack (r : List UInt8) (ps : List (Int × ByteArray)) (h : Sc (93 :: r) ps) : Sc (122 :: 93 :: r) (gk 2 [122] :: ps) := Sc.tok (n := 1) (by simp) (by kernel_rfl) (show tokL (122 :: 93 :: r) = (2, gs [122], 0, [], 0, 1) by kernel_rfl) (by simp) h
theorem sc_z_dot (r : List UInt8) (ps : List (Int × ByteArray)) (h : Sc (46 :: r) ps) : Sc (122 :: 46 :: r) (gk 2 [122] :: ps) := Sc.tok (n := 1) (by simp) (by kernel_rfl) (show tokL (122 :: 46 :: r) = (2, gs [122], 0, [], 0, 1) by kernel_rfl) (by simp) h
theorem sc_z_sp (r : List UInt8) (ps : List (Int × ByteArray)) (h : Sc (32 :: r) ps) : Sc (122 :: 32 :: r) (gk 2 [122] :: ps) := Sc.tok (n := 1) (by simp) (by kernel_rfl) (show tokL (122 :: 32 :: r) = (2, gs [122], 0, [], 0, 1) by kernel_rfl) (by simp) h
def hdL : Nat → List UInt8
  | 0 => [40]
  | 1 => [123]
  | 2 => [91]
  | 3 => [45, 32]
  | 4 => [97, 40]
  | 5 => [120, 32, 61, 32]
  | 6 => [120, 32, 33, 32]
  | 7 => [99, 97, 115, 101, 32, 120, 32, 111, 102, 32, 121, 32, 45, 62, 32]
  | _ => [114, 101, 99, 101, 105, 118, 101, 32, 121, 32, 45, 62, 32]
def enL : Nat → List UInt8
  | 0 => [41]
  | 1 => [125]
  | 2 => [93]
  | 3 => []
  | 4 => [41]
  | 5 => []
  | 6 => []
  | 7 => [32, 101, 110, 100]
  | _ => [32, 101, 110, 100]
def hdT : Nat → List (Int × ByteArray)
  | 0 => [gk 5 [40]]
  | 1 => [gk 5 [123]]
  | 2 => [gk 5 [91]]
  | 3 => [gk 5 [45]]
  | 4 => [gk 2 [97], gk 5 [40]]
  | 5 => [gk 2 [120], gk 5 [61]]
  | 6 => [gk 2 [120], gk 5 [33]]
  | 7 => [gk 6 [99, 97, 115, 101], gk 2 [120], gk 6 [111, 102], gk 2 [121], gk 5 [45, 62]]
  | _ => [gk 6 [114, 101, 99, 101, 105, 118, 101], gk 2 [121], gk 5 [45, 62]]
def enT : Nat → List (Int × ByteArray)
  | 0 => [gk 5 [41]]
  | 1 => [gk 5 [125]]
  | 2 => [gk 5 [93]]
  | 3 => []
  | 4 => [gk 5 [41]]
  | 5 => []
  | 6 => []
  | 7 => [gk 6 [101, 110, 100]]
  | _ => [gk 6 [101, 110, 100]]
def repL {α : Type} (l : List α) : Nat → List α
  | 0 => []
  | n + 1 => l ++ repL l n
theorem k9 {k : Nat} (hk : k < 9) : k = 0 ∨ k = 1 ∨ k = 2 ∨ k = 3 ∨ k = 4 ∨ k = 5 ∨ k = 6 ∨ k = 7 ∨ k = 8 := by omega
theorem sc_head (k : Nat) (hk : k < 9) (r : List UInt8) (ps : List (Int × ByteArray)) (h : Sc r ps) : Sc (hdL k ++ r) (hdT k ++ ps) := by
  rcases k9 hk with rfl | rfl | rfl | rfl | rfl | rfl | rfl | rfl | rfl
  · exact sc_open _ _ h
  · exact sc_brace _ _ h
  · exact sc_brack _ _ h
  · exact sc_minus _ _ (Sc.sp h)
  · exact sc_a _ _ (sc_open _ _ h)
  · exact sc_x _ _ (Sc.sp (sc_eq _ _ (Sc.sp h)))
  · exact sc_x _ _ (Sc.sp (sc_bang _ _ (Sc.sp h)))
  · exact sc_case _ _ (Sc.sp (sc_x _ _ (Sc.sp (sc_of _ _ (Sc.sp (sc_y _ _ (Sc.sp (sc_arrow _ _ (Sc.sp h)))))))))
  · exact sc_recv _ _ (Sc.sp (sc_y _ _ (Sc.sp (sc_arrow _ _ (Sc.sp h)))))
theorem sc_heads (k : Nat) (hk : k < 9) (r : List UInt8) (ps : List (Int × ByteArray)) (h : Sc r ps) : ∀ n, Sc (repL (hdL k) n ++ r) (repL (hdT k) n ++ ps)
  | 0 => h
  | n + 1 => by
    show Sc ((hdL k ++ repL (hdL k) n) ++ r) ((hdT k ++ repL (hdT k) n) ++ ps)
    rw [List.append_assoc, List.append_assoc]
    exact sc_head k hk _ _ (sc_heads k hk r ps h n)
theorem sc_last : Sc [46] [gk 5 [46]] := sc_dot [] [] Sc.nil
theorem sc_ends (k : Nat) (hk : k < 9) : ∀ n, Sc (repL (enL k) n ++ [46]) (repL (enT k) n ++ [gk 5 [46]])
  | 0 => sc_last
  | n + 1 => by
    have ih := sc_ends k hk n
    show Sc ((enL k ++ repL (enL k) n) ++ [46]) ((enT k ++ repL (enT k) n) ++ [gk 5 [46]])
    rw [List.append_assoc, List.append_assoc]
    rcases k9 hk with rfl | rfl | rfl | rfl | rfl | rfl | rfl | rfl | rfl
    · exact sc_shut _ _ ih
    · exact sc_unbrace _ _ ih
    · exact sc_unbrack _ _ ih
    · exact ih
    · exact sc_shut _ _ ih
    · exact ih
    · exact ih
    · cases n with
      | zero => exact Sc.sp (sc_end2 _ _ ih)
      | succ n => exact Sc.sp (sc_end1 _ _ ih)
    · cases n with
      | zero => exact Sc.sp (sc_end2 _ _ ih)
      | succ n => exact Sc.sp (sc_end1 _ _ ih)
theorem repL_nil (n : Nat) : repL ([] : List UInt8) n = [] := by
  induction n with
  | zero => rfl
  | succ n ih => exact ih
theorem sc_z (k : Nat) (hk : k < 9) (n : Nat) : Sc (122 :: (repL (enL k) n ++ [46])) (gk 2 [122] :: (repL (enT k) n ++ [gk 5 [46]])) := by
  have ih := sc_ends k hk n
  cases n with
  | zero => exact sc_z_dot _ _ ih
  | succ n =>
    rcases k9 hk with rfl | rfl | rfl | rfl | rfl | rfl | rfl | rfl | rfl
    · exact sc_z_shut _ _ ih
    · exact sc_z_unbrace _ _ ih
    · exact sc_z_unbrack _ _ ih
    · have e : repL (enL 3) (n + 1) = [] := repL_nil _
      rw [e] at ih ⊢
      exact sc_z_dot _ _ ih
    · exact sc_z_shut _ _ ih
    · have e : repL (enL 5) (n + 1) = [] := repL_nil _
      rw [e] at ih ⊢
      exact sc_z_dot _ _ ih
    · have e : repL (enL 6) (n + 1) = [] := repL_nil _
      rw [e] at ih ⊢
      exact sc_z_dot _ _ ih
    · exact sc_z_sp _ _ ih
    · exact sc_z_sp _ _ ih
def deepL (k n : Nat) : List UInt8 := 102 :: 40 :: 41 :: 32 :: 45 :: 62 :: 32 :: (repL (hdL k) n ++ (122 :: (repL (enL k) n ++ [46])))
def deepT (k n : Nat) : List (Int × ByteArray) := gk 2 [102] :: gk 5 [40] :: gk 5 [41] :: gk 5 [45, 62] :: (repL (hdT k) n ++ (gk 2 [122] :: (repL (enT k) n ++ [gk 5 [46]])))
theorem sc_deep (k n : Nat) (hk : k < 9) : Sc (deepL k n) (deepT k n) :=
  sc_f _ _ (sc_open _ _ (sc_shut _ _ (Sc.sp (sc_arrow _ _ (Sc.sp (sc_heads k hk _ _ (sc_z k hk n) n))))))
theorem repL_len {α : Type} (l : List α) : ∀ n, (repL l n).length = n * l.length
  | 0 => by simp [repL]
  | n + 1 => by rw [repL, List.length_append, repL_len l n, Nat.succ_mul]; omega
end Go.Proofs.YtejidddjkngoiaaDoor
