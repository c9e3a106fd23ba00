/- lex: what Spell answers for a text within quotes. -/
import Derived.Test.YtgkbmdlelcbmhaaDoorLx10
import Derived.Deep.QuietTactic
import Derived.BigQuiet
import Derived.Deep.RegionHeld3
namespace Go.Proofs.YtgkbmdlelcbmhaaDoor
open Go.RowKit Go.Proofs.YtgkbmdlelcbmhaaDoorW.PrintWords
set_option linter.all false

/- three of the library's names, short: a printed walk names them hundreds of times -/
theorem q_row {α : Type} (l : List α) (i : Nat) (a : α) : l.toArray.setIfInBounds i a = (l.set i a).toArray := List.setIfInBounds_toArray ..
theorem q_zero {α : Type} (a b : α) (l : List α) : (a :: l).set 0 b = b :: l := rfl
theorem q_succ {α : Type} (a b : α) (l : List α) (n : Nat) : (a :: l).set (n + 1) b = a :: l.set n b := rfl
def hexC (n : Nat) : UInt8 := [48, 49, 50, 51, 52, 53, 54, 55, 56, 57, 97, 98, 99, 100, 101, 102].getD n 0
def ofI (v : Int) : UInt8 := UInt8.ofNat v.toNat
def spC (v : Int) : List UInt8 :=
  if v = 10 then [92, 110] else if v = 9 then [92, 116] else if v = 34 ∨ v = 92 then [92, ofI v]
  else if 32 ≤ v ∧ v ≤ 126 then [ofI v] else [92, 120, hexC (v / 16).toNat, hexC (v % 16).toNat]
def spQ : List Int → List UInt8
  | [] => []
  | v :: b => spC v ++ spQ b
theorem spC_len (v : Int) : (spC v).length ≤ 4 := by
  unfold spC
  repeat' split
  all_goals simp
theorem spQ_len : ∀ l : List Int, (spQ l).length ≤ 4 * l.length
  | [] => by simp [spQ]
  | v :: b => by
    have := spC_len v
    have := spQ_len b
    simp only [spQ, List.length_append, List.length_cons]
    omega
theorem spQ_app : ∀ (a b : List Int), spQ (a ++ b) = spQ a ++ spQ b
  | [], b => rfl
  | v :: a, b => by
    show spC v ++ spQ (a ++ b) = spC v ++ spQ a ++ spQ b
    rw [spQ_app a b, List.append_assoc]
theorem cells_app (a b : List UInt8) : Lib.byteCells (a ++ b) = Lib.byteCells a ++ Lib.byteCells b := by simp [Lib.byteCells]
def hexB : ByteArray := ⟨#[48, 49, 50, 51, 52, 53, 54, 55, 56, 57, 97, 98, 99, 100, 101, 102]⟩
set_option maxRecDepth 100000 in
theorem and15 : ∀ n : Nat, n < 256 → Go.bits .and .u8 (n : Int) 15 = ((n % 16 : Nat) : Int) := by decide +kernel
theorem hex_one : ∀ n : Nat, n < 16 → (hexB.extract n (n + 1)).data.toList = [hexC n] := by decide
theorem hex_size (n : Nat) (h : n < 16) : (hexB.extract n (n + 1)).size = 1 := by
  have : (hexB.extract n (n + 1)).data.toList.length = 1 := by rw [hex_one n h]; rfl
  exact this
theorem hex_str (a b : Nat) (ha : a < 16) (hb : b < 16) : ((⟨#[92, 120]⟩ : ByteArray) ++ hexB.extract a (a + 1) ++ hexB.extract b (b + 1)).data.toList = [92, 120, hexC a, hexC b] ∧ ((⟨#[92, 120]⟩ : ByteArray) ++ hexB.extract a (a + 1) ++ hexB.extract b (b + 1)).size = 4 := by
  have h : ((⟨#[92, 120]⟩ : ByteArray) ++ hexB.extract a (a + 1) ++ hexB.extract b (b + 1)).data.toList = [92, 120, hexC a, hexC b] := by
    rw [ByteArray.data_append, ByteArray.data_append, Array.toList_append, Array.toList_append, hex_one a ha, hex_one b hb]
    rfl
  refine ⟨h, ?_⟩
  have : ((⟨#[92, 120]⟩ : ByteArray) ++ hexB.extract a (a + 1) ++ hexB.extract b (b + 1)).data.toList.length = 4 := by rw [h]; rfl
  exact this
set_option maxHeartbeats 2000000 in
set_option maxRecDepth 100000 in
theorem spell_text (s : ByteArray) (n : Int) (A : Option Addr) (c : Nat) (l : List Int) (p : Int) (w : World) (hr : Kd.C (Kd.int .u8) w A l.length l) (hc : l.length ≤ c) (hl : l.length ≤ 1000000) (hb : ∀ v ∈ l, 0 ≤ v ∧ v < 256) :
    Calls Tryd.prog 17 #[.agg #[.int .i64 4, .string s, .int .i64 n, .slice A l.length c, .int .i64 p]] w fun e w' => e = .returned (.string ⟨(34 :: (spQ l ++ [34])).toArray⟩) ∧ Below w.heap.size w w' := by
  have hbb := Lib.IsBuilderF.of (Lib.fresh_isBuilder BT BU (w.alloc (.cells #[.int .i64 4, .string s, .int .i64 n, .slice A l.length c, .int .i64 p] 33)))
  rw [show (w.alloc (.cells #[.int .i64 4, .string s, .int .i64 n, .slice A l.length c, .int .i64 p] 33)).heap.size = w.heap.size + 1 by simp] at hbb
  have W1 := writeByte_k (w.heap.size + 1) (w.heap.size + 1) [] 34 _ hbb (by decide) (by simp)
  have HW1 := Lib.hid W1
  clear W1 hbb
  go_enter Tryd.func17, Tryd.ntmps17
  go_wp2_with fail
  refine HW1.out.mono ?_
  rintro e w1 ⟨rfl, b1, bl1, _⟩
  have ht0 : w1.heap[w.heap.size]? = some (.cells #[.int .i64 4, .string s, .int .i64 n, .slice A l.length c, .int .i64 p] 33 (0, 0)) := (bl1.block _ (Nat.lt_succ_self _)).trans (by rw [Lib.alloc_old _ _ _ (by simp)]; exact heap_alloc_new w _)
  have ct3 : w1.cell? ⟨w.heap.size, 3, none⟩ = some (.slice A l.length c) := blk_cell ht0 3
  go_wp2_with fail
  obtain ⟨W, hW⟩ : ∃ W : World, W = (w.alloc (.cells #[.int .i64 4, .string s, .int .i64 n, .slice A l.length c, .int .i64 p] 33)).alloc (.cells #[.pointer none, .slice none 0 0] BT) := ⟨_, rfl⟩
  rw [← hW] at bl1
  have hsz1 : w.heap.size + 2 ≤ w1.heap.size := by have := bl1.size; rw [hW] at this; simpa using this
  have HR := Lib.hid hr
  have HB := Lib.hid hb
  have HS := Lib.hid hsz1
  have HBL := Lib.hid (show Below w.heap.size w w1 from (below_alloc (below_alloc (Below.refl _ _) _) _).trans ((by rw [← hW]; exact bl1.mono (by simp)) : Below w.heap.size _ w1))
  clear hr hb hsz1 bl1 hW ht0 ct3 HW1
  go_loopg [29] l.length (fun gk v29 wr => ∃ d : Nat, d ≤ l.length ∧ gk = l.length - d ∧ v29 = .int .i64 (d : Int) ∧ Aside0 (Lib.BuilderAtF BT BU (w.heap.size + 1) (w.heap.size + 1) (.pointer (some ⟨w.heap.size + 1, 0, none⟩)) (Lib.byteCells (34 :: spQ (l.take d))) wr) ∧ Aside0 (Below (w.heap.size + 1) w1 wr))
  case atStart => exact ⟨0, Nat.zero_le _, rfl, rfl, ⟨b1⟩, ⟨Below.refl _ _⟩⟩
  case round =>
    obtain ⟨d, hd, rfl, rfl, HA, HBW⟩ := hrel
    by_cases hlt : (d : Int) < (l.length : Int)
    · have hlt1 : decide ((d : Int) < (l.length : Int)) = true := decide_eq_true hlt
      have p0 : (0 ≤ (d : Int)) = True := eq_true (by omega)
      have p1 := eq_true hlt
      have hrw : Kd.C (Kd.int .u8) wr A l.length l := Kd.C_below HR.out (HBL.out.trans (HBW.out.mono (by omega)))
      obtain ⟨ad, cc, rfl, hcl, hk, hcell⟩ := ReadsRow.get_ hrw 0 (d : Int) (by omega) hlt
      obtain ⟨x, hx⟩ : ∃ x, x = l.getD (d : Int).toNat 0 := ⟨_, rfl⟩
      rw [← hx] at hk
      have hk : cc = [.int .u8 x] := hk
      have c0 : wr.cell? (ad.add d) = some (.int .u8 x) := by
        have := hcell 0 (.int .u8 x) (by rw [hk]; rfl)
        rw [show (Kd.int .u8).sz = 1 from rfl] at this
        simpa using this
      have hdl : d < l.length := by omega
      have hx2 : l[d]? = some x := by
        rw [hx, List.getD_eq_getElem?_getD, show (d : Int).toNat = d from rfl, List.getElem?_eq_getElem hdl]; rfl
      have htake : spQ (l.take (d + 1)) = spQ (l.take d) ++ spC x := by
        rw [List.take_succ, hx2, spQ_app]
        simp [spQ]
      have hxr : 0 ≤ x ∧ x < 256 := HB.out x (List.mem_of_getElem? hx2)
      have HT := Lib.hid htake
      have HXR := Lib.hid hxr
      have HLT := Lib.hid hlt
      clear hcell hk hcl hrw hx hx2 htake hxr hlt hdl
      have hlen : (Lib.byteCells (34 :: spQ (l.take d))).length + 4 ≤ 140737488355328 := by
        have := spQ_len (l.take d)
        rw [Lib.byteCells_length]
        simp only [List.length_cons, List.length_take] at *
        omega
      have HL := Lib.hid hlen
      clear hlen
      have HSZ := Lib.hid (show w.heap.size + 1 ≤ wr.heap.size by have := HBW.out.size; have := HS.out; omega)
      by_cases x1 : x = 10
      · subst x1
        have W2 := writeString_k (w.heap.size + 1) (w.heap.size + 1) (Lib.byteCells (34 :: spQ (l.take d))) ⟨#[92, 110]⟩ wr (.inr HA.out) (Nat.le_trans (Nat.add_le_add_left (show 2 ≤ 4 by decide) _) HL.out) HSZ.out
        have HW2 := Lib.hid W2
        clear W2
        go_wp2_with fail
        refine HW2.out.mono ?_
        rintro e w2 ⟨rfl, b2, bl2, _⟩
        have HB3 := Lib.hid (show Lib.BuilderAtF BT BU (w.heap.size + 1) (w.heap.size + 1) (.pointer (some ⟨w.heap.size + 1, 0, none⟩)) (Lib.byteCells (34 :: spQ (l.take (d + 1)))) w2 from by
          rw [HT.out, show 34 :: (spQ (l.take d) ++ _) = (34 :: spQ (l.take d)) ++ _ from rfl, cells_app]
          exact b2)
        have HBL2 := Lib.hid bl2
        clear b2 bl2 HW2
        go_wp2_with fail
        go_roundg (l.length - (d + 1))
        case measure => have := HLT.out; omega
        case rel =>
          refine ⟨d + 1, by have := HLT.out; omega, rfl, by simp, ⟨HB3.out⟩, ⟨?_⟩⟩
          have e1 := HBW.out
          exact e1.trans (HBL2.out.mono (Nat.le_refl _))
      by_cases x2 : x = 9
      · subst x2
        have W2 := writeString_k (w.heap.size + 1) (w.heap.size + 1) (Lib.byteCells (34 :: spQ (l.take d))) ⟨#[92, 116]⟩ wr (.inr HA.out) (Nat.le_trans (Nat.add_le_add_left (show 2 ≤ 4 by decide) _) HL.out) HSZ.out
        have HW2 := Lib.hid W2
        clear W2 x1
        go_wp2_with fail
        refine HW2.out.mono ?_
        rintro e w2 ⟨rfl, b2, bl2, _⟩
        have HB3 := Lib.hid (show Lib.BuilderAtF BT BU (w.heap.size + 1) (w.heap.size + 1) (.pointer (some ⟨w.heap.size + 1, 0, none⟩)) (Lib.byteCells (34 :: spQ (l.take (d + 1)))) w2 from by
          rw [HT.out, show 34 :: (spQ (l.take d) ++ _) = (34 :: spQ (l.take d)) ++ _ from rfl, cells_app]
          exact b2)
        have HBL2 := Lib.hid bl2
        clear b2 bl2 HW2
        go_wp2_with fail
        go_roundg (l.length - (d + 1))
        case measure => have := HLT.out; omega
        case rel =>
          refine ⟨d + 1, by have := HLT.out; omega, rfl, by simp, ⟨HB3.out⟩, ⟨?_⟩⟩
          have e1 := HBW.out
          exact e1.trans (HBL2.out.mono (Nat.le_refl _))
      have g1 : (x == 10) = false := by simpa using x1
      have g2 : (x == 9) = false := by simpa using x2
      by_cases x3 : x = 34
      · subst x3
        clear x1 x2 g1 g2
        have W1 := writeByte_k (w.heap.size + 1) (w.heap.size + 1) (Lib.byteCells (34 :: spQ (l.take d))) 92 wr (.inr HA.out) (Nat.le_trans (Nat.add_le_add_left (show 1 ≤ 4 by decide) _) HL.out) HSZ.out
        have HW1 := Lib.hid W1
        clear W1
        go_wp2_with fail
        refine HW1.out.mono ?_
        rintro e w1' ⟨rfl, b1', bl1', _⟩
        have W2 := writeByte_k (w.heap.size + 1) (w.heap.size + 1) _ 34 w1' (.inr b1') (by have := HL.out; rw [List.length_append]; simp only [List.length_singleton]; omega) (by have := bl1'.size; have := HSZ.out; omega)
        have HW2' := Lib.hid W2
        have HB1 := Lib.hid bl1'
        clear W2 b1' bl1' HW1
        go_wp2_with fail
        refine HW2'.out.mono ?_
        rintro e w2 ⟨rfl, b2, bl2', _⟩
        have bl2 : Below (w.heap.size + 1) wr w2 := HB1.out.trans (bl2'.mono (Nat.le_refl _))
        rw [List.append_assoc] at b2
        have HW2 := Lib.hid bl2'
        clear bl2' HW2'
        have HB3 := Lib.hid (show Lib.BuilderAtF BT BU (w.heap.size + 1) (w.heap.size + 1) (.pointer (some ⟨w.heap.size + 1, 0, none⟩)) (Lib.byteCells (34 :: spQ (l.take (d + 1)))) w2 from by
          rw [HT.out, show 34 :: (spQ (l.take d) ++ _) = (34 :: spQ (l.take d)) ++ _ from rfl, cells_app]
          exact b2)
        have HBL2 := Lib.hid bl2
        clear b2 bl2 HW2
        go_wp2_with fail
        go_roundg (l.length - (d + 1))
        case measure => have := HLT.out; omega
        case rel =>
          refine ⟨d + 1, by have := HLT.out; omega, rfl, by simp, ⟨HB3.out⟩, ⟨?_⟩⟩
          have e1 := HBW.out
          exact e1.trans (HBL2.out.mono (Nat.le_refl _))
      by_cases x4 : x = 92
      · subst x4
        clear x1 x2 x3 g1 g2
        have W1 := writeByte_k (w.heap.size + 1) (w.heap.size + 1) (Lib.byteCells (34 :: spQ (l.take d))) 92 wr (.inr HA.out) (Nat.le_trans (Nat.add_le_add_left (show 1 ≤ 4 by decide) _) HL.out) HSZ.out
        have HW1 := Lib.hid W1
        clear W1
        go_wp2_with fail
        refine HW1.out.mono ?_
        rintro e w1' ⟨rfl, b1', bl1', _⟩
        have W2 := writeByte_k (w.heap.size + 1) (w.heap.size + 1) _ 92 w1' (.inr b1') (by have := HL.out; rw [List.length_append]; simp only [List.length_singleton]; omega) (by have := bl1'.size; have := HSZ.out; omega)
        have HW2' := Lib.hid W2
        have HB1 := Lib.hid bl1'
        clear W2 b1' bl1' HW1
        go_wp2_with fail
        refine HW2'.out.mono ?_
        rintro e w2 ⟨rfl, b2, bl2', _⟩
        have bl2 : Below (w.heap.size + 1) wr w2 := HB1.out.trans (bl2'.mono (Nat.le_refl _))
        rw [List.append_assoc] at b2
        have HW2 := Lib.hid bl2'
        clear bl2' HW2'
        have HB3 := Lib.hid (show Lib.BuilderAtF BT BU (w.heap.size + 1) (w.heap.size + 1) (.pointer (some ⟨w.heap.size + 1, 0, none⟩)) (Lib.byteCells (34 :: spQ (l.take (d + 1)))) w2 from by
          rw [HT.out, show 34 :: (spQ (l.take d) ++ _) = (34 :: spQ (l.take d)) ++ _ from rfl, cells_app]
          exact b2)
        have HBL2 := Lib.hid bl2
        clear b2 bl2 HW2
        go_wp2_with fail
        go_roundg (l.length - (d + 1))
        case measure => have := HLT.out; omega
        case rel =>
          refine ⟨d + 1, by have := HLT.out; omega, rfl, by simp, ⟨HB3.out⟩, ⟨?_⟩⟩
          have e1 := HBW.out
          exact e1.trans (HBL2.out.mono (Nat.le_refl _))
      have g3 : (x == 34) = false := by simpa using x3
      have g4 : (x == 92) = false := by simpa using x4
      have HX := Lib.hid (show x ≠ 10 ∧ x ≠ 9 ∧ x ≠ 34 ∧ x ≠ 92 from ⟨x1, x2, x3, x4⟩)
      clear x1 x2 x3 x4
      by_cases x5 : 32 ≤ x ∧ x ≤ 126
      · have g5 : decide (32 ≤ x) = true := decide_eq_true x5.1
        have g6 : decide (x ≤ 126) = true := decide_eq_true x5.2
        have hsp : spC x = [ofI x] := by
          have := HX.out
          unfold spC
          rw [if_neg this.1, if_neg this.2.1, if_neg (by omega), if_pos x5]
        have W2 := writeByte_k (w.heap.size + 1) (w.heap.size + 1) (Lib.byteCells (34 :: spQ (l.take d))) x wr (.inr HA.out) (Nat.le_trans (Nat.add_le_add_left (show 1 ≤ 4 by decide) _) HL.out) HSZ.out
        have HW2 := Lib.hid W2
        have hof : Lib.byteCells [ofI x] = [.int .u8 x] := by
          have := HXR.out
          have e : ((ofI x).toNat : Int) = x := by
            unfold ofI
            simp only [UInt8.toNat_ofNat']
            omega
          simp [Lib.byteCells, e]
        have HOF := Lib.hid hof
        have HSP := Lib.hid hsp
        clear W2 x5 hof hsp
        go_wp2_with fail
        refine HW2.out.mono ?_
        rintro e w2 ⟨rfl, b2, bl2, _⟩
        rw [← HOF.out, ← HSP.out] at b2
        have HB3 := Lib.hid (show Lib.BuilderAtF BT BU (w.heap.size + 1) (w.heap.size + 1) (.pointer (some ⟨w.heap.size + 1, 0, none⟩)) (Lib.byteCells (34 :: spQ (l.take (d + 1)))) w2 from by
          rw [HT.out, show 34 :: (spQ (l.take d) ++ _) = (34 :: spQ (l.take d)) ++ _ from rfl, cells_app]
          exact b2)
        have HBL2 := Lib.hid bl2
        clear b2 bl2 HW2
        go_wp2_with fail
        go_roundg (l.length - (d + 1))
        case measure => have := HLT.out; omega
        case rel =>
          refine ⟨d + 1, by have := HLT.out; omega, rfl, by simp, ⟨HB3.out⟩, ⟨?_⟩⟩
          have e1 := HBW.out
          exact e1.trans (HBL2.out.mono (Nat.le_refl _))
      have HX5 := Lib.hid x5
      clear x5
      have HW2 := Lib.hid fun (t : ByteArray) (ht : t.size ≤ 4) => writeString_k (w.heap.size + 1) (w.heap.size + 1) (Lib.byteCells (34 :: spQ (l.take d))) t wr (.inr HA.out) (Nat.le_trans (Nat.add_le_add_left ht _) HL.out) HSZ.out
      obtain ⟨n1, e1⟩ : ∃ n : Nat, x / 16 = (n : Int) := ⟨(x / 16).toNat, by have := HXR.out; omega⟩
      have hn1 : n1 < 16 := by have := HXR.out; omega
      have e2 : IntKind.u8.wrap ((n1 : Int) + 1) = ((n1 + 1 : Nat) : Int) := by simp [IntKind.wrap, IntKind.bits, IntKind.signed]; omega
      obtain ⟨n2, h2⟩ : ∃ n : Nat, x % 16 = (n : Int) := ⟨(x % 16).toNat, by have := HXR.out; omega⟩
      have hn2 : n2 < 16 := by have := HXR.out; omega
      have e3 : Go.bits .and .u8 x 15 = (n2 : Int) := by
        have := HXR.out
        obtain ⟨m, rfl⟩ := Int.eq_ofNat_of_zero_le this.1
        rw [and15 m (by omega)]
        omega
      have e4 : IntKind.u8.wrap ((n2 : Int) + 1) = ((n2 + 1 : Nat) : Int) := by simp [IntKind.wrap, IntKind.bits, IntKind.signed]; omega
      have q1 : (0 ≤ (n1 : Int)) = True := eq_true (by omega)
      have q2 : ((n1 : Int) ≤ ((n1 + 1 : Nat) : Int)) = True := eq_true (by omega)
      have q3 : (((n1 + 1 : Nat) : Int) ≤ 16) = True := eq_true (by omega)
      have q4 : (0 ≤ ((n1 + 1 : Nat) : Int)) = True := eq_true (by omega)
      have r1 : (0 ≤ (n2 : Int)) = True := eq_true (by omega)
      have r2 : ((n2 : Int) ≤ ((n2 + 1 : Nat) : Int)) = True := eq_true (by omega)
      have r3 : (((n2 + 1 : Nat) : Int) ≤ 16) = True := eq_true (by omega)
      have r4 : (0 ≤ ((n2 + 1 : Nat) : Int)) = True := eq_true (by omega)
      have p1 : (0 : Int) ≤ (n1 : Int) := by omega
      have p2 : (n1 : Int) ≤ (n1 : Int) + 1 := by omega
      have p3 : (n1 : Int) + 1 ≤ 16 := by omega
      have p4 : (0 : Int) ≤ (n1 : Int) + 1 := by omega
      have o1 : (0 : Int) ≤ (n2 : Int) := by omega
      have o2 : (n2 : Int) ≤ (n2 : Int) + 1 := by omega
      have o3 : (n2 : Int) + 1 ≤ 16 := by omega
      have o4 : (0 : Int) ≤ (n2 : Int) + 1 := by omega
      have z1 : ((⟨#[48, 49, 50, 51, 52, 53, 54, 55, 56, 57, 97, 98, 99, 100, 101, 102]⟩ : ByteArray).extract n1 (n1 + 1)).size = 1 := hex_size n1 hn1
      have z2 : ((⟨#[48, 49, 50, 51, 52, 53, 54, 55, 56, 57, 97, 98, 99, 100, 101, 102]⟩ : ByteArray).extract n2 (n2 + 1)).size = 1 := hex_size n2 hn2
      have z3 : min (n1 + 1) 16 - n1 = 1 := by omega
      have z4 : min (n2 + 1) 16 - n2 = 1 := by omega
      have hstr := hex_str n1 n2 hn1 hn2
      have hsp : spC x = [92, 120, hexC n1, hexC n2] := by
        have := HX.out
        unfold spC
        rw [if_neg this.1, if_neg this.2.1, if_neg (by omega), if_neg HX5.out, e1, h2]
        rfl
      have hcell : Lib.strCells ((⟨#[92, 120]⟩ : ByteArray) ++ hexB.extract n1 (n1 + 1) ++ hexB.extract n2 (n2 + 1)) = Lib.byteCells (spC x) := by
        rw [hsp]
        unfold Lib.strCells Lib.byteCells
        rw [hstr.1]
      have W2 := writeString_k (w.heap.size + 1) (w.heap.size + 1) (Lib.byteCells (34 :: spQ (l.take d))) ((⟨#[92, 120]⟩ : ByteArray) ++ hexB.extract n1 (n1 + 1) ++ hexB.extract n2 (n2 + 1)) wr.drew (.inr HA.out.drew) (by rw [hstr.2]; exact HL.out) HSZ.out
      rw [hcell] at W2
      have HW2 := Lib.hid W2
      clear W2 hcell hsp hstr h2
      by_cases x6 : 32 ≤ x
      · have g5 : decide (32 ≤ x) = true := decide_eq_true x6
        have g6 : decide (x ≤ 126) = false := decide_eq_false (fun h => HX5.out ⟨x6, h⟩)
        clear x6
        go_wp2_with fail
        go_region_held3 (fun w1 => True) (trivial) (first | (go_at_call 37; refine HW2.out.mono ?_; rintro e w2 ⟨rfl, b2, bl2', _⟩))
        all_goals
          have bl2 : Below (w.heap.size + 1) wr w2 := (Below.drew (Below.refl _ wr)).trans bl2'
          clear bl2'
          have HB3 := Lib.hid (show Lib.BuilderAtF BT BU (w.heap.size + 1) (w.heap.size + 1) (.pointer (some ⟨w.heap.size + 1, 0, none⟩)) (Lib.byteCells (34 :: spQ (l.take (d + 1)))) w2 from by
            rw [HT.out, show 34 :: (spQ (l.take d) ++ _) = (34 :: spQ (l.take d)) ++ _ from rfl, cells_app]
            exact b2)
          have HBL2 := Lib.hid bl2
          clear b2 bl2 HW2
          try go_wp2_with fail
          go_roundg (l.length - (d + 1))
          case measure => have := HLT.out; omega
          case rel =>
            refine ⟨d + 1, by have := HLT.out; omega, rfl, by simp, ⟨HB3.out⟩, ⟨?_⟩⟩
            have e1 := HBW.out
            exact e1.trans (HBL2.out.mono (Nat.le_refl _))
      · have g5 : decide (32 ≤ x) = false := decide_eq_false x6
        clear x6
        go_wp2_with fail
        go_region_held3 (fun w1 => True) (trivial) (first | (go_at_call 37; refine HW2.out.mono ?_; rintro e w2 ⟨rfl, b2, bl2', _⟩))
        all_goals
          have bl2 : Below (w.heap.size + 1) wr w2 := (Below.drew (Below.refl _ wr)).trans bl2'
          clear bl2'
          have HB3 := Lib.hid (show Lib.BuilderAtF BT BU (w.heap.size + 1) (w.heap.size + 1) (.pointer (some ⟨w.heap.size + 1, 0, none⟩)) (Lib.byteCells (34 :: spQ (l.take (d + 1)))) w2 from by
            rw [HT.out, show 34 :: (spQ (l.take d) ++ _) = (34 :: spQ (l.take d)) ++ _ from rfl, cells_app]
            exact b2)
          have HBL2 := Lib.hid bl2
          clear b2 bl2 HW2
          try go_wp2_with fail
          go_roundg (l.length - (d + 1))
          case measure => have := HLT.out; omega
          case rel =>
            refine ⟨d + 1, by have := HLT.out; omega, rfl, by simp, ⟨HB3.out⟩, ⟨?_⟩⟩
            have e1 := HBW.out
            exact e1.trans (HBL2.out.mono (Nat.le_refl _))
    · have hlt1 : decide ((d : Int) < (l.length : Int)) = false := decide_eq_false hlt
      have hdd : d = l.length := by omega
      subst hdd
      have hlen : (Lib.byteCells (34 :: spQ (l.take l.length))).length + 1 ≤ 140737488355328 := by
        have := spQ_len l
        rw [Lib.byteCells_length, List.take_length]
        simp only [List.length_cons]
        omega
      have W2 := writeByte_k (w.heap.size + 1) (w.heap.size + 1) (Lib.byteCells (34 :: spQ (l.take l.length))) 34 wr (.inr HA.out) hlen (by have := HBW.out.size; have := HS.out; omega)
      have HW2 := Lib.hid W2
      clear W2 hlt b1 hlen
      go_wp2_with fail
      refine HW2.out.mono ?_
      rintro e w2 ⟨rfl, b2, bl2, _⟩
      have hcells : Lib.byteCells (34 :: spQ (l.take l.length)) ++ [.int .u8 34] = Lib.byteCells (34 :: (spQ l ++ [34])) := by
        rw [List.take_length, show 34 :: (spQ l ++ [34]) = (34 :: spQ l) ++ [34] from rfl, cells_app]
        rfl
      rw [hcells] at b2
      have W3 := bstring_k (w.heap.size + 1) (w.heap.size + 1) (34 :: (spQ l ++ [34])) w2 (.inr b2) (by simp)
      have HW3 := Lib.hid W3
      have HB2 := Lib.hid bl2
      clear W3 b2 bl2 hcells HW2
      go_wp2_with fail
      refine HW3.out.mono ?_
      rintro e w3 ⟨rfl, _, bl3⟩
      go_wp2_with fail
      go_ret
      refine ⟨rfl, ?_⟩
      have e1 := HBL.out
      have e2 := HBW.out
      have e3 := HB2.out
      exact e1.trans ((e2.trans (e3.trans bl3)).mono (by omega))
end Go.Proofs.YtgkbmdlelcbmhaaDoor
