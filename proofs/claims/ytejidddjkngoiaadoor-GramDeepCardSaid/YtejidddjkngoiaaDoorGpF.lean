/- gram, the plain law: how deep GramDeep's texts may go. gram, the plain law: one more within one another. gram, the plain law: forty within one another. gram, the plain law: GramDeep. -/
import Derived.Test.YtejidddjkngoiaaDoorGpB
import Derived.Test.YtejidddjkngoiaaDoorPGramx3
namespace Go.Proofs.YtejidddjkngoiaaDoor
open Go.RowKit
set_option linter.all false

def KT (T : List GT) (i : Nat) (p : Int × ByteArray) : Prop := ∃ t, T[i]? = some t ∧ t.kd = p.1 ∧ t.s = p.2
def KS (T : List GT) (i : Nat) (ps : List (Int × ByteArray)) : Prop := ∀ j p, ps[j]? = some p → KT T (i + j) p
theorem KS.head {T : List GT} {i : Nat} {p : Int × ByteArray} {ps : List (Int × ByteArray)} (h : KS T i (p :: ps)) : KT T i p := h 0 p rfl
theorem KS.tail {T : List GT} {i : Nat} {p : Int × ByteArray} {ps : List (Int × ByteArray)} (h : KS T i (p :: ps)) : KS T (i + 1) ps := fun j q hq => by
  have := h (j + 1) q (by simpa using hq)
  rwa [show i + (j + 1) = i + 1 + j by omega] at this
theorem KS.left {T : List GT} {i : Nat} {ps qs : List (Int × ByteArray)} (h : KS T i (ps ++ qs)) : KS T i ps := fun j p hp => h j p (by rw [List.getElem?_append_left (List.getElem?_eq_some_iff.1 hp).1]; exact hp)
theorem KS.right {T : List GT} {i : Nat} {ps qs : List (Int × ByteArray)} (h : KS T i (ps ++ qs)) : KS T (i + ps.length) qs := fun j p hp => by
  have := h (ps.length + j) p (by rw [List.getElem?_append_right (by omega)]; simpa using hp)
  rwa [show i + (ps.length + j) = i + ps.length + j by omega] at this
theorem KS.of {T : List GT} {ps : List (Int × ByteArray)} (h : T.map (fun t => (t.kd, t.s)) = ps) : KS T 0 ps := fun j p hp => by
  rw [← h, List.getElem?_map] at hp
  obtain ⟨t, ht, rfl⟩ := Option.map_eq_some_iff.1 hp
  exact ⟨t, by simpa using ht, rfl, rfl⟩
theorem isAt_of {T : List GT} {i : Nat} {p : Int × ByteArray} (h : KT T i p) (s : ByteArray) : isAt T i s = ((p.1 == 5 || p.1 == 6) && (p.2.toList == s.toList)) := by
  obtain ⟨t, ht, h1, h2⟩ := h
  unfold isAt
  rw [ht, ← h1, ← h2]
def stops : List ByteArray := sProds ++ sSums ++ sComps ++ [sComma, sSemi, sOpen]
/-- What stands there ends what was read. -/
def Stop (T : List GT) (j : Nat) : Prop := ∀ s ∈ stops, isAt T j s = false
def stopB (p : Int × ByteArray) : Bool := stops.all fun s => !((p.1 == 5 || p.1 == 6) && (p.2.toList == s.toList))
theorem stop_of {T : List GT} {i : Nat} {p : Int × ByteArray} (h : KT T i p) (hp : stopB p = true) : Stop T i := fun s hs => by
  have := List.all_eq_true.1 hp s hs
  rw [isAt_of h]
  cases hb : ((p.1 == 5 || p.1 == 6) && (p.2.toList == s.toList))
  · rfl
  · rw [hb] at this
    cases this
theorem one_none {T : List GT} {j : Nat} (h : Stop T j) (l : List ByteArray) (hl : ∀ s ∈ l, s ∈ stops) : oneS T j l = none := by
  unfold oneS
  rw [List.find?_eq_none]
  intro s hs
  rw [h s (hl s hs)]
  simp
theorem Stop.prods {T : List GT} {j : Nat} (h : Stop T j) : oneS T j sProds = none := one_none h _ (fun s hs => by unfold stops; simp [hs])
theorem Stop.sums {T : List GT} {j : Nat} (h : Stop T j) : oneS T j sSums = none := one_none h _ (fun s hs => by unfold stops; simp [hs])
theorem Stop.comps {T : List GT} {j : Nat} (h : Stop T j) : oneS T j sComps = none := one_none h _ (fun s hs => by unfold stops; simp [hs])
theorem Stop.comma {T : List GT} {j : Nat} (h : Stop T j) : isAt T j sComma = false := h _ (by unfold stops; simp)
theorem Stop.semi {T : List GT} {j : Nat} (h : Stop T j) : isAt T j sSemi = false := h _ (by unfold stops; simp)
theorem Stop.open_ {T : List GT} {j : Nat} (h : Stop T j) : isAt T j sOpen = false := h _ (by unfold stops; simp)
theorem chain_stop {T : List GT} {sub : Nat → PR GTree} {signs : List ByteArray} {j : Nat} (h : oneS T j signs = none) (f : Nat) (a : GTree) : chainS T sub signs f j a = .ok a j := by
  cases f with
  | zero => rfl
  | succ f => rw [chainS, h]
theorem more_stop {T : List GT} {ex : Nat → PR GTree} {j : Nat} (h : isAt T j sComma = false) (f : Nat) (acc : List GTree) : moreS T ex f j acc = .ok acc j := by
  cases f with
  | zero => rfl
  | succ f => rw [moreS, h]; rfl
theorem cmp_ok {T : List GT} {lo : Option Lv} {i j : Nat} {t : GTree} (h : unaryS T lo i = .ok t j) (hs : Stop T j) : cmpS T lo i = .ok t j := by
  have h1 : prodS T lo i = .ok t j := by unfold prodS; rw [h]; exact chain_stop hs.prods _ _
  have h2 : sumS T lo i = .ok t j := by unfold sumS; rw [h1]; exact chain_stop hs.sums _ _
  unfold cmpS
  rw [h2]
  show (match oneS T j sComps with | none => PR.ok t j | some s => _) = PR.ok t j
  rw [hs.comps]
theorem cmp_bad {T : List GT} {lo : Option Lv} {i b : Nat} {c : Int} (h : unaryS T lo i = .bad b c) : cmpS T lo i = .bad b c := by
  have h1 : prodS T lo i = .bad b c := by unfold prodS; rw [h]; rfl
  have h2 : sumS T lo i = .bad b c := by unfold sumS; rw [h1]; rfl
  unfold cmpS
  rw [h2]
  rfl
theorem expr_ok {T : List GT} {lo : Option Lv} {i j : Nat} {t : GTree} (h : unaryS T lo i = .ok t j) (hs : Stop T j) (h1 : isAt T j sEq = false) (h2 : isAt T j sBang = false) : exprS T lo i = .ok t j := by
  unfold exprS
  rw [cmp_ok h hs]
  show (if isAt T j sEq then joinS lo 9 t j else if isAt T j sBang then joinS lo 10 t j else .ok t j) = _
  rw [h1, h2]
  rfl
theorem expr_bad {T : List GT} {lo : Option Lv} {i b : Nat} {c : Int} (h : unaryS T lo i = .bad b c) : exprS T lo i = .bad b c := by
  unfold exprS
  rw [cmp_bad h]
  rfl
theorem unary_prim {T : List GT} {lo : Option Lv} {i : Nat} (h : isAt T i sMinus = false) : unaryS T lo i = primS T lo i := by
  unfold unaryS
  rw [h]
  rfl
theorem prim_opens {T : List GT} {lo : Option Lv} {i : Nat} {p : Int × ByteArray} (h : KT T i p) (hp : p.1 = 5 ∨ p.1 = 6) : primS T lo i = opensS T lo i := by
  obtain ⟨t, ht, h1, _⟩ := h
  unfold primS
  rw [ht]
  have : t.kd = 5 ∨ t.kd = 6 := by rw [h1]; exact hp
  rcases this with e | e <;> simp [e]
theorem prim_atom_ {T : List GT} {lo : Option Lv} {i : Nat} {s : ByteArray} (h : KT T i (2, s)) (hn : isAt T (i + 1) sOpen = false) : primS T lo i = .ok (.node 2 s 0 [] []) (i + 1) := by
  obtain ⟨t, ht, h1, h2⟩ := h
  unfold primS
  rw [ht]
  simp only at h1 h2
  simp [h1, h2, hn]
theorem prim_call_ {T : List GT} {lo : Option Lv} {i : Nat} {s : ByteArray} (h : KT T i (2, s)) (hn : isAt T (i + 1) sOpen = true) : primS T lo i = withinS lo (i + 1) (rowS T 11 s sShut) := by
  obtain ⟨t, ht, h1, h2⟩ := h
  unfold primS
  rw [ht]
  simp only at h1 h2
  simp [h1, h2, hn]
theorem want_ok {T : List GT} {i : Nat} {s : ByteArray} (h : isAt T i s = true) : wantS T i s = .ok () (i + 1) := by unfold wantS; rw [h]; rfl
/-- An atom alone. -/
theorem atom_ok {T : List GT} {lo : Option Lv} {i : Nat} {s : ByteArray} (h : KT T i (2, s)) (hs : Stop T (i + 1)) : unaryS T lo i = .ok (.node 2 s 0 [] []) (i + 1) := by
  rw [unary_prim (by rw [isAt_of h]; rfl)]
  exact prim_atom_ h hs.open_
/-- Behind a whole expression. -/
def SStop (T : List GT) (j : Nat) : Prop := Stop T j ∧ isAt T j sEq = false ∧ isAt T j sBang = false
theorem SStop.of {T : List GT} {j : Nat} {p : Int × ByteArray} (h : KT T j p) (h1 : stopB p = true) (h2 : ((p.1 == 5 || p.1 == 6) && (p.2.toList == sEq.toList)) = false) (h3 : ((p.1 == 5 || p.1 == 6) && (p.2.toList == sBang.toList)) = false) : SStop T j := ⟨stop_of h h1, by rw [isAt_of h]; exact h2, by rw [isAt_of h]; exact h3⟩
theorem list_ok {T : List GT} {ex : Nat → PR GTree} {e : ByteArray} {i j : Nat} {t : GTree} (h0 : isAt T i e = false) (h : ex i = .ok t j) (hc : isAt T j sComma = false) (he : isAt T j e = true) : listS T ex e i = .ok [t] (j + 1) := by
  unfold listS
  rw [h0, h]
  simp only [PR.bind, more_stop hc, want_ok he]
  rfl
theorem list_bad {T : List GT} {ex : Nat → PR GTree} {e : ByteArray} {i b : Nat} {c : Int} (h0 : isAt T i e = false) (h : ex i = .bad b c) : listS T ex e i = .bad b c := by
  unfold listS
  rw [h0, h]
  rfl
theorem row_ok {T : List GT} {kd : Int} {s e : ByteArray} {L : Lv} {i j : Nat} {t : GTree} (h0 : isAt T i e = false) (h : L.ex i = .ok t j) (hc : isAt T j sComma = false) (he : isAt T j e = true) : rowS T kd s e L i = .ok (.node kd s 0 [] [t]) (j + 1) := by
  unfold rowS
  rw [list_ok h0 h hc he]
  rfl
theorem row_bad {T : List GT} {kd : Int} {s e : ByteArray} {L : Lv} {i b : Nat} {c : Int} (h0 : isAt T i e = false) (h : L.ex i = .bad b c) : rowS T kd s e L i = .bad b c := by
  unfold rowS
  rw [list_bad h0 h]
  rfl
theorem body_ok {T : List GT} {ex : Nat → PR GTree} {i j : Nat} {t : GTree} (h : ex i = .ok t j) (hc : isAt T j sComma = false) : bodyS T ex i = .ok (.node 16 gE 0 [] [t]) j := by
  unfold bodyS
  rw [h]
  simp only [PR.bind, more_stop hc]
theorem body_bad {T : List GT} {ex : Nat → PR GTree} {i b : Nat} {c : Int} (h : ex i = .bad b c) : bodyS T ex i = .bad b c := by
  unfold bodyS
  rw [h]
  rfl
theorem clause_ok {T : List GT} {L : Lv} {i q j : Nat} {x t : GTree} {acc : List GTree} {f : Nat} (hx : L.un i = .ok x q) (ha : isAt T q sArrow = true) (h : L.ex (q + 1) = .ok t j) (hc : isAt T j sComma = false) (hs : isAt T j sSemi = false) : clausesS T L (f + 1) i acc = .ok (acc ++ [.node 15 gE 0 [] [x, .node 16 gE 0 [] [t]]]) j := by
  rw [clausesS, hx]
  simp only [PR.bind, want_ok ha, body_ok h hc, hs]
  rfl
theorem clause_bad {T : List GT} {L : Lv} {i q b : Nat} {c : Int} {x : GTree} {acc : List GTree} {f : Nat} (hx : L.un i = .ok x q) (ha : isAt T q sArrow = true) (h : L.ex (q + 1) = .bad b c) : clausesS T L (f + 1) i acc = .bad b c := by
  rw [clausesS, hx]
  simp only [PR.bind, want_ok ha, body_bad h]
section
variable {T : List GT} {i : Nat}
theorem opens_is {lo : Option Lv} (k : Nat) :
    (k = 0 → KT T i (gk 5 [40]) → opensS T lo i = withinS lo i (parenS T)) ∧ (k = 1 → KT T i (gk 5 [123]) → opensS T lo i = withinS lo i (rowS T 5 gE sUnbrace)) ∧
    (k = 2 → KT T i (gk 5 [91]) → opensS T lo i = withinS lo i (rowS T 6 gE sUnbrack)) ∧ (k = 7 → KT T i (gk 6 [99, 97, 115, 101]) → opensS T lo i = withinS lo i (caseS T)) ∧
    (k = 8 → KT T i (gk 6 [114, 101, 99, 101, 105, 118, 101]) → opensS T lo i = withinS lo i (recvS T)) := by
  refine ⟨fun _ h => ?_, fun _ h => ?_, fun _ h => ?_, fun _ h => ?_, fun _ h => ?_⟩ <;> unfold opensS
  · rw [if_pos (show isAt T _ sOpen = _ by rw [isAt_of h]; kernel_rfl)]
  · rw [show isAt T i sOpen = false by rw [isAt_of h]; kernel_rfl, show isAt T i sBrace = true by rw [isAt_of h]; kernel_rfl]
    rfl
  · rw [show isAt T i sOpen = false by rw [isAt_of h]; kernel_rfl, show isAt T i sBrace = false by rw [isAt_of h]; kernel_rfl, show isAt T i sBrack = true by rw [isAt_of h]; kernel_rfl]
    rfl
  · rw [show isAt T i sOpen = false by rw [isAt_of h]; kernel_rfl, show isAt T i sBrace = false by rw [isAt_of h]; kernel_rfl, show isAt T i sBrack = false by rw [isAt_of h]; kernel_rfl, show isAt T i sCase = true by rw [isAt_of h]; kernel_rfl]
    rfl
  · rw [show isAt T i sOpen = false by rw [isAt_of h]; kernel_rfl, show isAt T i sBrace = false by rw [isAt_of h]; kernel_rfl, show isAt T i sBrack = false by rw [isAt_of h]; kernel_rfl, show isAt T i sCase = false by rw [isAt_of h]; kernel_rfl, show isAt T i sRecv = true by rw [isAt_of h]; kernel_rfl]
    rfl
def leadT : Nat → Nat
  | 4 => 1
  | 5 => 1
  | 6 => 1
  | _ => 0
theorem unary_not (k : Nat) (hk : k < 9) (h3 : k ≠ 3) (h : KS T i (hdT k)) : isAt T i sMinus = false := by
  rcases k9 hk with rfl | rfl | rfl | rfl | rfl | rfl | rfl | rfl | rfl <;> first | exact absurd rfl h3 | (rw [isAt_of h.head]; kernel_rfl)
/-- What stands around, from what stands within: the way down. -/
theorem down (k : Nat) (hk : k < 9) (h5 : k ≠ 5) (h6 : k ≠ 6) (h : KS T i (hdT k)) (lo : Option Lv) : ∃ f : Lv → Nat → PR GTree, unaryS T lo i = withinS lo (i + leadT k) f := by
  rcases k9 hk with rfl | rfl | rfl | rfl | rfl | rfl | rfl | rfl | rfl
  · exact ⟨_, by rw [unary_prim (unary_not 0 hk (by decide) h), prim_opens h.head (.inl rfl)]; exact (opens_is 0).1 rfl h.head⟩
  · exact ⟨_, by rw [unary_prim (unary_not 1 hk (by decide) h), prim_opens h.head (.inl rfl)]; exact (opens_is 1).2.1 rfl h.head⟩
  · exact ⟨_, by rw [unary_prim (unary_not 2 hk (by decide) h), prim_opens h.head (.inl rfl)]; exact (opens_is 2).2.2.1 rfl h.head⟩
  · exact ⟨fun L j => (L.un j).bind fun x k => .ok (.node 7 gE 0 [] [x]) k, by unfold unaryS; rw [show isAt T i sMinus = true by rw [isAt_of h.head]; kernel_rfl]; rfl⟩
  · exact ⟨_, by rw [unary_prim (unary_not 4 hk (by decide) h)]; exact prim_call_ h.head (by rw [isAt_of h.tail.head]; kernel_rfl)⟩
  · exact absurd rfl h5
  · exact absurd rfl h6
  · exact ⟨_, by rw [unary_prim (unary_not 7 hk (by decide) h), prim_opens h.head (.inr rfl)]; exact (opens_is 7).2.2.2.1 rfl h.head⟩
  · exact ⟨_, by rw [unary_prim (unary_not 8 hk (by decide) h), prim_opens h.head (.inr rfl)]; exact (opens_is 8).2.2.2.2 rfl h.head⟩
/-- Not one more. -/
theorem none_more (k : Nat) (hk : k < 9) (h : KS T i (hdT k)) : (k ≠ 5 → k ≠ 6 → unaryS T none i = .bad (i + leadT k) 161) ∧ exprS T none i = .bad (i + leadT k) 161 := by
  have hu : k ≠ 5 → k ≠ 6 → unaryS T none i = .bad (i + leadT k) 161 := fun h5 h6 => by
    obtain ⟨f, hf⟩ := down k hk h5 h6 h none
    rw [hf]
    rfl
  refine ⟨hu, ?_⟩
  by_cases h5 : k = 5
  · subst h5
    have hx := atom_ok (lo := none) h.head (stop_of h.tail.head (by kernel_rfl))
    unfold exprS
    rw [cmp_ok hx (stop_of h.tail.head (by kernel_rfl))]
    show (if isAt T (i + 1) sEq then joinS none 9 _ (i + 1) else _) = _
    rw [show isAt T (i + 1) sEq = true by rw [isAt_of h.tail.head]; kernel_rfl]
    rfl
  by_cases h6 : k = 6
  · subst h6
    have hx := atom_ok (lo := none) h.head (stop_of h.tail.head (by kernel_rfl))
    unfold exprS
    rw [cmp_ok hx (stop_of h.tail.head (by kernel_rfl))]
    show (if isAt T (i + 1) sEq then _ else if isAt T (i + 1) sBang then joinS none 10 _ (i + 1) else _) = _
    rw [show isAt T (i + 1) sEq = false by rw [isAt_of h.tail.head]; kernel_rfl, show isAt T (i + 1) sBang = true by rw [isAt_of h.tail.head]; kernel_rfl]
    rfl
  exact expr_bad (hu h5 h6)
def manyT (k : Nat) : Nat := (hdT k).length
def manyE (k : Nat) : Nat := (enT k).length
/-- No sign that ends a row stands at p. -/
def inB (p : Int × ByteArray) : Bool := [sUnbrace, sUnbrack, sShut].all fun s => !((p.1 == 5 || p.1 == 6) && (p.2.toList == s.toList))
theorem in_of {p : Int × ByteArray} {j : Nat} (h : KT T j p) (hp : inB p = true) : isAt T j sUnbrace = false ∧ isAt T j sUnbrack = false ∧ isAt T j sShut = false := by
  have key : ∀ s ∈ [sUnbrace, sUnbrack, sShut], isAt T j s = false := fun s hs => by
    have := List.all_eq_true.1 hp s hs
    rw [isAt_of h]
    cases hb : ((p.1 == 5 || p.1 == 6) && (p.2.toList == s.toList))
    · rfl
    · rw [hb] at this
      cases this
  exact ⟨key _ (by simp), key _ (by simp), key _ (by simp)⟩
abbrev lvO (T : List GT) (lo : Option Lv) : Option Lv := some ⟨exprS T lo, unaryS T lo⟩
theorem x_of (lo : Option Lv) {s : List UInt8} (h : KT T i (gk 2 s)) (hs : SStop T (i + 1)) : exprS T lo i = .ok (.node 2 (gs s) 0 [] []) (i + 1) := expr_ok (atom_ok h hs.1) hs.1 hs.2.1 hs.2.2
/-- What is bad within is bad around. -/
theorem step_bad (k : Nat) (hk : k < 9) (h : KS T i (hdT k)) (lo : Option Lv) {b : Nat} {c : Int} {p : Int × ByteArray} (hp : KT T (i + manyT k) p) (hpi : inB p = true)
    (hu : k ≠ 5 → k ≠ 6 → unaryS T lo (i + manyT k) = .bad b c) (he : exprS T lo (i + manyT k) = .bad b c) : (k ≠ 5 → k ≠ 6 → unaryS T (lvO T lo) i = .bad b c) ∧ exprS T (lvO T lo) i = .bad b c := by
  obtain ⟨n1, n2, n3⟩ := in_of hp hpi
  have hU : k ≠ 5 → k ≠ 6 → unaryS T (lvO T lo) i = .bad b c := fun h5 h6 => by
    rcases k9 hk with rfl | rfl | rfl | rfl | rfl | rfl | rfl | rfl | rfl
    · rw [unary_prim (unary_not 0 hk (by decide) h), prim_opens h.head (.inl rfl), (opens_is 0).1 rfl h.head]
      show (exprS T lo (i + 1)).bind _ = _
      rw [show exprS T lo (i + 1) = .bad b c from he]
      rfl
    · rw [unary_prim (unary_not 1 hk (by decide) h), prim_opens h.head (.inl rfl), (opens_is 1).2.1 rfl h.head]
      exact row_bad n1 he
    · rw [unary_prim (unary_not 2 hk (by decide) h), prim_opens h.head (.inl rfl), (opens_is 2).2.2.1 rfl h.head]
      exact row_bad n2 he
    · unfold unaryS
      rw [show isAt T i sMinus = true by rw [isAt_of h.head]; kernel_rfl]
      show (unaryS T lo (i + 1)).bind _ = _
      rw [show unaryS T lo (i + 1) = .bad b c from hu h5 h6]
      rfl
    · rw [unary_prim (unary_not 4 hk (by decide) h), prim_call_ h.head (by rw [isAt_of h.tail.head]; kernel_rfl)]
      exact row_bad n3 he
    · exact absurd rfl h5
    · exact absurd rfl h6
    · rw [unary_prim (unary_not 7 hk (by decide) h), prim_opens h.head (.inr rfl), (opens_is 7).2.2.2.1 rfl h.head]
      show ((exprS T lo (i + 1)).bind fun t j => (wantS T j sOf).bind fun _ k => (clausesS T ⟨exprS T lo, unaryS T lo⟩ (T.length + 1) k []).bind fun l m => _) = _
      rw [x_of lo h.tail.head (SStop.of h.tail.tail.head (by kernel_rfl) (by kernel_rfl) (by kernel_rfl))]
      show ((wantS T (i + 1 + 1) sOf).bind fun _ k => _) = _
      rw [want_ok (show isAt T (i + 1 + 1) sOf = true by rw [isAt_of h.tail.tail.head]; kernel_rfl)]
      show ((clausesS T ⟨exprS T lo, unaryS T lo⟩ (T.length + 1) (i + 1 + 1 + 1) []).bind fun l m => _) = _
      rw [clause_bad (x := .node 2 (gs [121]) 0 [] []) (q := i + 1 + 1 + 1 + 1) (atom_ok h.tail.tail.tail.head (stop_of h.tail.tail.tail.tail.head (by kernel_rfl))) (by rw [isAt_of h.tail.tail.tail.tail.head]; kernel_rfl) he]
      rfl
    · rw [unary_prim (unary_not 8 hk (by decide) h), prim_opens h.head (.inr rfl), (opens_is 8).2.2.2.2 rfl h.head]
      show ((headS T ⟨exprS T lo, unaryS T lo⟩ (i + 1)).bind fun l j => _) = _
      unfold headS
      rw [show isAt T (i + 1) sAfter = false by rw [isAt_of h.tail.head]; kernel_rfl]
      show ((clausesS T ⟨exprS T lo, unaryS T lo⟩ (T.length + 1) (i + 1) []).bind fun l j => _) = _
      rw [clause_bad (x := .node 2 (gs [121]) 0 [] []) (q := i + 1 + 1) (atom_ok h.tail.head (stop_of h.tail.tail.head (by kernel_rfl))) (by rw [isAt_of h.tail.tail.head]; kernel_rfl) he]
      rfl
  refine ⟨hU, ?_⟩
  by_cases h5 : k = 5
  · subst h5
    have hx := atom_ok (lo := lvO T lo) h.head (stop_of h.tail.head (by kernel_rfl))
    unfold exprS
    rw [cmp_ok hx (stop_of h.tail.head (by kernel_rfl))]
    show (if isAt T (i + 1) sEq then joinS (lvO T lo) 9 _ (i + 1) else _) = _
    rw [show isAt T (i + 1) sEq = true by rw [isAt_of h.tail.head]; kernel_rfl]
    show (exprS T lo (i + 1 + 1)).bind _ = _
    rw [show exprS T lo (i + 1 + 1) = .bad b c from he]
    rfl
  by_cases h6 : k = 6
  · subst h6
    have hx := atom_ok (lo := lvO T lo) h.head (stop_of h.tail.head (by kernel_rfl))
    unfold exprS
    rw [cmp_ok hx (stop_of h.tail.head (by kernel_rfl))]
    show (if isAt T (i + 1) sEq then _ else if isAt T (i + 1) sBang then joinS (lvO T lo) 10 _ (i + 1) else _) = _
    rw [show isAt T (i + 1) sEq = false by rw [isAt_of h.tail.head]; kernel_rfl, show isAt T (i + 1) sBang = true by rw [isAt_of h.tail.head]; kernel_rfl]
    show (exprS T lo (i + 1 + 1)).bind _ = _
    rw [show exprS T lo (i + 1 + 1) = .bad b c from he]
    rfl
  exact expr_bad (hU h5 h6)
theorem hd_first (k : Nat) (hk : k < 9) : ∃ p r, hdT k = p :: r ∧ inB p = true := by
  rcases k9 hk with rfl | rfl | rfl | rfl | rfl | rfl | rfl | rfl | rfl <;> exact ⟨_, _, rfl, by kernel_rfl⟩
theorem deep_bad (k : Nat) (hk : k < 9) : ∀ (L i : Nat), KS T i (repL (hdT k) (L + 1)) → (k ≠ 5 → k ≠ 6 → unaryS T (loS T L) i = .bad (i + L * manyT k + leadT k) 161) ∧ exprS T (loS T L) i = .bad (i + L * manyT k + leadT k) 161
  | 0, i, h => by
    have := none_more k hk h.left
    rwa [show i + 0 * manyT k + leadT k = i + leadT k by omega]
  | L + 1, i, h => by
    have h1 : KS T i (hdT k) := h.left
    have h2 : KS T (i + manyT k) (repL (hdT k) (L + 1)) := h.right
    obtain ⟨p, r, e, hp⟩ := hd_first k hk
    have hpt : KT T (i + manyT k) p := by
      have h3 : KS T (i + manyT k) (hdT k) := h2.left
      rw [e] at h3
      exact h3.head
    have ih := deep_bad k hk L (i + manyT k) h2
    have e2 : i + manyT k + L * manyT k + leadT k = i + (L + 1) * manyT k + leadT k := by rw [Nat.succ_mul]; omega
    rw [e2] at ih
    exact step_bad k hk h1 (loS T L) hpt hp ih.1 ih.2
end
section
variable {T : List GT} {i : Nat}
/-- What goes well within goes well around. -/
theorem step_ok (k : Nat) (hk : k < 9) (h : KS T i (hdT k)) (lo : Option Lv) {j : Nat} {t : GTree} {p : Int × ByteArray} (hp : KT T (i + manyT k) p) (hpi : inB p = true) (hE : KS T j (enT k)) (hS : SStop T (j + manyE k))
    (hu : k = 3 → unaryS T lo (i + manyT k) = .ok t j) (he : exprS T lo (i + manyT k) = .ok t j) : ∃ t', (k ≠ 5 → k ≠ 6 → unaryS T (lvO T lo) i = .ok t' (j + manyE k)) ∧ exprS T (lvO T lo) i = .ok t' (j + manyE k) := by
  obtain ⟨n1, n2, n3⟩ := in_of hp hpi
  by_cases h5 : k = 5
  · subst h5
    have hx := atom_ok (lo := lvO T lo) h.head (stop_of h.tail.head (by kernel_rfl))
    refine ⟨.node 9 gE 0 [] [.node 2 (gs [120]) 0 [] [], t], fun h => absurd rfl h, ?_⟩
    unfold exprS
    rw [cmp_ok hx (stop_of h.tail.head (by kernel_rfl))]
    show (if isAt T (i + 1) sEq then joinS (lvO T lo) 9 _ (i + 1) else _) = _
    rw [show isAt T (i + 1) sEq = true by rw [isAt_of h.tail.head]; kernel_rfl]
    show (exprS T lo (i + 1 + 1)).bind _ = _
    rw [show exprS T lo (i + 1 + 1) = .ok t j from he]
    rfl
  by_cases h6 : k = 6
  · subst h6
    have hx := atom_ok (lo := lvO T lo) h.head (stop_of h.tail.head (by kernel_rfl))
    refine ⟨.node 10 gE 0 [] [.node 2 (gs [120]) 0 [] [], t], fun _ h => absurd rfl h, ?_⟩
    unfold exprS
    rw [cmp_ok hx (stop_of h.tail.head (by kernel_rfl))]
    show (if isAt T (i + 1) sEq then _ else if isAt T (i + 1) sBang then joinS (lvO T lo) 10 _ (i + 1) else _) = _
    rw [show isAt T (i + 1) sEq = false by rw [isAt_of h.tail.head]; kernel_rfl, show isAt T (i + 1) sBang = true by rw [isAt_of h.tail.head]; kernel_rfl]
    show (exprS T lo (i + 1 + 1)).bind _ = _
    rw [show exprS T lo (i + 1 + 1) = .ok t j from he]
    rfl
  have key : ∃ t', unaryS T (lvO T lo) i = .ok t' (j + manyE k) := by
    rcases k9 hk with rfl | rfl | rfl | rfl | rfl | rfl | rfl | rfl | rfl
    · refine ⟨t, ?_⟩
      rw [unary_prim (unary_not 0 hk (by decide) h), prim_opens h.head (.inl rfl), (opens_is 0).1 rfl h.head]
      show (exprS T lo (i + 1)).bind _ = _
      rw [show exprS T lo (i + 1) = .ok t j from he]
      show (wantS T j sShut).bind _ = _
      rw [want_ok (show isAt T j sShut = true by rw [isAt_of hE.head]; kernel_rfl)]
      rfl
    · refine ⟨.node 5 gE 0 [] [t], ?_⟩
      rw [unary_prim (unary_not 1 hk (by decide) h), prim_opens h.head (.inl rfl), (opens_is 1).2.1 rfl h.head]
      exact row_ok n1 he (by rw [isAt_of hE.head]; kernel_rfl) (by rw [isAt_of hE.head]; kernel_rfl)
    · refine ⟨.node 6 gE 0 [] [t], ?_⟩
      rw [unary_prim (unary_not 2 hk (by decide) h), prim_opens h.head (.inl rfl), (opens_is 2).2.2.1 rfl h.head]
      exact row_ok n2 he (by rw [isAt_of hE.head]; kernel_rfl) (by rw [isAt_of hE.head]; kernel_rfl)
    · refine ⟨.node 7 gE 0 [] [t], ?_⟩
      unfold unaryS
      rw [show isAt T i sMinus = true by rw [isAt_of h.head]; kernel_rfl]
      show (unaryS T lo (i + 1)).bind _ = _
      rw [show unaryS T lo (i + 1) = .ok t j from hu rfl]
      rfl
    · refine ⟨.node 11 (gs [97]) 0 [] [t], ?_⟩
      rw [unary_prim (unary_not 4 hk (by decide) h), prim_call_ h.head (by rw [isAt_of h.tail.head]; kernel_rfl)]
      exact row_ok n3 he (by rw [isAt_of hE.head]; kernel_rfl) (by rw [isAt_of hE.head]; kernel_rfl)
    · exact absurd rfl h5
    · exact absurd rfl h6
    · refine ⟨.node 12 gE 0 [] [.node 2 (gs [120]) 0 [] [], .node 15 gE 0 [] [.node 2 (gs [121]) 0 [] [], .node 16 gE 0 [] [t]]], ?_⟩
      rw [unary_prim (unary_not 7 hk (by decide) h), prim_opens h.head (.inr rfl), (opens_is 7).2.2.2.1 rfl h.head]
      show ((exprS T lo (i + 1)).bind fun t j => (wantS T j sOf).bind fun _ k => (clausesS T ⟨exprS T lo, unaryS T lo⟩ (T.length + 1) k []).bind fun l m => _) = _
      rw [x_of lo h.tail.head (SStop.of h.tail.tail.head (by kernel_rfl) (by kernel_rfl) (by kernel_rfl))]
      show ((wantS T (i + 1 + 1) sOf).bind fun _ k => _) = _
      rw [want_ok (show isAt T (i + 1 + 1) sOf = true by rw [isAt_of h.tail.tail.head]; kernel_rfl)]
      show ((clausesS T ⟨exprS T lo, unaryS T lo⟩ (T.length + 1) (i + 1 + 1 + 1) []).bind fun l m => _) = _
      rw [clause_ok (x := .node 2 (gs [121]) 0 [] []) (q := i + 1 + 1 + 1 + 1) (atom_ok h.tail.tail.tail.head (stop_of h.tail.tail.tail.tail.head (by kernel_rfl))) (by rw [isAt_of h.tail.tail.tail.tail.head]; kernel_rfl) he (by rw [isAt_of hE.head]; kernel_rfl) (by rw [isAt_of hE.head]; kernel_rfl)]
      show ((wantS T j sEnd).bind _) = _
      rw [want_ok (show isAt T j sEnd = true by rw [isAt_of hE.head]; kernel_rfl)]
      rfl
    · refine ⟨.node 13 gE 0 [] [.node 15 gE 0 [] [.node 2 (gs [121]) 0 [] [], .node 16 gE 0 [] [t]]], ?_⟩
      rw [unary_prim (unary_not 8 hk (by decide) h), prim_opens h.head (.inr rfl), (opens_is 8).2.2.2.2 rfl h.head]
      show ((headS T ⟨exprS T lo, unaryS T lo⟩ (i + 1)).bind fun l j => (afterS T ⟨exprS T lo, unaryS T lo⟩ l j).bind fun l k => (wantS T k sEnd).bind fun _ z => PR.ok (GTree.node 13 gE 0 [] l) z) = _
      unfold headS
      rw [show isAt T (i + 1) sAfter = false by rw [isAt_of h.tail.head]; kernel_rfl]
      show ((clausesS T ⟨exprS T lo, unaryS T lo⟩ (T.length + 1) (i + 1) []).bind fun l j => (afterS T ⟨exprS T lo, unaryS T lo⟩ l j).bind fun l k => (wantS T k sEnd).bind fun _ z => PR.ok (GTree.node 13 gE 0 [] l) z) = _
      rw [clause_ok (x := .node 2 (gs [121]) 0 [] []) (q := i + 1 + 1) (atom_ok h.tail.head (stop_of h.tail.tail.head (by kernel_rfl))) (by rw [isAt_of h.tail.tail.head]; kernel_rfl) he (by rw [isAt_of hE.head]; kernel_rfl) (by rw [isAt_of hE.head]; kernel_rfl)]
      show ((afterS T ⟨exprS T lo, unaryS T lo⟩ _ j).bind fun l k => (wantS T k sEnd).bind fun _ z => PR.ok (GTree.node 13 gE 0 [] l) z) = _
      unfold afterS
      rw [show isAt T j sAfter = false by rw [isAt_of hE.head]; kernel_rfl]
      show ((wantS T j sEnd).bind _) = _
      rw [want_ok (show isAt T j sEnd = true by rw [isAt_of hE.head]; kernel_rfl)]
      rfl
  obtain ⟨t', ht'⟩ := key
  exact ⟨t', fun _ _ => ht', expr_ok ht' hS.1 hS.2.1 hS.2.2⟩
theorem repL_comm {α : Type} (l : List α) : ∀ n, repL l (n + 1) = repL l n ++ l
  | 0 => by simp [repL]
  | n + 1 => by
    have ih := repL_comm l n
    have e : repL l (n + 2) = l ++ repL l (n + 1) := rfl
    have e1 : repL l (n + 1) = l ++ repL l n := rfl
    rw [e]
    conv => lhs; rw [ih]
    rw [e1, ← List.append_assoc]
theorem en_stop (k : Nat) (hk : k < 9) {j : Nat} (hE : KS T j (enT k)) (hS : SStop T (j + manyE k)) : SStop T j := by
  rcases k9 hk with rfl | rfl | rfl | rfl | rfl | rfl | rfl | rfl | rfl
  all_goals first
    | exact SStop.of hE.head (by kernel_rfl) (by kernel_rfl) (by kernel_rfl)
    | exact hS
theorem deep_ok (k : Nat) (hk : k < 9) : ∀ (d L i : Nat), d ≤ L → KS T i (repL (hdT k) d ++ (gk 2 [122] :: repL (enT k) d)) → SStop T (i + d * manyT k + 1 + d * manyE k) →
    ∃ t, (k ≠ 5 → k ≠ 6 → unaryS T (loS T L) i = .ok t (i + d * manyT k + 1 + d * manyE k)) ∧ exprS T (loS T L) i = .ok t (i + d * manyT k + 1 + d * manyE k)
  | 0, L, i, _, h, hS => by
    have h0 : KT T i (gk 2 [122]) := KS.head (ps := []) (show KS T i [gk 2 [122]] from h)
    have e : i + 0 * manyT k + 1 + 0 * manyE k = i + 1 := by omega
    rw [e] at hS ⊢
    have hu := atom_ok (lo := loS T L) h0 hS.1
    exact ⟨_, fun _ _ => hu, expr_ok hu hS.1 hS.2.1 hS.2.2⟩
  | d + 1, 0, i, hd, _, _ => by omega
  | d + 1, L + 1, i, hd, h, hS => by
    have e0 : repL (hdT k) (d + 1) ++ (gk 2 [122] :: repL (enT k) (d + 1)) = hdT k ++ ((repL (hdT k) d ++ (gk 2 [122] :: repL (enT k) d)) ++ enT k) := by
      rw [repL_comm (enT k) d]
      show (hdT k ++ repL (hdT k) d) ++ _ = _
      simp [List.append_assoc]
    rw [e0] at h
    have h1 : KS T i (hdT k) := h.left
    have h2 : KS T (i + manyT k) ((repL (hdT k) d ++ (gk 2 [122] :: repL (enT k) d)) ++ enT k) := h.right
    have h3 := h2.left
    have h4 := h2.right
    have el : (repL (hdT k) d ++ (gk 2 [122] :: repL (enT k) d)).length = d * manyT k + 1 + d * manyE k := by
      rw [List.length_append, List.length_cons, repL_len, repL_len]
      show d * manyT k + (d * manyE k + 1) = _
      omega
    rw [el] at h4
    have eEnd : i + (d + 1) * manyT k + 1 + (d + 1) * manyE k = i + manyT k + (d * manyT k + 1 + d * manyE k) + manyE k := by rw [Nat.succ_mul, Nat.succ_mul]; omega
    rw [eEnd] at hS ⊢
    have hSi := en_stop k hk h4 hS
    have eI : i + manyT k + (d * manyT k + 1 + d * manyE k) = i + manyT k + d * manyT k + 1 + d * manyE k := by omega
    rw [eI] at h4 hS hSi ⊢
    obtain ⟨t, hu, he⟩ := deep_ok k hk d L (i + manyT k) (by omega) h3 hSi
    have hpt : ∃ p, KT T (i + manyT k) p ∧ inB p = true := by
      cases d with
      | zero => exact ⟨gk 2 [122], KS.head (ps := []) (show KS T (i + manyT k) [gk 2 [122]] from h3), by kernel_rfl⟩
      | succ d =>
        obtain ⟨p, r, e, hp⟩ := hd_first k hk
        have h5 : KS T (i + manyT k) (hdT k) := h3.left.left
        rw [e] at h5
        exact ⟨p, h5.head, hp⟩
    obtain ⟨p, hp, hpi⟩ := hpt
    exact step_ok k hk h1 (loS T L) hp hpi h4 hS (fun h3' => hu (by omega) (by omega)) he
end
open Go.Proofs.YtejidddjkngoiaaDoor.PGram Go.Proofs.YtejidddjkngoiaaDoorW.PrintWords
theorem repL_add {α : Type} (l : List α) (m : Nat) : ∀ n, repL l (n + m) = repL l n ++ repL l m
  | 0 => by simp [repL]
  | n + 1 => by
    rw [show n + 1 + m = (n + m) + 1 by omega, repL, repL_add l m n, ← List.append_assoc]
    rfl
theorem funs_end {T : List GT} (f j : Nat) (acc : List GTree) (h : ¬ j < T.length) : funsS T f j acc = .ok acc j := by
  cases f with
  | zero => rfl
  | succ f => rw [funsS, if_neg h]
theorem fun_head {T : List GT} (h : KS T 0 [gk 2 [102], gk 5 [40], gk 5 [41], gk 5 [45, 62]]) : ∃ s, funS T 0 = (bodyS T (exprS T (loS T 40)) 4).bind fun b r => (wantS T r sDot).bind fun _ z => .ok (.node 17 s 0 [] ([] ++ [b])) z := by
  obtain ⟨t, ht, h1, h2⟩ := h.head
  refine ⟨t.s, ?_⟩
  unfold funS
  rw [ht]
  simp only
  rw [if_pos h1, want_ok (show isAt T (0 + 1) sOpen = true by rw [isAt_of h.tail.head]; kernel_rfl)]
  show ((paramsS T (T.length + 1) 2 []).bind _) = _
  rw [show paramsS T (T.length + 1) 2 [] = .ok [] 2 by rw [paramsS, show isAt T 2 sShut = true by rw [isAt_of h.tail.tail.head]; kernel_rfl]; rfl]
  show ((wantS T 2 sShut).bind _) = _
  rw [want_ok (show isAt T 2 sShut = true by rw [isAt_of h.tail.tail.head]; kernel_rfl)]
  show ((wantS T 3 sArrow).bind _) = _
  rw [want_ok (show isAt T 3 sArrow = true by rw [isAt_of h.tail.tail.tail.head]; kernel_rfl)]
  rfl
theorem deepT_len (k n : Nat) : (deepT k n).length = 4 + n * manyT k + 1 + n * manyE k + 1 := by
  unfold deepT
  simp only [List.length_cons, List.length_append, repL_len, List.length_nil]
  show n * manyT k + (n * manyE k + 1 + 1) + 1 + 1 + 1 + 1 = _
  omega
theorem deep_parts {T : List GT} {k n : Nat} (hT : KS T 0 (deepT k n)) : KS T 0 [gk 2 [102], gk 5 [40], gk 5 [41], gk 5 [45, 62]] ∧ KS T 4 (repL (hdT k) n ++ (gk 2 [122] :: (repL (enT k) n ++ [gk 5 [46]]))) := by
  have e : deepT k n = [gk 2 [102], gk 5 [40], gk 5 [41], gk 5 [45, 62]] ++ (repL (hdT k) n ++ (gk 2 [122] :: (repL (enT k) n ++ [gk 5 [46]]))) := rfl
  rw [e] at hT
  exact ⟨hT.left, by have := hT.right; simpa using this⟩
theorem parse_deep_ok {T : List GT} {k n : Nat} (hk : k < 9) (hn : n ≤ 40) (hT : KS T 0 (deepT k n)) (hl : T.length = (deepT k n).length) : ∃ l i, parseS T = .ok (.node 18 gE 0 [] l) i := by
  obtain ⟨h1, h2⟩ := deep_parts hT
  rw [show repL (hdT k) n ++ (gk 2 [122] :: (repL (enT k) n ++ [gk 5 [46]])) = (repL (hdT k) n ++ (gk 2 [122] :: repL (enT k) n)) ++ [gk 5 [46]] by simp] at h2
  have el : (repL (hdT k) n ++ (gk 2 [122] :: repL (enT k) n)).length = n * manyT k + 1 + n * manyE k := by
    rw [List.length_append, List.length_cons, repL_len, repL_len]
    show n * manyT k + (n * manyE k + 1) = _
    omega
  have hd : KT T (4 + n * manyT k + 1 + n * manyE k) (gk 5 [46]) := by
    have := h2.right.head
    rw [el] at this
    rwa [show 4 + (n * manyT k + 1 + n * manyE k) = 4 + n * manyT k + 1 + n * manyE k by omega] at this
  have hS : SStop T (4 + n * manyT k + 1 + n * manyE k) := SStop.of hd (by kernel_rfl) (by kernel_rfl) (by kernel_rfl)
  obtain ⟨t, _, he⟩ := deep_ok k hk n 40 4 hn h2.left hS
  obtain ⟨s, hf⟩ := fun_head h1
  have hl' := hl.trans (deepT_len k n)
  have hfun : funS T 0 = .ok (.node 17 s 0 [] ([] ++ [.node 16 gE 0 [] [t]])) (4 + n * manyT k + 1 + n * manyE k + 1) := by
    rw [hf, body_ok he hS.1.comma]
    show (wantS T _ sDot).bind _ = _
    rw [want_ok (show isAt T _ sDot = true by rw [isAt_of hd]; kernel_rfl)]
    rfl
  refine ⟨[.node 17 s 0 [] ([] ++ [.node 16 gE 0 [] [t]])], 4 + n * manyT k + 1 + n * manyE k + 1, ?_⟩
  unfold parseS
  rw [funsS, if_pos (by omega), hfun]
  show (funsS T T.length (4 + n * manyT k + 1 + n * manyE k + 1) _).bind _ = _
  rw [funs_end _ _ _ (by omega)]
  rfl
theorem parse_deep_bad {T : List GT} {k n : Nat} (hk : k < 9) (hn : 40 < n) (hT : KS T 0 (deepT k n)) (hl : T.length = (deepT k n).length) : parseS T = .bad (4 + 40 * manyT k + leadT k) 161 := by
  obtain ⟨h1, h2⟩ := deep_parts hT
  have h3 := h2.left
  obtain ⟨m, rfl⟩ : ∃ m, n = 41 + m := ⟨n - 41, by omega⟩
  rw [repL_add] at h3
  have he := (deep_bad k hk 40 4 h3.left).2
  obtain ⟨s, hf⟩ := fun_head h1
  have hl' := hl.trans (deepT_len k (41 + m))
  unfold parseS
  rw [funsS, if_pos (by omega), hf, body_bad he]
  rfl
/-- What a text's parse answers, once its scan is known. -/
theorem parse_ev {s : ByteArray} {k n : Nat} (hk : k < 9) (hs : s.data.toList = deepL k n) (hz : s.size ≤ 16384) (hn : (deepT k n).length ≤ 4000) :
    ∃ r : Int × ByteArray × Int × List Int × List S28 × Int × Int, Ev (fun q => rookerylaw16_parse.f q s) r ∧ (n ≤ 40 → r.1 = 18 ∧ r.2.2.2.2.2.1 = 0 ∧ r.2.2.2.2.2.2 = 0) ∧ (40 < n → r.2.2.2.2.2.1 = ((4 + 40 * manyT k + leadT k : Nat) : Int) ∧ r.2.2.2.2.2.2 = 161) := by
  have hsc := sc_deep k n hk (s.size + 1) 0 0 (by rw [← hs]; simp) (by omega)
  rw [← hs] at hsc
  obtain ⟨q1, q2, q3⟩ := hsc
  obtain ⟨ts, hts⟩ : ∃ ts, ts = (scanL (s.size + 1) 0 0 s.data.toList).1 := ⟨_, rfl⟩
  rw [← hts] at q2 q3
  have hA : scanA s = (ts, 0, 0) := by
    unfold scanA
    rw [if_neg (by omega), q1, if_pos rfl, hts]
  have hE := scan_all s
  rw [hA] at hE
  have hmap : (ts.map g44).map (fun t => (t.kd, t.s)) = deepT k n := by
    rw [← q2, List.map_map]
    rfl
  have hK := KS.of hmap
  have hlen : (ts.map g44).length = (deepT k n).length := by rw [← hmap]; simp
  have hgp : gram_Parse.f ts = match parseS (ts.map g44) with
    | .ok (.node kd s n b l) _ => some (kd, s, n, b, s28L l, 0, 0)
    | .bad i c => some (0, ⟨#[]⟩, 0, [], [], i, c) := by
    unfold gram_Parse.f
    rw [if_pos ⟨by rw [List.length_map] at hlen; omega, by
      rw [List.all_eq_true]
      intro x hx
      rw [q3 x hx]
      rfl⟩]
    rfl
  by_cases h40 : n ≤ 40
  · obtain ⟨l, i, hp⟩ := parse_deep_ok hk h40 hK hlen
    rw [hp] at hgp
    refine ⟨(18, gE, 0, [], s28L l, 0, 0), ?_, fun _ => ⟨rfl, rfl, rfl⟩, fun h => by omega⟩
    refine (Ev.bind (g := fun _ b => if b.2.2 = 0 then (gram_Parse.f b.1).bind fun c => some (c.1, c.2.1, c.2.2.1, c.2.2.2.1, c.2.2.2.2.1, c.2.2.2.2.2.1, c.2.2.2.2.2.2) else some (0, (⟨#[]⟩ : ByteArray), 0, ([] : List Int), ([] : List S28), 0, b.2.2)) hE ?_).cast fun q => rfl
    refine (Ev.pure _).cast fun q => ?_
    simp only
    rw [if_pos trivial, hgp]
    rfl
  · have hp := parse_deep_bad hk (by omega) hK hlen
    rw [hp] at hgp
    refine ⟨(0, ⟨#[]⟩, 0, [], [], ((4 + 40 * manyT k + leadT k : Nat) : Int), 161), ?_, fun h => absurd h h40, fun _ => ⟨rfl, rfl⟩⟩
    refine (Ev.bind (g := fun _ b => if b.2.2 = 0 then (gram_Parse.f b.1).bind fun c => some (c.1, c.2.1, c.2.2.1, c.2.2.2.1, c.2.2.2.2.1, c.2.2.2.2.2.1, c.2.2.2.2.2.2) else some (0, (⟨#[]⟩ : ByteArray), 0, ([] : List Int), ([] : List S28), 0, b.2.2)) hE ?_).cast fun q => rfl
    refine (Ev.pure _).cast fun q => ?_
    simp only
    rw [if_pos trivial, hgp]
    rfl
end Go.Proofs.YtejidddjkngoiaaDoor
