/- gram: which tree any tokens are (plain law: no program in sight). -/
import Derived.Lib.Hide
namespace Go.Proofs.YtejidddjkngoiaaDoor
set_option linter.all false

structure GT where
  kd : Int
  s : ByteArray
  n : Int
  b : List Int
  pl : Int
inductive GTree where
  | node (kd : Int) (s : ByteArray) (n : Int) (b : List Int) (l : List GTree)
/-- What a part of the parser comes to: a value and where it stands; or where it is bad, and how. -/
inductive PR (α : Type) where
  | ok (x : α) (i : Nat)
  | bad (i : Nat) (code : Int)
def PR.bind {α β : Type} (r : PR α) (f : α → Nat → PR β) : PR β := match r with
  | .ok x i => f x i
  | .bad i c => .bad i c
structure Lv where
  ex : Nat → PR GTree
  un : Nat → PR GTree
abbrev gs (l : List UInt8) : ByteArray := ⟨l.toArray⟩
abbrev gE : ByteArray := gs []
def kindAt (T : List GT) (i : Nat) : Int := match T[i]? with
  | none => 0
  | some t => t.kd
def isAt (T : List GT) (i : Nat) (s : ByteArray) : Bool := match T[i]? with
  | none => false
  | some t => (t.kd == 5 || t.kd == 6) && (t.s.toList == s.toList)
def wantS (T : List GT) (i : Nat) (s : ByteArray) : PR Unit := if isAt T i s then .ok () (i + 1) else .bad i 160
def sComma := gs [44]
def sSemi := gs [59]
def sDot := gs [46]
def sOpen := gs [40]
def sShut := gs [41]
def sBrace := gs [123]
def sUnbrace := gs [125]
def sBrack := gs [91]
def sUnbrack := gs [93]
def sArrow := gs [45, 62]
def sEq := gs [61]
def sBang := gs [33]
def sMinus := gs [45]
def sCase := gs [99, 97, 115, 101]
def sOf := gs [111, 102]
def sEnd := gs [101, 110, 100]
def sRecv := gs [114, 101, 99, 101, 105, 118, 101]
def sAfter := gs [97, 102, 116, 101, 114]
def sComps : List ByteArray := [gs [61, 61], gs [47, 61], gs [60], gs [62], gs [61, 60], gs [62, 61]]
def sSums : List ByteArray := [gs [43], gs [45]]
def sProds : List ByteArray := [gs [42], gs [47], gs [114, 101, 109]]
def moreS (T : List GT) (ex : Nat → PR GTree) : Nat → Nat → List GTree → PR (List GTree)
  | 0, i, acc => .ok acc i
  | f + 1, i, acc => if isAt T i sComma then (ex (i + 1)).bind fun t j => moreS T ex f j (acc ++ [t]) else .ok acc i
def bodyS (T : List GT) (ex : Nat → PR GTree) (i : Nat) : PR GTree := (ex i).bind fun t j => (moreS T ex (T.length + 1) j [t]).bind fun l k => .ok (.node 16 gE 0 [] l) k
def listS (T : List GT) (ex : Nat → PR GTree) (e : ByteArray) (i : Nat) : PR (List GTree) := if isAt T i e then .ok [] (i + 1) else (ex i).bind fun t j => (moreS T ex (T.length + 1) j [t]).bind fun l k => (wantS T k e).bind fun _ m => .ok l m
def clausesS (T : List GT) (L : Lv) : Nat → Nat → List GTree → PR (List GTree)
  | 0, i, acc => .ok acc i
  | f + 1, i, acc => (L.un i).bind fun x j => (wantS T j sArrow).bind fun _ k => (bodyS T L.ex k).bind fun b m => if isAt T m sSemi then clausesS T L f (m + 1) (acc ++ [.node 15 gE 0 [] [x, b]]) else .ok (acc ++ [.node 15 gE 0 [] [x, b]]) m
def caseS (T : List GT) (L : Lv) (i : Nat) : PR GTree := (L.ex i).bind fun t j => (wantS T j sOf).bind fun _ k => (clausesS T L (T.length + 1) k []).bind fun l m => (wantS T m sEnd).bind fun _ q => .ok (.node 12 gE 0 [] (t :: l)) q
def headS (T : List GT) (L : Lv) (i : Nat) : PR (List GTree) := if isAt T i sAfter then .ok [] i else clausesS T L (T.length + 1) i []
def afterS (T : List GT) (L : Lv) (l : List GTree) (i : Nat) : PR (List GTree) := if isAt T i sAfter then (L.ex (i + 1)).bind fun x k => (wantS T k sArrow).bind fun _ m => (bodyS T L.ex m).bind fun b q => .ok (l ++ [.node 14 gE 0 [] [x, b]]) q else .ok l i
def recvS (T : List GT) (L : Lv) (i : Nat) : PR GTree := (headS T L i).bind fun l j => (afterS T L l j).bind fun l k => (wantS T k sEnd).bind fun _ z => .ok (.node 13 gE 0 [] l) z
def withinS (lo : Option Lv) (i : Nat) (f : Lv → Nat → PR GTree) : PR GTree := match lo with
  | none => .bad i 161
  | some L => f L (i + 1)
def parenS (T : List GT) (L : Lv) (i : Nat) : PR GTree := (L.ex i).bind fun x j => (wantS T j sShut).bind fun _ k => .ok x k
def rowS (T : List GT) (kd : Int) (s e : ByteArray) (L : Lv) (i : Nat) : PR GTree := (listS T L.ex e i).bind fun l k => .ok (.node kd s 0 [] l) k
def opensS (T : List GT) (lo : Option Lv) (i : Nat) : PR GTree :=
  if isAt T i sOpen then withinS lo i (parenS T)
  else if isAt T i sBrace then withinS lo i (rowS T 5 gE sUnbrace)
  else if isAt T i sBrack then withinS lo i (rowS T 6 gE sUnbrack)
  else if isAt T i sCase then withinS lo i (caseS T)
  else if isAt T i sRecv then withinS lo i (recvS T)
  else .bad i 160
def primS (T : List GT) (lo : Option Lv) (i : Nat) : PR GTree := match T[i]? with
  | none => .bad i 160
  | some t =>
    if t.kd = 1 then .ok (.node 1 gE t.n [] []) (i + 1)
    else if t.kd = 3 then .ok (.node 3 t.s 0 [] []) (i + 1)
    else if t.kd = 4 then .ok (.node 4 gE 0 t.b []) (i + 1)
    else if t.kd = 2 then (if isAt T (i + 1) sOpen then withinS lo (i + 1) (rowS T 11 t.s sShut) else .ok (.node 2 t.s 0 [] []) (i + 1))
    else opensS T lo i
def unaryS (T : List GT) (lo : Option Lv) (i : Nat) : PR GTree := if isAt T i sMinus then withinS lo i (fun L j => (L.un j).bind fun x k => .ok (.node 7 gE 0 [] [x]) k) else primS T lo i
def oneS (T : List GT) (i : Nat) (l : List ByteArray) : Option ByteArray := l.find? fun s => isAt T i s
def chainS (T : List GT) (sub : Nat → PR GTree) (signs : List ByteArray) : Nat → Nat → GTree → PR GTree
  | 0, i, a => .ok a i
  | f + 1, i, a => match oneS T i signs with
    | none => .ok a i
    | some s => (sub (i + 1)).bind fun b j => chainS T sub signs f j (.node 8 s 0 [] [a, b])
def prodS (T : List GT) (lo : Option Lv) (i : Nat) : PR GTree := (unaryS T lo i).bind fun a j => chainS T (unaryS T lo) sProds (T.length + 1) j a
def sumS (T : List GT) (lo : Option Lv) (i : Nat) : PR GTree := (prodS T lo i).bind fun a j => chainS T (prodS T lo) sSums (T.length + 1) j a
def cmpS (T : List GT) (lo : Option Lv) (i : Nat) : PR GTree := (sumS T lo i).bind fun a j => match oneS T j sComps with
  | none => .ok a j
  | some s => (sumS T lo (j + 1)).bind fun b k => .ok (.node 8 s 0 [] [a, b]) k
def joinS (lo : Option Lv) (kd : Int) (a : GTree) (j : Nat) : PR GTree := withinS lo j fun L k => (L.ex k).bind fun b m => .ok (.node kd gE 0 [] [a, b]) m
def exprS (T : List GT) (lo : Option Lv) (i : Nat) : PR GTree := (cmpS T lo i).bind fun a j => if isAt T j sEq then joinS lo 9 a j else if isAt T j sBang then joinS lo 10 a j else .ok a j
/-- How many more may be within one another. -/
def loS (T : List GT) : Nat → Option Lv
  | 0 => none
  | n + 1 => some ⟨exprS T (loS T n), unaryS T (loS T n)⟩
def paramsS (T : List GT) : Nat → Nat → List GTree → PR (List GTree)
  | 0, i, acc => .ok acc i
  | f + 1, i, acc => if isAt T i sShut then .ok acc i else (if acc.isEmpty then .ok () i else wantS T i sComma).bind fun _ j => match T[j]? with
    | none => .bad j 160
    | some t => if t.kd = 3 then paramsS T f (j + 1) (acc ++ [.node 3 t.s 0 [] []]) else .bad j 160
def funS (T : List GT) (i : Nat) : PR GTree := match T[i]? with
  | none => .bad i 160
  | some t => if t.kd = 2 then (wantS T (i + 1) sOpen).bind fun _ j => (paramsS T (T.length + 1) j []).bind fun l k => (wantS T k sShut).bind fun _ m => (wantS T m sArrow).bind fun _ q => (bodyS T (exprS T (loS T 40)) q).bind fun b r => (wantS T r sDot).bind fun _ z => .ok (.node 17 t.s 0 [] (l ++ [b])) z else .bad i 160
def funsS (T : List GT) : Nat → Nat → List GTree → PR (List GTree)
  | 0, i, acc => .ok acc i
  | f + 1, i, acc => if i < T.length then (funS T i).bind fun t j => funsS T f j (acc ++ [t]) else .ok acc i
def parseS (T : List GT) : PR GTree := (funsS T (T.length + 1) 0 []).bind fun l i => .ok (.node 18 gE 0 [] l) i
/-! ### Where it stands: it goes on, and never past the end. -/
def On (T : List GT) (i : Nat) {α : Type} (r : PR α) : Prop := ∀ x j, r = .ok x j → i < j ∧ j ≤ T.length
def OnW (T : List GT) (i : Nat) {α : Type} (r : PR α) : Prop := ∀ x j, r = .ok x j → i ≤ j ∧ (j ≤ T.length ∨ j = i)
theorem On.bad {T : List GT} {i : Nat} {α : Type} {k : Nat} {c : Int} : On T i (PR.bad k c : PR α) := fun _ _ h => by cases h
theorem OnW.bad {T : List GT} {i : Nat} {α : Type} {k : Nat} {c : Int} : OnW T i (PR.bad k c : PR α) := fun _ _ h => by cases h
theorem On.ok {T : List GT} {i j : Nat} {α : Type} {x : α} (h : i < j ∧ j ≤ T.length) : On T i (PR.ok x j) := fun _ _ e => by cases e; exact h
theorem OnW.ok {T : List GT} {i j : Nat} {α : Type} {x : α} (h : i ≤ j ∧ (j ≤ T.length ∨ j = i)) : OnW T i (PR.ok x j) := fun _ _ e => by cases e; exact h
theorem On.bind {T : List GT} {i : Nat} {α β : Type} {r : PR α} {f : α → Nat → PR β} (h : On T i r) (hf : ∀ x j, i < j → j ≤ T.length → OnW T j (f x j)) : On T i (r.bind f) := by
  cases r with
  | bad k c => exact On.bad
  | ok x j =>
    obtain ⟨h1, h2⟩ := h x j rfl
    intro y k hk
    have := hf x j h1 h2 y k hk
    omega
theorem OnW.bind {T : List GT} {i : Nat} {α β : Type} {r : PR α} {f : α → Nat → PR β} (h : OnW T i r) (hf : ∀ x j, i ≤ j → OnW T j (f x j)) : OnW T i (r.bind f) := by
  cases r with
  | bad k c => exact OnW.bad
  | ok x j =>
    obtain ⟨h1, h2⟩ := h x j rfl
    intro y k hk
    have := hf x j h1 y k hk
    omega
theorem On.w {T : List GT} {i : Nat} {α : Type} {r : PR α} (h : On T i r) : OnW T i r := fun x j e => by have := h x j e; omega
theorem isAt_lt {T : List GT} {i : Nat} {s : ByteArray} (h : isAt T i s = true) : i < T.length := by
  unfold isAt at h
  cases ht : T[i]? with
  | none => rw [ht] at h; cases h
  | some t => exact (List.getElem?_eq_some_iff.1 ht).1
theorem wantS_on (T : List GT) (i : Nat) (s : ByteArray) : On T i (wantS T i s) := by
  unfold wantS
  split
  · rename_i h
    exact On.ok ⟨Nat.lt_succ_self _, isAt_lt h⟩
  · exact On.bad
def OnF (T : List GT) (f : Nat → PR GTree) : Prop := ∀ i, On T i (f i)
theorem moreS_on {T : List GT} {ex : Nat → PR GTree} (h : OnF T ex) : ∀ f i acc, OnW T i (moreS T ex f i acc)
  | 0, i, acc => OnW.ok ⟨Nat.le_refl _, .inr rfl⟩
  | f + 1, i, acc => by
    unfold moreS
    split
    · intro y k hk
      have := (On.bind (h (i + 1)) (fun t j _ _ => moreS_on h f j (acc ++ [t]))) y k hk
      omega
    · exact OnW.ok ⟨Nat.le_refl _, .inr rfl⟩
theorem bodyS_on {T : List GT} {ex : Nat → PR GTree} (h : OnF T ex) : OnF T (bodyS T ex) := fun i =>
  On.bind (h i) fun t j _ _ => OnW.bind (moreS_on h _ j _) fun l k _ => OnW.ok ⟨Nat.le_refl _, .inr rfl⟩
theorem listS_on {T : List GT} {ex : Nat → PR GTree} (h : OnF T ex) (e : ByteArray) (i : Nat) : On T i (listS T ex e i) := by
  unfold listS
  split
  · rename_i h'
    exact On.ok ⟨Nat.lt_succ_self _, isAt_lt h'⟩
  · exact On.bind (h i) fun t j _ _ => OnW.bind (moreS_on h _ j _) fun l k _ => OnW.bind (wantS_on T k e).w fun _ m _ => OnW.ok ⟨Nat.le_refl _, .inr rfl⟩
def OnL (T : List GT) (L : Lv) : Prop := OnF T L.ex ∧ OnF T L.un
theorem clausesS_on {T : List GT} {L : Lv} (h : OnL T L) : ∀ f i acc, OnW T i (clausesS T L f i acc)
  | 0, i, acc => OnW.ok ⟨Nat.le_refl _, .inr rfl⟩
  | f + 1, i, acc => by
    unfold clausesS
    refine (On.bind (h.2 i) fun x j _ _ => OnW.bind (wantS_on T j sArrow).w fun _ k _ => OnW.bind ((bodyS_on h.1) k).w fun b m _ => ?_).w
    split
    · rename_i h'
      intro y q hq
      have h1 := clausesS_on h f (m + 1) _ y q hq
      have h2 := isAt_lt h'
      omega
    · exact OnW.ok ⟨Nat.le_refl _, .inr rfl⟩
theorem caseS_on {T : List GT} {L : Lv} (h : OnL T L) : OnF T (caseS T L) := fun i =>
  On.bind (h.1 i) fun t j _ _ => OnW.bind (wantS_on T j sOf).w fun _ k _ => OnW.bind (clausesS_on h _ k _) fun l m _ => OnW.bind (wantS_on T m sEnd).w fun _ q _ => OnW.ok ⟨Nat.le_refl _, .inr rfl⟩
theorem headS_on {T : List GT} {L : Lv} (h : OnL T L) (i : Nat) : OnW T i (headS T L i) := by
  unfold headS
  split
  · exact OnW.ok ⟨Nat.le_refl _, .inr rfl⟩
  · exact clausesS_on h _ _ _
theorem afterS_on {T : List GT} {L : Lv} (h : OnL T L) (l : List GTree) (i : Nat) : OnW T i (afterS T L l i) := by
  unfold afterS
  split
  · intro y q hq
    have := (On.bind (h.1 (i + 1)) fun x k _ _ => OnW.bind (wantS_on T k sArrow).w fun _ m _ => OnW.bind ((bodyS_on h.1) m).w fun b q _ => OnW.ok ⟨Nat.le_refl _, .inr rfl⟩) y q hq
    omega
  · exact OnW.ok ⟨Nat.le_refl _, .inr rfl⟩
theorem bind_end {T : List GT} {i : Nat} {α β : Type} {r : PR α} {f : α → Nat → PR β} (h : OnW T i r) (hf : ∀ x j, i ≤ j → On T j (f x j)) : On T i (r.bind f) := by
  cases r with
  | bad k c => exact On.bad
  | ok x j =>
    obtain ⟨h1, h2⟩ := h x j rfl
    intro y k hk
    have := hf x j h1 y k hk
    omega
theorem recvS_on {T : List GT} {L : Lv} (h : OnL T L) : OnF T (recvS T L) := fun i =>
  bind_end (headS_on h i) fun l j _ => bind_end (afterS_on h l j) fun l k _ => On.bind (wantS_on T k sEnd) fun _ z _ _ => OnW.ok ⟨Nat.le_refl _, .inr rfl⟩
theorem parenS_on {T : List GT} {L : Lv} (h : OnL T L) : OnF T (parenS T L) := fun i =>
  On.bind (h.1 i) fun x j _ _ => OnW.bind (wantS_on T j sShut).w fun _ k _ => OnW.ok ⟨Nat.le_refl _, .inr rfl⟩
theorem rowS_on {T : List GT} {L : Lv} (h : OnL T L) (kd : Int) (s e : ByteArray) : OnF T (rowS T kd s e L) := fun i =>
  On.bind (listS_on h.1 e i) fun l k _ _ => OnW.ok ⟨Nat.le_refl _, .inr rfl⟩
def OnO (T : List GT) (lo : Option Lv) : Prop := ∀ L, lo = some L → OnL T L
theorem withinS_on {T : List GT} {lo : Option Lv} (h : OnO T lo) (i : Nat) {f : Lv → Nat → PR GTree} (hf : ∀ L, OnL T L → OnF T (f L)) : On T i (withinS lo i f) := by
  unfold withinS
  cases lo with
  | none => exact On.bad
  | some L =>
    intro y k hk
    have := hf L (h L rfl) (i + 1) y k hk
    omega
theorem opensS_on {T : List GT} {lo : Option Lv} (h : OnO T lo) : OnF T (opensS T lo) := fun i => by
  unfold opensS
  split
  · exact withinS_on h i fun L hL => parenS_on hL
  split
  · exact withinS_on h i fun L hL => rowS_on hL _ _ _
  split
  · exact withinS_on h i fun L hL => rowS_on hL _ _ _
  split
  · exact withinS_on h i fun L hL => caseS_on hL
  split
  · exact withinS_on h i fun L hL => recvS_on hL
  · exact On.bad
theorem primS_on {T : List GT} {lo : Option Lv} (h : OnO T lo) : OnF T (primS T lo) := fun i => by
  unfold primS
  cases ht : T[i]? with
  | none => exact On.bad
  | some t =>
    have hi : i < T.length := (List.getElem?_eq_some_iff.1 ht).1
    dsimp only
    split
    · exact On.ok ⟨Nat.lt_succ_self _, hi⟩
    split
    · exact On.ok ⟨Nat.lt_succ_self _, hi⟩
    split
    · exact On.ok ⟨Nat.lt_succ_self _, hi⟩
    split
    · split
      · intro y k hk
        have := (withinS_on h (i + 1) fun L hL => rowS_on hL _ _ _) y k hk
        omega
      · exact On.ok ⟨Nat.lt_succ_self _, hi⟩
    · exact opensS_on h i
theorem unaryS_on {T : List GT} {lo : Option Lv} (h : OnO T lo) : OnF T (unaryS T lo) := fun i => by
  unfold unaryS
  split
  · exact withinS_on h i fun L hL j => On.bind (hL.2 j) fun x k _ _ => OnW.ok ⟨Nat.le_refl _, .inr rfl⟩
  · exact primS_on h i
theorem chainS_on {T : List GT} {sub : Nat → PR GTree} (h : OnF T sub) (signs : List ByteArray) : ∀ f i a, OnW T i (chainS T sub signs f i a)
  | 0, i, a => OnW.ok ⟨Nat.le_refl _, .inr rfl⟩
  | f + 1, i, a => by
    unfold chainS
    split
    · exact OnW.ok ⟨Nat.le_refl _, .inr rfl⟩
    · intro y k hk
      have := (On.bind (h (i + 1)) (fun t j _ _ => chainS_on h signs f j _)) y k hk
      omega
theorem prodS_on {T : List GT} {lo : Option Lv} (h : OnO T lo) : OnF T (prodS T lo) := fun i => On.bind (unaryS_on h i) fun a j _ _ => chainS_on (unaryS_on h) _ _ j a
theorem sumS_on {T : List GT} {lo : Option Lv} (h : OnO T lo) : OnF T (sumS T lo) := fun i => On.bind (prodS_on h i) fun a j _ _ => chainS_on (prodS_on h) _ _ j a
theorem cmpS_on {T : List GT} {lo : Option Lv} (h : OnO T lo) : OnF T (cmpS T lo) := fun i => On.bind (sumS_on h i) fun a j _ _ => by
  split
  · exact OnW.ok ⟨Nat.le_refl _, .inr rfl⟩
  · intro y k hk
    have := (On.bind (sumS_on h (j + 1)) (fun b k _ _ => OnW.ok (T := T) (x := GTree.node 8 _ 0 [] [a, b]) ⟨Nat.le_refl k, .inr rfl⟩)) y k hk
    omega
theorem joinS_on {T : List GT} {lo : Option Lv} (h : OnO T lo) (kd : Int) (a : GTree) (j : Nat) : On T j (joinS lo kd a j) :=
  withinS_on h j fun L hL k => On.bind (hL.1 k) fun b m _ _ => OnW.ok ⟨Nat.le_refl _, .inr rfl⟩
theorem exprS_on {T : List GT} {lo : Option Lv} (h : OnO T lo) : OnF T (exprS T lo) := fun i => On.bind (cmpS_on h i) fun a j _ _ => by
  split
  · exact (joinS_on h 9 a j).w
  split
  · exact (joinS_on h 10 a j).w
  · exact OnW.ok ⟨Nat.le_refl _, .inr rfl⟩
theorem loS_on (T : List GT) : ∀ n, OnO T (loS T n)
  | 0 => fun L h => by cases h
  | n + 1 => fun L h => by
    cases h
    exact ⟨exprS_on (loS_on T n), unaryS_on (loS_on T n)⟩
theorem paramsS_on (T : List GT) : ∀ f i acc, OnW T i (paramsS T f i acc)
  | 0, i, acc => OnW.ok ⟨Nat.le_refl _, .inr rfl⟩
  | f + 1, i, acc => by
    unfold paramsS
    split
    · exact OnW.ok ⟨Nat.le_refl _, .inr rfl⟩
    · refine OnW.bind ?_ fun _ j _ => ?_
      · split
        · exact OnW.ok ⟨Nat.le_refl _, .inr rfl⟩
        · exact (wantS_on T i sComma).w
      · cases ht : T[j]? with
        | none => exact OnW.bad
        | some t =>
          dsimp only
          have hj : j < T.length := (List.getElem?_eq_some_iff.1 ht).1
          split
          · intro y k hk
            have := paramsS_on T f (j + 1) _ y k hk
            omega
          · exact OnW.bad
theorem funS_on (T : List GT) : OnF T (funS T) := fun i => by
  unfold funS
  cases ht : T[i]? with
  | none => exact On.bad
  | some t =>
    have hi : i < T.length := (List.getElem?_eq_some_iff.1 ht).1
    dsimp only
    split
    · intro y k hk
      have := (On.bind (wantS_on T (i + 1) sOpen) fun _ j _ _ => OnW.bind (paramsS_on T _ j _) fun l k _ => OnW.bind (wantS_on T k sShut).w fun _ m _ => OnW.bind (wantS_on T m sArrow).w fun _ q _ => OnW.bind ((bodyS_on (exprS_on (loS_on T 40))) q).w fun b r _ => OnW.bind (wantS_on T r sDot).w fun _ z _ => OnW.ok ⟨Nat.le_refl _, .inr rfl⟩) y k hk
      omega
    · exact On.bad
end Go.Proofs.YtejidddjkngoiaaDoor
