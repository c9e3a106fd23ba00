/- GramFuns: functions that are parsed one by one are those that are parsed together (over what the program and the law's own code compute). -/
import Derived.Test.YtejidddjkngoiaaDoorGpO
import Derived.Test.YtejidddjkngoiaaDoorGpA
import Derived.Test.YtejidddjkngoiaaDoorGpN
import Derived.Test.YtejidddjkngoiaaDoorPGramx5
import Derived.Test.YtejidddjkngoiaaDoorPGramx6
namespace Go.Proofs.YtejidddjkngoiaaDoor
open Go.RowKit Go.Proofs.YtejidddjkngoiaaDoor.PGram Go.Proofs.YtejidddjkngoiaaDoorW.PrintWords
set_option linter.all false

abbrev PTup := Int × ByteArray × Int × List Int × List S28 × Int × Int
/-- What the law's parse answers. -/
def parseA (a : ByteArray) : PTup :=
  if (scanA a).2.2 = 0 then (match parseS ((scanA a).1.map g44) with
    | .ok (.node kd s n b l) _ => (kd, s, n, b, s28L l, 0, 0)
    | .bad i c => (0, ⟨#[]⟩, 0, [], [], (i : Int), c)) else (0, ⟨#[]⟩, 0, [], [], 0, (scanA a).2.2)
theorem parse_all (a : ByteArray) : Ev (fun k => rookerylaw16_parse.f k a) (parseA a) := by
  unfold rookerylaw16_parse.f parseA
  refine Ev.bind (scan_all a) ?_
  have hP := scan_parse a
  generalize scanA a = S at hP ⊢
  by_cases h : S.2.2 = 0
  · refine Ev.iteT h ?_
    rw [if_pos h]
    cases hr : parseS (S.1.map g44) with
    | ok t j =>
      obtain ⟨kd, s, n, b, l⟩ := t
      have hp : gram_Parse.f S.1 = some (kd, s, n, b, s28L l, 0, 0) := by unfold gram_Parse.f; rw [if_pos hP, hr]
      exact Ev.bind (f := fun _ => gram_Parse.f S.1) ((Ev.pure _).cast fun _ => hp) (Ev.pure _)
    | bad i c =>
      have hp : gram_Parse.f S.1 = some (0, ⟨#[]⟩, 0, [], [], (i : Int), c) := by unfold gram_Parse.f; rw [if_pos hP, hr]
      exact Ev.bind (f := fun _ => gram_Parse.f S.1) ((Ev.pure _).cast fun _ => hp) (Ev.pure _)
  · refine Ev.iteF h ?_
    rw [if_neg h]
    exact Ev.pure _
theorem same_l (X : List S28) (hX : X.length ≤ 30000) : ∀ (n k i : Nat), X.length - i = n → n < k → rookeryref16_Same.l0 k X X (i : Int) = some true
  | 0, k + 1, i, hn, hk => by
    unfold rookeryref16_Same.l0
    rw [if_neg (by omega)]
  | n + 1, k + 1, i, hn, hk => by
    have w : wrap64 ((i : Int) + 1) = ((i + 1 : Nat) : Int) := by rw [wrap64_id (by omega) (by omega)]; omega
    unfold rookeryref16_Same.l0
    rw [if_pos (by omega), if_pos (by omega), if_pos (by omega), if_pos rfl, if_pos rfl, if_pos rfl, if_pos rfl, if_pos rfl, w]
    exact same_l X hX n k (i + 1) (by omega) (by omega)
/-- Same of one tree with itself. -/
theorem same_self (x : S28) : Ev (fun k => rookeryref16_Same.f k x.f0 x.f1 x.f2 x.f3 x.f4 x.f0 x.f1 x.f2 x.f3 x.f4) true := by
  refine Ev.of (rookeryref16_Same.mono x.f0 x.f1 x.f2 x.f3 x.f4 x.f0 x.f1 x.f2 x.f3 x.f4) (k := cF x + 40000) ?_
  unfold rookeryref16_Same.f
  have h := All_f x (cF x + 40000) 30000 (by omega) (by omega) (by omega)
  rw [show ((30000 : Nat) : Int) = 30000 from rfl] at h
  rw [h]
  simp only [Option.bind_some, if_true]
  exact same_l _ (by rw [List.length_take]; omega) _ (cF x + 40000) 0 rfl (by rw [List.length_take]; omega)
theorem parse_prog {T : List GT} {t : GTree} {i : Nat} (h : parseS T = .ok t i) : ∃ l, t = .node 18 gE 0 [] l := by
  unfold parseS at h
  cases hf : funsS T (T.length + 1) 0 [] with
  | bad k c => rw [hf] at h; cases h
  | ok l k => rw [hf] at h; cases h; exact ⟨l, rfl⟩
theorem s28L_app : ∀ p q : List GTree, s28L (p ++ q) = s28L p ++ s28L q
  | [], q => rfl
  | t :: p, q => by
    show s28 t :: s28L (p ++ q) = _
    rw [s28L_app p q]
    rfl
theorem er_shift (d : Nat) (B : List S44) : ((B.map (shiftT d)).map g44).map er = (B.map g44).map er := by
  simp only [List.map_map]
  congr 1
theorem parse_size {T : List GT} {l : List GTree} {i : Nat} (h : parseS T = .ok (.node 18 gE 0 [] l) i) (hT : GoodT T) (hl : T.length ≤ 4000) : l.length ≤ 4000 := by
  unfold parseS at h
  cases hf : funsS T (T.length + 1) 0 [] with
  | bad k c => rw [hf] at h; cases h
  | ok l' k =>
    rw [hf] at h
    have e : l' = l := by
      dsimp only [PR.bind] at h
      simp only [PR.ok.injEq, GTree.node.injEq] at h
      exact h.1.2.2.2.2
    subst e
    obtain ⟨h0, q, hq, h1, h2⟩ := funs_y hT (T.length + 1) 0 [] (by omega) l' _ hf
    obtain rfl : q = l' := hq.symm
    have hk := OnW_funs T (T.length + 1) 0 [] (Nat.zero_le _) _ _ hf
    have hn : ∀ l : List GTree, l.length ≤ nL l := by
      intro l
      induction l with
      | nil => simp
      | cons t r ih =>
        have : 1 ≤ nT t := by cases t; simp [nT]
        simp only [List.length_cons, nL]
        omega
    have := hn q
    rcases h2 with rfl | h2
    · simp
    · omega
end Go.Proofs.YtejidddjkngoiaaDoor
namespace Go.Proofs.YtejidddjkngoiaaDoor.Pure
open Go.RowKit Go.Proofs.YtejidddjkngoiaaDoor Go.Proofs.YtejidddjkngoiaaDoor.PGram Go.Proofs.YtejidddjkngoiaaDoorW.PrintWords Go.Proofs.YtejidddjkngoiaaDoorW.PrintLast
theorem GramFuns : rookerylaw16_GramFuns.Pure := by
  intro a b ha hb
  refine Ev.ex (a := true) ?_
  unfold rookerylaw16_GramFuns.f
  refine Ev.bind (f := fun _ => rookerylaw16_alive.f) (a := true) (Ev.pure _) (Ev.iteT rfl (Ev.bind (parse_all a) (Ev.bind (parse_all b) ?_)))
  have JT : ∀ x0 x1 x2 x3 x4 y0 y1 y2 y3 y4, Ev (fun k => rookerylaw16_GramFuns.j0 k a b true x0 x1 x2 x3 x4 y0 y1 y2 y3 y4) true := by
    intros
    refine Ev.succ ?_
    simp only [rookerylaw16_GramFuns.j0]
    exact Ev.iteT trivial (Ev.pure _)
  by_cases e1 : (parseA a).2.2.2.2.2.2 = 0
  · refine Ev.iteT e1 ?_
    by_cases e2 : (parseA b).2.2.2.2.2.2 = 0
    · refine Ev.iteT e2 ?_
      have w1 : wrap64 ((a.size : Int) + (b.size : Int)) = ((a.size + b.size : Nat) : Int) := by
        rw [wrap64_id (by omega) (by omega)]
        omega
      rw [w1]
      by_cases hs : ((a.size + b.size : Nat) : Int) ≥ 16384
      · rw [decide_eq_true hs]
        exact JT _ _ _ _ _ _ _ _ _ _
      rw [decide_eq_false hs]
      -- both scan, and parse
      have good : ∀ x : ByteArray, (parseA x).2.2.2.2.2.2 = 0 → (scanA x).2.2 = 0 ∧ ∃ l i, parseS ((scanA x).1.map g44) = .ok (.node 18 gE 0 [] l) i ∧ parseA x = (18, gE, 0, [], s28L l, 0, 0) := by
        intro x hx
        unfold parseA at hx ⊢
        by_cases h : (scanA x).2.2 = 0
        · rw [if_pos h] at hx ⊢
          refine ⟨h, ?_⟩
          cases hr : parseS ((scanA x).1.map g44) with
          | bad i c =>
            rw [hr] at hx
            have := (parse_b _ i c hr).2
            dsimp only at hx
            omega
          | ok t i =>
            obtain ⟨l, rfl⟩ := parse_prog hr
            exact ⟨l, i, rfl, rfl⟩
        · rw [if_neg h] at hx
          exact absurd hx h
      obtain ⟨sa, p, i, pa, ta⟩ := good a e1
      obtain ⟨sb, q, j, pb, tb⟩ := good b e2
      rw [ta, tb]
      dsimp only
      have fa := scan_facts a
      have fb := scan_facts b
      have za : a.data.toList.length = a.size := rfl
      have zb : b.data.toList.length = b.size := rfl
      have na : ¬ 16384 < a.size := by omega
      have nb : ¬ 16384 < b.size := by omega
      have ua : (scanL (a.size + 1) 0 0 a.data.toList).2.2 = 0 ∧ (scanA a).1 = (scanL (a.size + 1) 0 0 a.data.toList).1 := by
        unfold scanA at sa ⊢
        rw [if_neg na] at sa ⊢
        by_cases hx : (scanL (a.size + 1) 0 0 a.data.toList).2.2 = 0
        · rw [if_pos hx]
          exact ⟨hx, rfl⟩
        · rw [if_neg hx] at sa
          exact absurd sa hx
      have ub : (scanL (b.size + 1) 0 0 b.data.toList).2.2 = 0 ∧ (scanA b).1 = (scanL (b.size + 1) 0 0 b.data.toList).1 := by
        unfold scanA at sb ⊢
        rw [if_neg nb] at sb ⊢
        by_cases hx : (scanL (b.size + 1) 0 0 b.data.toList).2.2 = 0
        · rw [if_pos hx]
          exact ⟨hx, rfl⟩
        · rw [if_neg hx] at sb
          exact absurd sb hx
      have gA : GoodT ((scanA a).1.map g44) := by
        intro t ht
        obtain ⟨x, hx, rfl⟩ := List.mem_map.1 ht
        exact (fa.2 x hx).2
      have gB : GoodT ((scanA b).1.map g44) := by
        intro t ht
        obtain ⟨x, hx, rfl⟩ := List.mem_map.1 ht
        exact (fb.2 x hx).2
      have lp := parse_size pa gA (by rw [List.length_map]; exact fa.1)
      have lq := parse_size pb gB (by rw [List.length_map]; exact fb.1)
      -- the text of both
      have hz : ((a ++ (⟨#[10]⟩ : ByteArray)) ++ b).data.toList = a.data.toList ++ 10 :: b.data.toList := by simp [ByteArray.data_append]
      have hs1 : (a ++ (⟨#[10]⟩ : ByteArray)).size = a.size + 1 := by
        rw [ByteArray.size_append]
        rfl
      have hsz : ((a ++ (⟨#[10]⟩ : ByteArray)) ++ b).size = a.size + 1 + b.size := by
        rw [ByteArray.size_append, hs1]
      have GL := scan_glue (a.size + 1) 0 0 a.data.toList (by omega) ua.1 (a.size + 1 + b.size + 1) b.data.toList (by omega)
      rw [za, show 0 + a.size + 1 = 0 + (a.size + 1) by omega, Nat.zero_add (scanL (a.size + 1) 0 0 a.data.toList).1.length] at GL
      refine Ev.succ ?_
      simp only [rookerylaw16_GramFuns.j0]
      refine Ev.iteF (by simp) (Ev.iteT (by omega) (Ev.iteT (by rw [hs1]; omega) (Ev.bind (parse_all ((a ++ (⟨#[10]⟩ : ByteArray)) ++ b)) ?_)))
      by_cases hm : (scanA a).1.length + (scanA b).1.length ≤ 4000
      · have SH := scan_shift (b.size + 1) 0 0 b.data.toList (scanL (a.size + 1) 0 0 a.data.toList).1.length (a.size + 1) ub.1 (by rw [← ua.2, ← ub.2]; exact hm)
        rw [scan_fuel (b.size + 1) (a.size + 1 + b.size + 1) _ _ b.data.toList (by omega) (by omega)] at SH
        rw [SH] at GL
        have EZ : scanA ((a ++ (⟨#[10]⟩ : ByteArray)) ++ b) = ((scanA a).1 ++ (scanA b).1.map (shiftT (a.size + 1)), 0, 0) := by
          conv => lhs; unfold scanA
          rw [hsz, if_neg (by omega), hz, GL, ua.2, ub.2]
          rfl
        obtain ⟨z, hz2⟩ := parse_both (A := (scanA a).1.map g44) (B := ((scanA b).1.map (shiftT (a.size + 1))).map g44) pa (by rw [parse_same (er_shift (a.size + 1) (scanA b).1)]; exact pb)
        have EP : parseA ((a ++ (⟨#[10]⟩ : ByteArray)) ++ b) = (18, gE, 0, [], s28L (p ++ q), 0, 0) := by
          unfold parseA
          rw [EZ]
          dsimp only
          rw [if_pos rfl, List.map_append, hz2]
        rw [EP]
        dsimp only
        have lsp : (s28L p).length = p.length := s28L_len p
        have lsq : (s28L q).length = q.length := s28L_len q
        refine Ev.iteF (by decide) ?_
        refine Ev.bind (f := fun _ => some (([] : List S28) : List S28)) (Ev.pure _) (Ev.iteT (by simp; omega) ?_)
        refine Ev.bind (f := fun _ => some (([] : List S28) ++ s28L p)) (Ev.pure _) (Ev.iteT (by simp; omega) (Ev.iteT rfl ?_))
        refine Ev.bind (a := true) ?_ (Ev.pure _)
        rw [List.nil_append, ← s28L_app]
        exact same_self ⟨18, gE, 0, [], s28L (p ++ q)⟩
      · have OV := scan_over (b.size + 1) 0 0 b.data.toList (scanL (a.size + 1) 0 0 a.data.toList).1.length (0 + (a.size + 1)) ub.1 (by rw [← ua.2]; exact fa.1) (by rw [← ua.2, ← ub.2]; omega)
        rw [scan_fuel (b.size + 1) (a.size + 1 + b.size + 1) _ _ b.data.toList (by omega) (by omega)] at OV
        rw [if_neg (by rw [OV]; decide)] at GL
        have EP : (parseA ((a ++ (⟨#[10]⟩ : ByteArray)) ++ b)).2.2.2.2.2.2 = 155 := by
          have e : (scanA ((a ++ (⟨#[10]⟩ : ByteArray)) ++ b)).2.2 = 155 := by
            unfold scanA
            rw [hsz, if_neg (by omega), hz, GL]
            dsimp only
            rw [if_neg (by rw [OV]; decide)]
            exact OV
          unfold parseA
          rw [if_neg (by rw [e]; decide)]
          exact e
        exact Ev.iteT EP (Ev.pure _)
    · exact Ev.iteF e2 (JT _ _ _ _ _ _ _ _ _ _)
  · exact Ev.iteF e1 (JT _ _ _ _ _ _ _ _ _ _)
end Go.Proofs.YtejidddjkngoiaaDoor.Pure
