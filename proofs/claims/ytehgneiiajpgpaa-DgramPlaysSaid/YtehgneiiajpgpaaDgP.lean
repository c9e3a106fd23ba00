/- dgram: Spoil. -/
import Derived.Test.YtehgneiiajpgpaaDgO
import Derived.Deep.LoopGhost
import Derived.OpenShut
namespace Go.Proofs.Ytehgneiiajpgpaa
open Go.RowKit Go.Maps
set_option linter.all false
set_option maxHeartbeats 2000000
set_option maxRecDepth 100000

structure Aside0 (p : Prop) : Prop where
  out : p
def xorB (y z : Int) : Int := bits BinOp.xor IntKind.u8 y z
def maskB (m : Int) : Nat → Int
  | 0 => m / 16777216
  | 1 => m / 65536 % 256
  | 2 => m / 256 % 256
  | _ => m % 256
def spStep (m : Int) (a : Nat) (B : List Int) (t : Nat) : List Int := B.modify (a + t) (fun y => xorB y (maskB m t))
def spoilB (m : Int) (a : Nat) (B : List Int) : List Int := (List.range 4).foldl (spStep m a) B
theorem spStep_len (m : Int) (a : Nat) (B : List Int) (t : Nat) : (spStep m a B t).length = B.length := by simp [spStep]
theorem spFold_len (m : Int) (a : Nat) : ∀ (l : List Nat) (B : List Int), (l.foldl (spStep m a) B).length = B.length
  | [], B => rfl
  | t :: l, B => by rw [List.foldl_cons, spFold_len m a l, spStep_len]
theorem xorB_byte (y z : Int) : 0 ≤ xorB y z ∧ xorB y z < 256 := by
  have := wf_bits BinOp.xor IntKind.u8 y z
  simp [Lit.wf, IntKind.min, IntKind.max, IntKind.bits, IntKind.signed] at this
  unfold xorB
  omega
theorem spStep_byte (m : Int) (a : Nat) (B : List Int) (t : Nat) (h : ∀ x ∈ B, 0 ≤ x ∧ x < 256) : ∀ x ∈ spStep m a B t, 0 ≤ x ∧ x < 256 := by
  intro x hx
  obtain ⟨i, hi⟩ := List.mem_iff_getElem?.1 hx
  unfold spStep at hi
  rw [List.getElem?_modify] at hi
  cases hb : B[i]? with
  | none => rw [hb] at hi; simp at hi
  | some y =>
    rw [hb] at hi
    have hy := h y (List.mem_of_getElem? hb)
    by_cases e : a + t = i
    · simp [e] at hi
      rw [← hi]
      exact xorB_byte _ _
    · simp [e] at hi
      rw [← hi]
      exact hy
theorem spFold_byte (m : Int) (a : Nat) : ∀ (l : List Nat) (B : List Int), (∀ x ∈ B, 0 ≤ x ∧ x < 256) → ∀ x ∈ l.foldl (spStep m a) B, 0 ≤ x ∧ x < 256
  | [], B, h => h
  | t :: l, B, h => spFold_byte m a l _ (spStep_byte m a B t h)
theorem spStep_out (m : Int) (a : Nat) (B : List Int) (t : Nat) (h : B.length ≤ a + t) : spStep m a B t = B := by
  unfold spStep
  exact List.modify_eq_self (by omega)
theorem cells_modify (B : List Int) (more : List Value) (i : Nat) (y z : Int) (h : B[i]? = some y) :
    (B.map (Value.int .u8) ++ more).toArray.setIfInBounds i (.int .u8 (xorB y z)) = ((B.modify i (fun y => xorB y z)).map (Value.int .u8) ++ more).toArray := by
  have hl : i < B.length := (List.getElem?_eq_some_iff.1 h).1
  have he : B[i] = y := (List.getElem?_eq_some_iff.1 h).2
  apply Array.ext'
  simp only [Array.toList_setIfInBounds]
  rw [List.set_append_left _ _ (by simpa using hl)]
  congr 1
  apply List.ext_getElem?
  intro j
  rw [List.getElem?_map, List.getElem?_modify, List.getElem?_set, List.getElem?_map]
  by_cases e : i = j
  · subst e
    simp [hl, he]
  · simp [e]
def spoil0 (N : Net0) (i at' m : Int) : Net0 × Int := match at0 N i with
  | none => (N, 92)
  | some d => if d.sp = true then (N, 94) else if at' < 0 ∨ (d.b.length : Int) ≤ at' then (N, 93) else ({ N with way := N.way.set i.toNat { d with b := spoilB m at'.toNat d.b, sp := true } }, 0)
def Row.put (r : Row) (k : Nat) (d : Dg) : Row := { r with ds := r.ds.set k d }
theorem split_at {l : List Dg} {i : Nat} {d : Dg} (h : l[i]? = some d) : l = l.take i ++ d :: l.drop (i + 1) := by
  have hi : i < l.length := (List.getElem?_eq_some_iff.1 h).1
  have e : l[i] = d := (List.getElem?_eq_some_iff.1 h).2
  rw [← e, ← List.drop_eq_getElem_cons hi, List.take_append_drop]
theorem split_set {l : List Dg} {i : Nat} {d d' : Dg} (h : l[i]? = some d) : l.set i d' = l.take i ++ d' :: l.drop (i + 1) := by
  have hi : i < l.length := (List.getElem?_eq_some_iff.1 h).1
  rw [List.set_eq_take_append_cons_drop, if_pos hi]
theorem Row.put_obj {r : Row} {k : Nat} {d d' : Dg} (h : r.ds[k]? = some d) (hf : d'.f = d.f) (ht : d'.t = d.t) (hn : d'.n = d.n) (hv : d'.val = d.val) (hs : d'.sp = true) :
    (.cells ((r.pre ++ flat r.ds ++ r.post).toArray.setIfInBounds (r.pre.length + k * 5 + 4) (.bool true)) 54 (0, 0) : Obj) = (r.put k d').obj := by
  have hi : k < r.ds.length := (List.getElem?_eq_some_iff.1 h).1
  have e1 : flat r.ds = flat (r.ds.take k) ++ (d.cells ++ flat (r.ds.drop (k + 1))) := by
    conv => lhs; rw [split_at h]
    simp [flat]
  have e2 : flat (r.ds.set k d') = flat (r.ds.take k) ++ (d'.cells ++ flat (r.ds.drop (k + 1))) := by
    rw [split_set h]
    simp [flat]
  have e3 : (flat (r.ds.take k)).length = k * 5 := by rw [flat_len, List.length_take]; omega
  simp only [Row.obj, Row.put]
  congr 1
  apply Array.ext'
  simp only [Array.toList_setIfInBounds]
  rw [e1, e2]
  simp only [Dg.cells, hf, ht, hn, hv, hs]
  have e4 : r.pre.length + k * 5 + 4 = (r.pre ++ (flat (r.ds.take k) ++ [.int .i64 d.f, .int .i64 d.t, .int .u64 d.n, d.val])).length := by simp [e3]; omega
  have e5 : r.pre ++ (flat (r.ds.take k) ++ ([.int .i64 d.f, .int .i64 d.t, .int .u64 d.n, d.val, .bool d.sp] ++ flat (r.ds.drop (k + 1)))) ++ r.post = (r.pre ++ (flat (r.ds.take k) ++ [.int .i64 d.f, .int .i64 d.t, .int .u64 d.n, d.val])) ++ (.bool d.sp :: (flat (r.ds.drop (k + 1)) ++ r.post)) := by simp
  rw [e5, e4, List.set_append_right _ _ (Nat.le_refl _), Nat.sub_self, List.set_cons_zero]
  simp
/-- Behind a spoiling. -/
theorem spoil_close {w w1 w3 : World} {G : NetG} {g gb k : Nat} {d d' : Dg} (hG : G.wf) (hS : Sep w G.items) (hd : G.way.ds[k]? = some d) (hg : G.way.g = some g) (hgd : d.g = some gb)
    (hf : d'.f = d.f) (ht : d'.t = d.t) (hn : d'.n = d.n) (hgd' : d'.g = some gb) (hm : d'.more = d.more) (hbl : d'.b.length = d.b.length) (hs : d'.sp = true) (hw' : d'.wf)
    (o1 : Only w w1 [g]) (g1 : w1.heap[g]? = some (G.way.put k d').obj) (o3 : Only w1 w3 [gb]) (g3 : w3.heap[gb]? = some d'.obj) : NetTo w w3 G.p (NetG.abs { G with way := G.way.put k d' }) G.keys := by
  have hv : d'.val = d.val := by simp only [Dg.val, hgd, hgd', hm, hbl]
  have hp : (G.way.put k d').own = [(g, (G.way.put k d').obj)] := Row.own_of hg
  have hps : (G.way.put k d').ds.flatMap Dg.items = (G.way.ds.take k).flatMap Dg.items ++ ((gb, d'.obj) :: (G.way.ds.drop (k + 1)).flatMap Dg.items) := by
    simp only [Row.put]
    rw [split_set hd]
    simp [Dg.items_of hgd']
  have hps0 : G.way.ds.flatMap Dg.items = (G.way.ds.take k).flatMap Dg.items ++ ((gb, d.obj) :: (G.way.ds.drop (k + 1)).flatMap Dg.items) := by
    conv => lhs; rw [split_at hd]
    simp [Dg.items_of hgd]
  have hvl : (G.way.put k d').val = G.way.val := by simp [Row.val, Row.put]
  have eo : NetG.obj { G with way := G.way.put k d' } = G.obj := by simp only [NetG.obj, hvl]
  have p1 : G.items.Perm ((g, G.way.obj) :: (gb, d.obj) :: ((G.p, G.obj) :: (G.mb, .map G.es G.clock) :: ((G.way.ds.take k).flatMap Dg.items ++ (G.way.ds.drop (k + 1)).flatMap Dg.items ++ G.boxItems))) := by
    simp only [NetG.items, Row.items, Row.own_of hg, hps0]
    refine perm_by fun _ x => ?_
    simp only [List.count_append, List.count_cons, List.count_nil]
    omega
  have s1 := (hS.perm p1).put o1 g1
  have p2 : ((g, (G.way.put k d').obj) :: (gb, d.obj) :: ((G.p, G.obj) :: (G.mb, Obj.map G.es G.clock) :: ((G.way.ds.take k).flatMap Dg.items ++ (G.way.ds.drop (k + 1)).flatMap Dg.items ++ G.boxItems))).Perm ((gb, d.obj) :: (g, (G.way.put k d').obj) :: ((G.p, G.obj) :: (G.mb, .map G.es G.clock) :: ((G.way.ds.take k).flatMap Dg.items ++ (G.way.ds.drop (k + 1)).flatMap Dg.items ++ G.boxItems))) := List.Perm.swap _ _ _
  have s3 := (s1.perm p2).put o3 g3
  have p3 : ((gb, d'.obj) :: (g, (G.way.put k d').obj) :: ((G.p, G.obj) :: (G.mb, Obj.map G.es G.clock) :: ((G.way.ds.take k).flatMap Dg.items ++ (G.way.ds.drop (k + 1)).flatMap Dg.items ++ G.boxItems))).Perm (NetG.items { G with way := G.way.put k d' }) := by
    simp only [NetG.items, Row.items, hp, hps, eo]
    refine perm_by fun _ x => ?_
    simp only [List.count_append, List.count_cons, List.count_nil]
    have : NetG.boxItems { G with way := G.way.put k d' } = G.boxItems := rfl
    rw [this]
    omega
  have hgk : g ∈ G.keys := ((p1.map (·.1)).mem_iff).2 (by simp)
  have hgbk : gb ∈ G.keys := ((p1.map (·.1)).mem_iff).2 (by simp)
  refine netTo_of (by rfl) ?_ (s3.perm p3) (fun y hy => .inl ?_) ((o1.weaken (by simp [hgk])).trans o3 (by simp [hgbk]))
  · refine { hG with way := ?_, wlen := by simpa [Row.put] using hG.wlen, to := fun x hx => ?_ }
    · refine ⟨fun e => ?_, hG.way.room, by simpa [Row.put] using hG.way.cap, fun x hx => ?_⟩
      · have : G.way.g = none := e
        rw [hg] at this
        cases this
      · rcases List.mem_or_eq_of_mem_set hx with h | rfl
        · exact hG.way.one x h
        · exact hw'
    · rcases List.mem_or_eq_of_mem_set hx with h | rfl
      · exact hG.to x h
      · rw [ht]; exact hG.to d (List.mem_of_getElem? hd)
  · have h1 := ((p3.map (·.1)).mem_iff).2 hy
    refine ((p1.map (·.1)).mem_iff).2 ?_
    simp only [List.map_cons, List.mem_cons] at h1 ⊢
    rcases h1 with h | h | h
    · exact .inr (.inl h)
    · exact .inl h
    · exact .inr (.inr h)
theorem spoil_c (w : World) (p : Nat) (N : Net0) (K : List Nat) (hN : NetAt w p N K) (i at' m : Int) (hm : 0 ≤ m ∧ m < 4294967296) :
    Calls Try.prog 40 #[.pointer (some ⟨p, 0, none⟩), .int .i64 i, .int .i64 at', .int .u32 m] w fun e w' => e = .returned (.int .i64 (spoil0 N i at' m).2) ∧ NetTo w w' p (spoil0 N i at' m).1 K := by
  obtain ⟨G, hGp, hG, hS, hK, hGN⟩ := id hN
  obtain ⟨A1, c1', hv⟩ := G.way.val_slice hG.way
  have hp := hS.head
  simp only [NetG.obj, hv, hGp] at hp
  obtain ⟨c0, c1, c2, c3, c4, f0, f1, f2, f3, f4⟩ := blk5 hp
  have hh := has_c w p i G.way.ds.length A1 c1' hG.wlen c2
  have hl : (G.abs.way.length : Int) = G.way.ds.length := by simp [NetG.abs]
  cases ha : at0 N i with
  | none =>
    have e0 : spoil0 N i at' m = (N, 92) := by simp [spoil0, ha]
    rw [e0]
    rw [if_pos (by have := at0_none.1 ha; rw [← hGN] at this; omega)] at hh
    go_enter Try.func40, Try.ntmps40
    go_wp2_with (go_at_call 37; refine hh.mono ?_; rintro e w2 ⟨rfl, rfl⟩)
    go_ret
    exact ⟨rfl, .refl hN⟩
  | some x =>
    rw [if_neg (by have h1 := mt at0_none.2 (by rw [ha]; simp); rw [← hGN] at h1; omega)] at hh
    have ha' := ha
    rw [← hGN] at ha'
    obtain ⟨i0, i1, d, hd, hdx, hdw, g, hg, hgb⟩ := way_at hG hS ha'
    obtain ⟨k, rfl⟩ : ∃ k : Nat, i = k := ⟨i.toNat, by omega⟩
    have hd' : G.way.ds[k]? = some d := by simpa using hd
    have hval : A1 = some ⟨g, G.way.pre.length, none⟩ := by simp only [Row.val, hg] at hv; simp only [Value.slice.injEq] at hv; exact hv.1.symm
    subst hval
    obtain ⟨x0, x1, x2, x3, x4⟩ := Row.at hgb k d hd'
    obtain ⟨A3, n3, c3', hv3⟩ := d.val_slice
    have hn3 : n3 = d.b.length := by
      unfold Dg.val at hv3
      split at hv3
      · rename_i hh; simp only [Value.slice.injEq] at hv3; rw [hdw.nil hh]; simp; omega
      · simp only [Value.slice.injEq] at hv3; omega
    subst hn3
    rw [hv3] at x3
    have hfz : ∀ o, w.frozen? ⟨g, o, none⟩ = false := fun o => Lib.frozen_of_heap hgb o
    have hxs : x.sp = d.sp := by rw [← hdx]; rfl
    have hxb : x.b = d.b := by rw [← hdx]; rfl
    cases hsp : d.sp with
    | true =>
      have e0 : spoil0 N k at' m = (N, 94) := by simp [spoil0, ha, hxs, hsp]
      rw [e0]
      rw [hsp] at x4
      go_enter Try.func40, Try.ntmps40
      go_wp2_with (go_at_call 37; refine hh.mono ?_; rintro e w2 ⟨rfl, rfl⟩)
      go_ret
      exact ⟨rfl, .refl hN⟩
    | false =>
      rw [hsp] at x4
      have hl1212 := hdw.len
      by_cases hat : 0 ≤ at' ∧ at' < d.b.length
      · obtain ⟨a, rfl⟩ : ∃ a : Nat, at' = a := ⟨at'.toNat, by omega⟩
        obtain ⟨gb, hgd⟩ : ∃ gb, d.g = some gb := by
          cases hgd : d.g with
          | none => rw [hdw.nil hgd] at hat; simp at hat; omega
          | some gb => exact ⟨gb, rfl⟩
        have hdv : d.val = .slice (some ⟨gb, 0, none⟩) d.b.length (d.b.length + d.more.length) := by simp only [Dg.val, hgd]
        rw [hdv] at hv3
        simp only [Value.slice.injEq, true_and] at hv3
        obtain ⟨rfl, rfl⟩ := hv3
        have e0 : spoil0 N k a m = ({ N with way := N.way.set k { x with b := spoilB m a x.b, sp := true } }, 0) := by
          have : ¬ ((a : Int) < 0 ∨ (x.b.length : Int) ≤ a) := by rw [hxb]; omega
          simp only [spoil0, ha, hxs, hsp, if_neg this, Int.toNat_natCast]
          simp
        rw [e0]
        have q1 : ¬ ((a : Int) < 0) := by omega
        have q2 : ¬ (d.b.length ≤ a) := by omega
        have ff := hfz (G.way.pre.length + k * 5 + 4)
        have hitem : (gb, d.obj) ∈ G.items := by
          simp only [NetG.items, Row.items, List.mem_cons, List.mem_append]
          exact .inr (.inr (.inl (.inr (List.mem_flatMap.2 ⟨d, List.mem_of_getElem? hd', by simp [Dg.items_of hgd]⟩))))
        have hgob : w.heap[gb]? = some d.obj := hS.block hitem
        have hgg : gb ≠ g := by
          rintro rfl
          have hn := hS.tail.tail.1
          simp only [Row.items, Row.own_of hg, List.map_append, List.map_cons, List.map_nil, List.cons_append, List.nil_append] at hn
          refine (List.nodup_cons.1 hn).1 (List.mem_append_left _ ?_)
          exact List.mem_map_of_mem (f := (·.1)) (a := (gb, d.obj)) (List.mem_flatMap.2 ⟨d, List.mem_of_getElem? hd', by simp [Dg.items_of hgd]⟩)
        go_enter Try.func40, Try.ntmps40
        go_wp2_with (go_at_call 37; refine hh.mono ?_; rintro e w2 ⟨rfl, rfl⟩)
        obtain ⟨w1, hw1⟩ : ∃ w1, w1 = w2.setCell ⟨g, G.way.pre.length + k * 5 + 4, none⟩ (.bool true) := ⟨_, rfl⟩
        rw [← hw1]
        have o1 : Only w2 w1 [g] := by rw [hw1]; exact Only.setCell w2 ⟨g, _, none⟩ _
        have hgob1 : w1.heap[gb]? = some d.obj := (o1.block gb (Array.getElem?_eq_some_iff.1 hgob).1 (by simpa using hgg)).trans hgob
        have hg1 : w1.heap[g]? = some (.cells ((G.way.pre ++ flat G.way.ds ++ G.way.post).toArray.setIfInBounds (G.way.pre.length + k * 5 + 4) (.bool true)) 54 (0, 0)) := by
          rw [hw1]; exact heap_setCell hgb _ _
        go_loopg [49] 4 (fun gk v49 wr => ∃ (t : Nat) (B : List Int), t ≤ 4 ∧ gk = 4 - t ∧ v49 = .int .i64 (t : Int) ∧ Aside0 (Only w1 wr [gb]) ∧ Aside0 (wr.heap[gb]? = some (.cells (B.map (Value.int .u8) ++ d.more).toArray 5 (0, 0))) ∧ Aside0 (B = (List.range t).foldl (spStep m a) d.b))
        case atStart => exact ⟨0, d.b, by omega, rfl, rfl, ⟨Only.refl _ _⟩, ⟨hgob1⟩, ⟨rfl⟩⟩
        case round =>
          obtain ⟨t, B, ht, rfl, rfl, HO, HB, HL⟩ := hrel
          have hB := HB.out
          have hBl : B.length = d.b.length := by rw [HL.out, spFold_len]
          have hcl : ∀ j x, B[j]? = some x → wr.cell? ⟨gb, j, none⟩ = some (.int .u8 x) := fun j x hj => by
            have := row_cells (pre := []) (xs := B.map (Value.int .u8)) (post := d.more) (by simpa using hB) j (.int .u8 x) (by simp [hj])
            simpa [Addr.add_lit] using this
          have hfz : ∀ o, wr.frozen? ⟨gb, o, none⟩ = false := fun o => Lib.frozen_of_heap hB o
          have ht' : t = 0 ∨ t = 1 ∨ t = 2 ∨ t = 3 ∨ t = 4 := by omega
          have HBL := Lib.hid hBl
          have HO1 := Aside0.mk o1
          have HG1 := Aside0.mk hg1
          have hat1 : a < d.b.length := by omega
          have HAT := Lib.hid hat1
          clear hw1 o1 hgob1 hg1 q1 q2 hat hat1
          rcases ht' with rfl | rfl | rfl | rfl | rfl
          · have e : ((0 : Nat) : Int) = 0 := rfl
            have hyl : a < B.length := by have := HAT.out; omega
            obtain ⟨y, hy⟩ : ∃ y, B[a]? = some y := ⟨_, List.getElem?_eq_getElem hyl⟩
            have hc := hcl _ _ hy
            have hf := hfz (a)
            have b1 : (a : Int) < (d.b.length : Int) := by have := HAT.out; omega
            have b2 : (0 : Int) ≤ (a : Int) := by omega
            have b3 : ((a : Int)).toNat = a := by omega
            have HY := Lib.hid hy
            have HYL := Lib.hid hyl
            clear hcl hfz hB hy hyl hBl
            rw [e]
            go_wp2
            go_region
            go_wp2
            go_roundg (4 - 1)
            case measure => omega
            case rel =>
              refine ⟨1, spStep m a B 0, by omega, rfl, rfl, ⟨(HO.out.trans (Only.setCell _ ⟨gb, _, none⟩ _) (by simp)).trans (Only.drew _ [gb]) (by simp)⟩, ⟨?_⟩, ⟨?_⟩⟩
              · have hs := heap_setCell HB.out (a) (.int .u8 (xorB y (maskB m 0)))
                rw [cells_modify B d.more (a) y (maskB m 0) HY] at hs
                exact hs
              · rw [HL.out]
                rfl
          · have e : ((1 : Nat) : Int) = 1 := rfl
            by_cases hj : a + 1 < d.b.length
            · have hyl : a + 1 < B.length := by have := HAT.out; omega
              obtain ⟨y, hy⟩ : ∃ y, B[a + 1]? = some y := ⟨_, List.getElem?_eq_getElem hyl⟩
              have hc := hcl _ _ hy
              have hf := hfz (a + 1)
              have b1 : (a : Int) + 1 < (d.b.length : Int) := by have := HAT.out; omega
              have b2 : (0 : Int) ≤ (a : Int) + 1 := by omega
              have b3 : ((a : Int) + 1).toNat = a + 1 := by omega
              have HY := Lib.hid hy
              have HYL := Lib.hid hyl
              clear hcl hfz hB hy hyl hBl
              rw [e]
              go_wp2
              go_region
              go_wp2
              go_roundg (4 - 2)
              case measure => omega
              case rel =>
                refine ⟨2, spStep m a B 1, by omega, rfl, rfl, ⟨(HO.out.trans (Only.setCell _ ⟨gb, _, none⟩ _) (by simp)).trans (Only.drew _ [gb]) (by simp)⟩, ⟨?_⟩, ⟨?_⟩⟩
                · have hs := heap_setCell HB.out (a + 1) (.int .u8 (xorB y (maskB m 1)))
                  rw [cells_modify B d.more (a + 1) y (maskB m 1) HY] at hs
                  exact hs
                · rw [HL.out]
                  rfl
            · have b1 : decide ((a : Int) + 1 < (d.b.length : Int)) = false := decide_eq_false (by omega)
              have b4 : (a : Int) + 1 ≤ 9223372036854775807 := by have := HAT.out; omega
              have b2 : (0 : Int) ≤ (a : Int) + 1 := by omega
              have b5 : (d.b.length : Int) ≤ (a : Int) + 1 := by omega
              have hout : B.length ≤ a + 1 := by omega
              have HX := Lib.hid hout
              clear hcl hfz hB hBl hout
              rw [e]
              go_wp2
              go_roundg (4 - 2)
              case measure => omega
              case rel =>
                refine ⟨2, B, by omega, rfl, rfl, HO, HB, ⟨?_⟩⟩
                have : spStep m a B 1 = B := spStep_out m a B 1 HX
                rw [← this, HL.out]
                rfl
          · have e : ((2 : Nat) : Int) = 2 := rfl
            by_cases hj : a + 2 < d.b.length
            · have hyl : a + 2 < B.length := by have := HAT.out; omega
              obtain ⟨y, hy⟩ : ∃ y, B[a + 2]? = some y := ⟨_, List.getElem?_eq_getElem hyl⟩
              have hc := hcl _ _ hy
              have hf := hfz (a + 2)
              have b1 : (a : Int) + 2 < (d.b.length : Int) := by have := HAT.out; omega
              have b2 : (0 : Int) ≤ (a : Int) + 2 := by omega
              have b3 : ((a : Int) + 2).toNat = a + 2 := by omega
              have HY := Lib.hid hy
              have HYL := Lib.hid hyl
              clear hcl hfz hB hy hyl hBl
              rw [e]
              go_wp2
              go_region
              go_wp2
              go_roundg (4 - 3)
              case measure => omega
              case rel =>
                refine ⟨3, spStep m a B 2, by omega, rfl, rfl, ⟨(HO.out.trans (Only.setCell _ ⟨gb, _, none⟩ _) (by simp)).trans (Only.drew _ [gb]) (by simp)⟩, ⟨?_⟩, ⟨?_⟩⟩
                · have hs := heap_setCell HB.out (a + 2) (.int .u8 (xorB y (maskB m 2)))
                  rw [cells_modify B d.more (a + 2) y (maskB m 2) HY] at hs
                  exact hs
                · rw [HL.out]
                  rfl
            · have b1 : decide ((a : Int) + 2 < (d.b.length : Int)) = false := decide_eq_false (by omega)
              have b4 : (a : Int) + 2 ≤ 9223372036854775807 := by have := HAT.out; omega
              have b2 : (0 : Int) ≤ (a : Int) + 2 := by omega
              have b5 : (d.b.length : Int) ≤ (a : Int) + 2 := by omega
              have hout : B.length ≤ a + 2 := by omega
              have HX := Lib.hid hout
              clear hcl hfz hB hBl hout
              rw [e]
              go_wp2
              go_roundg (4 - 3)
              case measure => omega
              case rel =>
                refine ⟨3, B, by omega, rfl, rfl, HO, HB, ⟨?_⟩⟩
                have : spStep m a B 2 = B := spStep_out m a B 2 HX
                rw [← this, HL.out]
                rfl
          · have e : ((3 : Nat) : Int) = 3 := rfl
            by_cases hj : a + 3 < d.b.length
            · have hyl : a + 3 < B.length := by have := HAT.out; omega
              obtain ⟨y, hy⟩ : ∃ y, B[a + 3]? = some y := ⟨_, List.getElem?_eq_getElem hyl⟩
              have hc := hcl _ _ hy
              have hf := hfz (a + 3)
              have b1 : (a : Int) + 3 < (d.b.length : Int) := by have := HAT.out; omega
              have b2 : (0 : Int) ≤ (a : Int) + 3 := by omega
              have b3 : ((a : Int) + 3).toNat = a + 3 := by omega
              have HY := Lib.hid hy
              have HYL := Lib.hid hyl
              clear hcl hfz hB hy hyl hBl
              rw [e]
              go_wp2
              go_region
              go_wp2
              go_roundg (4 - 4)
              case measure => omega
              case rel =>
                refine ⟨4, spStep m a B 3, by omega, rfl, rfl, ⟨(HO.out.trans (Only.setCell _ ⟨gb, _, none⟩ _) (by simp)).trans (Only.drew _ [gb]) (by simp)⟩, ⟨?_⟩, ⟨?_⟩⟩
                · have hs := heap_setCell HB.out (a + 3) (.int .u8 (xorB y (maskB m 3)))
                  rw [cells_modify B d.more (a + 3) y (maskB m 3) HY] at hs
                  exact hs
                · rw [HL.out]
                  rfl
            · have b1 : decide ((a : Int) + 3 < (d.b.length : Int)) = false := decide_eq_false (by omega)
              have b4 : (a : Int) + 3 ≤ 9223372036854775807 := by have := HAT.out; omega
              have b2 : (0 : Int) ≤ (a : Int) + 3 := by omega
              have b5 : (d.b.length : Int) ≤ (a : Int) + 3 := by omega
              have hout : B.length ≤ a + 3 := by omega
              have HX := Lib.hid hout
              clear hcl hfz hB hBl hout
              rw [e]
              go_wp2
              go_roundg (4 - 4)
              case measure => omega
              case rel =>
                refine ⟨4, B, by omega, rfl, rfl, HO, HB, ⟨?_⟩⟩
                have : spStep m a B 3 = B := spStep_out m a B 3 HX
                rw [← this, HL.out]
                rfl
          · have e : ((4 : Nat) : Int) = 4 := rfl
            have HHB := Lib.hid hB
            clear hcl hfz hB hBl
            rw [e]
            go_wp2
            go_ret
            refine ⟨rfl, ?_⟩
            rw [hK.symm, ← hGp]
            have hx : { x with b := spoilB m a x.b, sp := true } = Dg.abs { d with b := spoilB m a d.b, sp := true } := by rw [← hdx]; rfl
            have hlen4 : (spoilB m a d.b).length = d.b.length := spFold_len m a _ _
            have hBe : B = spoilB m a d.b := HL.out
            have hfin := spoil_close (d' := { d with b := spoilB m a d.b, sp := true }) hG hS hd' hg hgd rfl rfl rfl hgd rfl hlen4 rfl ⟨(fun e => by rw [hgd] at e; cases e), by rw [hlen4]; exact hdw.len, by rw [hlen4]; exact hdw.cap, spFold_byte m a _ _ hdw.byte⟩ (HO1.out) (HG1.out.trans (congrArg some (Row.put_obj hd' rfl rfl rfl (by simp only [Dg.val, hgd, hlen4]) rfl))) HO.out (by rw [HHB, hBe]; rfl)
            have hab : NetG.abs { G with way := G.way.put k { d with b := spoilB m a d.b, sp := true } } = { N with way := N.way.set k { x with b := spoilB m a x.b, sp := true } } := by
              rw [← hGN, hx]
              simp [NetG.abs, Row.put, List.map_set]
            rw [hab] at hfin
            exact hfin
      · have e0 : spoil0 N k at' m = (N, 93) := by
          have : (at' < 0 ∨ (x.b.length : Int) ≤ at') := by rw [hxb]; omega
          simp only [spoil0, ha, hxs, hsp, if_pos this]
          simp
        rw [e0]
        by_cases h0 : at' < 0
        · go_enter Try.func40, Try.ntmps40
          go_wp2_with (go_at_call 37; refine hh.mono ?_; rintro e w2 ⟨rfl, rfl⟩)
          go_ret
          exact ⟨rfl, .refl hN⟩
        · have h1 : (d.b.length : Int) ≤ at' := by omega
          go_enter Try.func40, Try.ntmps40
          go_wp2_with (go_at_call 37; refine hh.mono ?_; rintro e w2 ⟨rfl, rfl⟩)
          go_ret
          exact ⟨rfl, .refl hN⟩
end Go.Proofs.Ytehgneiiajpgpaa
