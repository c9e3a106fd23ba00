/- lex: LexBack walked: tokens spelt with blanks between are scanned as the same ones. -/
import Derived.Test.YtgkbmdlelcbmhaaDoorLpG
import Derived.Test.YtgkbmdlelcbmhaaDoorLpE
import Derived.Test.YtgkbmdlelcbmhaaDoorPLexx4
import Derived.Deep.RegionHeld3
namespace Go.Proofs.YtgkbmdlelcbmhaaDoor
open Go.RowKit Go.Proofs.YtgkbmdlelcbmhaaDoor.PLex Go.Proofs.YtgkbmdlelcbmhaaDoorW.PrintWords Go.Proofs.YtgkbmdlelcbmhaaDoorW.PrintLast Go.Proofs.YtgkbmdlelcbmhaaDoorW.PrintMore
set_option linter.all false

theorem spAll_app : ∀ (a : List S33) (t : S33), spAll (a ++ [t]) = spAll a ++ (spS t ++ [32])
  | [], t => by simp [spAll]
  | u :: a, t => by
    show spS u ++ 32 :: spAll (a ++ [t]) = spS u ++ 32 :: spAll a ++ (spS t ++ [32])
    rw [spAll_app a t]
    simp
theorem spAll_len (K : Nat) : ∀ a : List S33, (∀ t ∈ a, (spS t).length ≤ K) → (spAll a).length ≤ (K + 1) * a.length
  | [], _ => by simp [spAll]
  | u :: a, h => by
    have h1 := h u (by simp)
    have h2 := spAll_len K a (fun t ht => h t (List.mem_cons_of_mem _ ht))
    simp only [spAll, List.length_append, List.length_cons]
    rw [Nat.mul_add]
    omega
theorem ownF_below {w w' : World} {B n size : Nat} {e : TypeId} {v : Value} {xs : List Value} (h : w.ownsRowF B e size v n xs) (hb : Below w.heap.size w w') : w'.ownsRowF B e size v n xs := by
  refine ⟨h.1, ?_⟩
  rcases h.2 with hn | ⟨g, cap, cur, fz, hv, hbg, hgg, rest⟩
  · exact .inl hn
  · exact .inr ⟨g, cap, cur, fz, hv, hbg, (hb.block g (blk_lt hgg)).trans hgg, rest⟩
theorem cells_len (a : List UInt8) : (Lib.byteCells a).length = a.length := Lib.byteCells_length a
set_option maxHeartbeats 2000000 in
set_option maxRecDepth 100000 in
theorem back_walk (s : ByteArray) (w : World) (hG : Glob w) : Calls Tryd.prog 5 #[.string s] w fun e w' => e = .returned (.bool true) ∧ Below w.heap.size w w' := by
  obtain ⟨k1, A1⟩ := alive_ev.ex
  obtain ⟨k2, S1⟩ := (scan_all s).ex
  obtain ⟨L, at_, er, hR⟩ : ∃ L at_ er, scanA s = (L, at_, er) := ⟨_, _, _, rfl⟩
  rw [hR] at S1
  have HA := Lib.hid fun w hG => rookerylaw15_alive.calls k1 true w hG A1
  have HS := Lib.hid fun w hG => lex_Scan.calls k2 s L at_ er w hG S1
  have HG := Lib.hid hG
  clear A1 S1 hG
  by_cases he : er = 0
  · subst he
    have HR := Lib.hid hR
    have hll := scanA_len s
    rw [hR] at hll
    have hll : L.length ≤ 16385 := hll
    clear hR
    go_enter Tryd.func5, Tryd.ntmps5
    go_wp2_with fail
    refine (HA.out _ HG.out).mono ?_
    rintro e w1 ⟨rfl, b1⟩
    go_wp2_with fail
    refine (HS.out _ (HG.out.below b1)).mono ?_
    rintro e w2 ⟨v0, rfl, hv, b2⟩
    obtain ⟨A, c, rfl⟩ := Kd.S_slice hv
    obtain ⟨_, hc, hC⟩ := Kd.S_reads' hv
    have HV := Lib.hid hC
    have HC := Lib.hid hc
    have HB := Lib.hid (b1.trans (b2.mono b1.size))
    clear hv hc hC b1 b2
    obtain ⟨i0, hi, hz0, hz1, hz2⟩ := info_parts b_byte
    have hown0 : (w2.alloc (.cells #[] BU)).ownsRowF w2.heap.size BU 1 (.slice (some ⟨w2.heap.size, 0, none⟩) 0 0) 0 [] :=
      ⟨rfl, .inr ⟨w2.heap.size, 0, #[], (0, 0), rfl, Nat.le_refl _, heap_alloc_new w2 _, Nat.le_refl _, Nat.le_refl _, Nat.zero_le _, rfl, rfl⟩⟩
    have HO0 := Lib.hid hown0
    clear hown0
    go_wp2_with fail
    go_loopg [6, 7] L.length (fun gk v6 v7 wr => ∃ d : Nat, d ≤ L.length ∧ gk = L.length - d ∧ v7 = .int .i64 (d : Int) ∧ Aside0 (wr.ownsRowF w2.heap.size BU 1 v6 (spAll (L.take d)).length (Lib.byteCells (spAll (L.take d)))) ∧ Aside0 (Below w2.heap.size w2 wr))
    case atStart => exact ⟨0, Nat.zero_le _, rfl, rfl, ⟨HO0.out⟩, ⟨below_alloc (Below.refl _ _) _⟩⟩
    case round =>
      obtain ⟨d, hd, rfl, rfl, HO, HW⟩ := hrel
      by_cases hlt : (d : Int) < (L.length : Int)
      · have hlt1 : decide ((d : Int) < (L.length : Int)) = true := decide_eq_true hlt
        have hCr : Kd.C k33 wr A L.length L := Kd.C_below HV.out HW.out
        obtain ⟨ad, A3, c3, rfl, t0, t1, t2, t3, t4, hc3, hr3⟩ := at_T33 hCr (d : Int) (by omega) hlt
        obtain ⟨t, r, hdr⟩ : ∃ t r, L.drop d = t :: r := by
          cases h : L.drop d with
          | nil =>
            have := List.drop_eq_nil_iff.mp h
            omega
          | cons t r => exact ⟨t, r, rfl⟩
        obtain ⟨e1, hdl, _⟩ := rd_at L d t r hdr
        rw [e1] at t0 t1 t2 t3 t4 hc3 hr3
        rw [show (d : Int).toNat = d from rfl] at t0 t1 t2 t3 t4
        have hmem : t ∈ L := List.mem_of_mem_drop (by rw [hdr]; simp)
        obtain ⟨hgd, hb16⟩ := scan_tokens HR.out t hmem
        obtain ⟨g1, g2, g3, g4⟩ := spell_good hgd hb16
        have hgd2 : (spS t).length ≤ 70000 := g2
        have htake : L.take (d + 1) = L.take d ++ [t] := by
          rw [List.take_succ]
          congr 1
          have : L[d]? = some t := by
            have := List.getElem?_drop (xs := L) (i := d) (j := 0)
            rw [hdr] at this
            simpa using this.symm
          rw [this]
          rfl
        have hK : (spAll (L.take d)).length ≤ 70001 * 16385 := by
          have h1 := spAll_len 70000 (L.take d) (fun u hu => by
            obtain ⟨q1, q2⟩ := scan_tokens HR.out u (List.mem_of_mem_take hu)
            exact (spell_good q1 q2).2.1)
          rw [List.length_take] at h1
          refine Nat.le_trans h1 (Nat.mul_le_mul_left _ ?_)
          omega
        have SP := lex_Spell.calls t.f0 t.f1 t.f2 A3 c3 t.f3 t.f4 (arr (spS t)) wr (HG.out.below (HB.out.trans (HW.out.mono HB.out.size))) hr3 hc3 (by rw [spell_f t.f0 t.f1 t.f2 t.f3 t.f4 g4 (by omega) g3]; exact congrArg some g1)
        have HSP := Lib.hid SP
        have HK := Lib.hid hK
        have HT := Lib.hid htake
        have HGD := Lib.hid hgd2
        have HLT := Lib.hid hdl
        clear SP hK htake hgd2 hgd hb16 g1 g2 g3 g4 hmem hdr e1 hCr hr3 hdl
        have z0 : 0 ≤ (d : Int) := by omega
        go_wp2_with fail
        refine HSP.out.mono ?_
        rintro e w3 ⟨rfl, b3⟩
        have hown3 := ownF_below HO.out b3
        have hb3 : Below w2.heap.size w2 w3 := HW.out.trans (b3.mono HW.out.size)
        have hz3 : w2.heap.size ≤ w3.heap.size := hb3.size
        go_wp2_with (at_builtin; refine Lib.wpList_append_own_stringF _ rfl _ _ 31 9 rfl w2.heap.size BU i0 Tryd.underlying31 Tryd.underlying9 hi hz0 hz1 hz2 _ _ _ rfl hown3 (arr (spS t)) rfl ?c3 ?c4 hz3 ?_)
        case c3 => have := HK.out; have := HGD.out; rw [arr_size]; unfold maxLen; omega
        case c4 => have := HK.out; have := HGD.out; rw [arr_size]; omega
        intro v4 w4 hown4 hg4 _
        have hb4 : Below w2.heap.size w2 w4 := hb3.grown hg4 hz3 (fun k hk => (hown3.lt k hk).1)
        have hz4 : w2.heap.size ≤ w4.heap.size := hb4.size
        go_wp2_with (at_builtin; refine wpList_append_ownF _ rfl _ _ 31 rfl w2.heap.size BU i0 (.int .u8 0) 1 1 Tryd.underlying31 hi hz0 hz1 hz2 rfl (by decide) _ _ _ rfl (hown4.alloc _) ⟨w4.heap.size, 0, none⟩ 1 1 [.int .u8 32] rfl rfl ?d1 ?d2 ?d3 ?d4 ?d5 ?_)
        case d1 =>
          intro j u hj
          match j, hj with
          | 0, hj => simp at hj; subst hj; simp [Addr.add]
        case d2 => intro u hu; simp at hu; subst hu; rfl
        case d3 => have := HK.out; have := HGD.out; rw [arr_size]; unfold maxLen; omega
        case d4 => have := HK.out; have := HGD.out; rw [arr_size]; omega
        case d5 => simp; omega
        intro v5 w5 hown5 hg5 _
        have hb5 : Below w2.heap.size w2 w5 := (hb4.alloc hz4 _).grown hg5 (by simp; omega) (fun k hk => (hown4.lt k hk).1)
        have hcells : Lib.byteCells (spAll (L.take d)) ++ (Lib.strCells (arr (spS t)) ++ [.int .u8 32]) = Lib.byteCells (spAll (L.take (d + 1))) := by
          rw [HT.out, spAll_app]
          simp [Lib.byteCells, Lib.strCells, arr]
        have hn5 : (spAll (L.take d)).length + (arr (spS t)).size + 1 = (spAll (L.take (d + 1))).length := by
          rw [HT.out, spAll_app, arr_size]
          simp
          omega
        rw [hcells, hn5] at hown5
        have HO5 := Lib.hid hown5
        have HB5 := Lib.hid hb5
        clear hown5 hb5 hg5 hcells hn5 hb4 hown4 hg4 hb3 hown3 b3
        go_wp2_with fail
        go_roundg (L.length - (d + 1))
        case measure => have := HLT.out; omega
        case rel => exact ⟨d + 1, by have := HLT.out; omega, rfl, by simp, ⟨HO5.out⟩, ⟨HB5.out⟩⟩
      · have hlt1 : decide ((d : Int) < (L.length : Int)) = false := decide_eq_false hlt
        have hdd : d = L.length := by omega
        subst hdd
        have hown := HO.out
        rw [List.take_length] at hown
        obtain ⟨ao, co, rfl⟩ : ∃ ao co, u6 = .slice ao (spAll L).length co := by
          rcases hown.2 with ⟨hv, h0⟩ | ⟨g, cap, cur, fz, hv, _⟩
          · exact ⟨none, 0, by rw [hv, h0]⟩
          · exact ⟨_, _, hv⟩
        clear hlt
        by_cases hbig : 16384 < (spAll L).length
        · have hbig1 : decide (16384 < ((spAll L).length : Int)) = true := decide_eq_true (by omega)
          clear hown hbig
          go_wp2_with fail
          go_ret
          exact ⟨rfl, HB.out.trans (HW.out.mono HB.out.size)⟩
        · have hbig1 : decide (16384 < ((spAll L).length : Int)) = false := decide_eq_false (by omega)
          have hrd : Kd.C (Kd.int .u8) wr ao (spAll L).length (numsU (spAll L)) := by
            refine ⟨numsU_len _, by omega, fun hn => ?_⟩
            rcases hown.2 with ⟨_, h0⟩ | ⟨g, cap, cur, fz, hv, hbg, hgg, hrest⟩
            · omega
            · obtain rfl : ao = some ⟨g, 0, none⟩ := by
                injection hv
              refine ⟨⟨g, 0, none⟩, rfl, fun j p hj => ⟨[.int .u8 p], rfl, rfl, fun i u hu => ?_⟩⟩
              cases i with
              | succ i => simp at hu
              | zero =>
                have hu : Value.int .u8 p = u := by simpa using hu
                subst hu
                rw [show (Kd.int .u8).sz = 1 from rfl, show j * 1 + 0 = j by omega]
                refine hown.cells (g := g) rfl j _ ?_
                unfold numsU at hj
                unfold Lib.byteCells
                rw [List.getElem?_map] at hj ⊢
                cases h : (spAll L)[j]? with
                | none => rw [h] at hj; cases hj
                | some b =>
                  rw [h] at hj
                  injection hj with hj
                  rw [← hj]
                  rfl
          have cv := Kd.C_string (c := co) Tryd.underlying31 Tryd.underlying5 Tryd.underlying9 hrd
          rw [str_numsU] at cv
          clear hown hrd
          obtain ⟨M, hM, hS2⟩ := back_scan HR.out (by omega)
          obtain ⟨hML, hat⟩ := same2_at M L hS2
          obtain ⟨k3, S3⟩ := (scan_all (arr (spAll L))).ex
          rw [hM] at S3
          have HS3 := Lib.hid (lex_Scan.calls k3 (arr (spAll L)) M 0 0 wr (HG.out.below (HB.out.trans (HW.out.mono HB.out.size))) S3)
          have HAT := Lib.hid hat
          have hne1 : ((M.length : Int) != (L.length : Int)) = false := by
            rw [hML]
            simp
          have hne2 : (decide ((M.length : Int) = (L.length : Int))) = true := by
            rw [hML]
            simp
          have HML := Lib.hid hML
          clear hM hS2 hML hat S3 hbig
          go_wp2_with fail
          refine HS3.out.mono ?_
          rintro e w6 ⟨vm, rfl, hvm, b6⟩
          obtain ⟨AM, cM, rfl⟩ := Kd.S_slice hvm
          obtain ⟨_, hcM, hCM⟩ := Kd.S_reads' hvm
          have HVM := Lib.hid hCM
          have HB6 := Lib.hid (HW.out.trans (b6.mono HW.out.size))
          clear hvm hCM b6 cv
          go_wp2_with fail
          obtain ⟨wo, rfl⟩ : ∃ wo : World, wo = wr := ⟨_, rfl⟩
          go_loopg [11] L.length (fun gk v11 wq => ∃ d : Nat, d ≤ L.length ∧ gk = L.length - d ∧ v11 = .int .i64 (d : Int) ∧ Aside0 (Below w6.heap.size w6 wq))
          case atStart => exact ⟨0, Nat.zero_le _, rfl, rfl, ⟨Below.refl _ _⟩⟩
          case round =>
            obtain ⟨d, hd, rfl, rfl, HQ⟩ := hrel
            have HE := Lib.hid (HB.out.trans ((HB6.out.trans (HQ.out.mono HB6.out.size)).mono HB.out.size))
            by_cases hlt : (d : Int) < (L.length : Int)
            · have hlt1 : decide ((d : Int) < (L.length : Int)) = true := decide_eq_true hlt
              have hCr : Kd.C k33 wr A L.length L := Kd.C_below HV.out (HB6.out.trans (HQ.out.mono HB6.out.size))
              have hCm : Kd.C k33 wr AM M.length M := Kd.C_below HVM.out HQ.out
              have hltM : (d : Int) < (M.length : Int) := by rw [HML.out]; exact hlt
              obtain ⟨ad, A3, c3, rfl, t0, t1, t2, t3, t4, hc3, hr3⟩ := at_T33 hCr (d : Int) (by omega) hlt
              obtain ⟨am, B3, e3, rfl, u0, u1, u2, u3, u4, he3, hs3⟩ := at_T33 hCm (d : Int) (by omega) hltM
              obtain ⟨t, r, hdr⟩ : ∃ t r, L.drop d = t :: r := by
                cases h : L.drop d with
                | nil =>
                  have := List.drop_eq_nil_iff.mp h
                  omega
                | cons t r => exact ⟨t, r, rfl⟩
              obtain ⟨u, q, hdm, hsame⟩ := HAT.out d t r hdr
              obtain ⟨e1, hdl, _⟩ := rd_at L d t r hdr
              obtain ⟨e2, hdl2, _⟩ := rd_at M d u q hdm
              rw [e1] at t0 t1 t2 t3 t4 hc3 hr3
              rw [e2] at u0 u1 u2 u3 u4 he3 hs3
              rw [show (d : Int).toNat = d from rfl] at t0 t1 t2 t3 t4 u0 u1 u2 u3 u4
              have SM := rookeryref15_Same.calls t.f0 t.f1 t.f2 A3 c3 t.f3 t.f4 u.f0 u.f1 u.f2 B3 e3 u.f3 u.f4 true wr.drew (Kd.C_below hr3 (Below.drew (Below.refl _ _))) hc3 (Kd.C_below hs3 (Below.drew (Below.refl _ _))) he3 (same_self hsame.symm)
              have HSM := Lib.hid SM
              have HDL := Lib.hid hdl
              have z0 : 0 ≤ (d : Int) := by omega
              clear SM hsame hdr hdm e1 e2 hCr hCm hr3 hs3 hdl hdl2
              go_wp2_with fail
              go_region_held3 (fun w' => w'.cell? (ad.add (d * 5)) = some (.int .i64 t.f0) ∧ w'.cell? ⟨(ad.add (d * 5)).block, (ad.add (d * 5)).off + 1, none⟩ = some (.string t.f1) ∧ w'.cell? ⟨(ad.add (d * 5)).block, (ad.add (d * 5)).off + 2, none⟩ = some (.int .i64 t.f2) ∧ w'.cell? ⟨(ad.add (d * 5)).block, (ad.add (d * 5)).off + 3, none⟩ = some (.slice A3 t.f3.length c3) ∧ w'.cell? ⟨(ad.add (d * 5)).block, (ad.add (d * 5)).off + 4, none⟩ = some (.int .i64 t.f4) ∧ w'.cell? (am.add (d * 5)) = some (.int .i64 u.f0) ∧ w'.cell? ⟨(am.add (d * 5)).block, (am.add (d * 5)).off + 1, none⟩ = some (.string u.f1) ∧ w'.cell? ⟨(am.add (d * 5)).block, (am.add (d * 5)).off + 2, none⟩ = some (.int .i64 u.f2) ∧ w'.cell? ⟨(am.add (d * 5)).block, (am.add (d * 5)).off + 3, none⟩ = some (.slice B3 u.f3.length e3) ∧ w'.cell? ⟨(am.add (d * 5)).block, (am.add (d * 5)).off + 4, none⟩ = some (.int .i64 u.f4)) (first | go_keep | exact ⟨(b8.cell (World.block_lt_of_cell? wr.drew _ t0)).trans t0, (b8.cell (World.block_lt_of_cell? wr.drew _ t1)).trans t1, (b8.cell (World.block_lt_of_cell? wr.drew _ t2)).trans t2, (b8.cell (World.block_lt_of_cell? wr.drew _ t3)).trans t3, (b8.cell (World.block_lt_of_cell? wr.drew _ t4)).trans t4, (b8.cell (World.block_lt_of_cell? wr.drew _ u0)).trans u0, (b8.cell (World.block_lt_of_cell? wr.drew _ u1)).trans u1, (b8.cell (World.block_lt_of_cell? wr.drew _ u2)).trans u2, (b8.cell (World.block_lt_of_cell? wr.drew _ u3)).trans u3, (b8.cell (World.block_lt_of_cell? wr.drew _ u4)).trans u4⟩) (first | (go_at_call 21; refine HSM.out.mono ?_; rintro e w8 ⟨rfl, b8⟩))
              have HB8 := Lib.hid b8
              clear b8
              go_wp2_with fail
              go_roundg (L.length - (d + 1))
              case measure => have := HDL.out; omega
              case rel => exact ⟨d + 1, by have := HDL.out; omega, rfl, by simp, ⟨HQ.out.trans (((Below.drew (Below.refl _ _)).trans HB8.out).mono HQ.out.size)⟩⟩
            · have hlt1 : decide ((d : Int) < (L.length : Int)) = false := decide_eq_false hlt
              obtain rfl : d = L.length := by omega
              clear hlt
              go_wp2_with fail
              go_ret
              exact ⟨rfl, HE.out⟩
  · have hL : L = [] := by
      unfold scanA at hR
      split at hR
      · exact ((Prod.mk.inj hR).1).symm
      · split at hR
        · exact absurd ((Prod.mk.inj (Prod.mk.inj hR).2).2).symm he
        · exact ((Prod.mk.inj hR).1).symm
    subst hL
    clear hR
    have h2 : (er == 0) = false := by simpa using he
    have h3 : (er != 0) = true := by simpa using he
    clear he
    go_enter Tryd.func5, Tryd.ntmps5
    go_wp2_with fail
    refine (HA.out _ HG.out).mono ?_
    rintro e w1 ⟨rfl, b1⟩
    go_wp2_with fail
    refine (HS.out _ (HG.out.below b1)).mono ?_
    rintro e w2 ⟨v0, rfl, hv, b2⟩
    obtain ⟨A, c, rfl⟩ := Kd.S_slice hv
    clear hv
    go_wp2_with fail
    go_ret
    exact ⟨rfl, b1.trans (b2.mono b1.size)⟩
end Go.Proofs.YtgkbmdlelcbmhaaDoor
