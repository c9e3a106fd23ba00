/- DgramNil: whatever the call that comes in, the law answers true. No condition. -/
import Derived.Test.YtehgneiiajpgpaaDgX
import Derived.Test.YtehgneiiajpgpaaRows
import Derived.WalkKit
import Derived.ProofKit
import Derived.OpenShut
import Derived.ChangeOld
import Derived.Below
import Derived.SizedLaws
import Derived.Carry
namespace Go.Proofs.Ytehgneiiajpgpaa
open Go.RowKit Go.ChangeShapes Go.WideShapes
set_option linter.all false
set_option maxHeartbeats 2000000
set_option maxRecDepth 100000

theorem OpAt.only {w w' : World} {o : Op0} {A : Option Addr} {c : Nat} {b : List Int} (h : OpAt w o A c b) (ho : Only w w' []) : BytesAt w' (.slice A b.length c) b := h.bytes.only ho
theorem dgramNil_walk (o : Op0) (A : Option Addr) (c : Nat) (b : List Int) (w : World) (hO : OpAt w o A c b) (hlb : b.length ≤ 140737488355328) :
    Calls Try.prog 8 #[.agg (opCells o A b.length c)] w fun e w' => e = .returned (.bool true) ∧ Only w w' [] := by
  obtain ⟨kd, f, t, i, at', m⟩ := o
  obtain ⟨w1, hw1⟩ : ∃ w1, w1 = w.alloc (.cells (opCells ⟨kd, f, t, i, at', m⟩ A b.length c) 51) := ⟨_, rfl⟩
  have o1 : Only w w1 [] := by rw [hw1]; exact Only.alloc w _ []
  have b1 : w1.heap[w.heap.size]? = some (.cells (opCells ⟨kd, f, t, i, at', m⟩ A b.length c) 51 (0, 0)) := by rw [hw1]; exact heap_alloc_new w _
  have hl1 : w.heap.size < w1.heap.size := (Array.getElem?_eq_some_iff.1 b1).1
  have HB := Aside0.mk hO.bytes
  clear hO
  go_enter Try.func8, Try.ntmps8
  go_wp2_with (go_at_call 12; rw [← hw1]; clear hw1; refine (alive_c w1).mono ?_; rintro e w2 ⟨rfl, o2⟩)
  have b2 : w2.heap[w.heap.size]? = some (.cells (opCells ⟨kd, f, t, i, at', m⟩ A b.length c) 51 (0, 0)) := (o2.block _ hl1 (by simp)).trans b1
  have o12 : Only w w2 [] := o1.trans o2 (by simp)
  have hl2 : w.heap.size < w2.heap.size := (Array.getElem?_eq_some_iff.1 b2).1
  have HO := Aside0.mk o12
  have HK2 := Aside0.mk b2
  clear o1 o2 b1 b2 hl1 o12
  go_loopg [4] 7 (fun gk v4 wr => ∃ (d : Nat) (x : Int), d ≤ 7 ∧ gk = 7 - d ∧ v4 = .int .i64 (d : Int) ∧ Aside0 (Only w2 wr [w.heap.size]) ∧ Aside0 (wr.heap[w.heap.size]? = some (.cells (opCells ⟨x, f, t, i, at', m⟩ A b.length c) 51 (0, 0))))
  case atStart => exact ⟨0, kd, by omega, rfl, rfl, ⟨Only.refl _ _⟩, HK2⟩
  case round =>
    obtain ⟨d, x, hd, rfl, rfl, HW, HC⟩ := hrel
    have hc := HC.out
    obtain ⟨x0, x1, x2, x3, x4, x5, x6⟩ := blk7 hc
    have f0 : wr.frozen? ⟨w.heap.size, 0, none⟩ = false := Lib.frozen_of_heap hc 0
    have hwr : Only w wr [] := HO.out.trans HW.out (by simp)
    have HWR := Aside0.mk hwr
    clear hc hwr
    by_cases hlt : d = 7
    · subst hlt
      go_wp2_with (first
        | (go_at_call 15; refine (flight_nil _).mono ?_; rintro e w5 ⟨rfl, rfl⟩)
        | (go_at_call 19; refine (box_nil _ _).mono ?_; rintro e w5 ⟨rfl, rfl⟩)
        | (go_at_call 16; refine (lost_nil _).mono ?_; rintro e w5 ⟨rfl, rfl⟩))
      go_ret
      exact ⟨rfl, HWR.out⟩
    · have hlt1 : (d : Int) < 7 := by omega
      have hd6 : d ≤ 6 := by omega
      obtain ⟨ws, hws⟩ : ∃ ws, ws = wr.setCell ⟨w.heap.size, 0, none⟩ (.int .i64 (d : Int)) := ⟨_, rfl⟩
      have hcs : ws.heap[w.heap.size]? = some (.cells (opCells ⟨(d : Int), f, t, i, at', m⟩ A b.length c) 51 (0, 0)) := by
        rw [hws]
        refine (heap_setCell HC.out 0 _).trans ?_
        rfl
      have os : Only wr ws [w.heap.size] := by rw [hws]; exact Only.setCell wr ⟨w.heap.size, 0, none⟩ _
      obtain ⟨y0, y1, y2, y3, y4, y5, y6⟩ := blk7 hcs
      have hdo := do_nil ws ⟨(d : Int), f, t, i, at', m⟩ A c b ⟨by show (0 : Int) ≤ d; omega, by show (d : Int) ≤ 6; omega⟩ (HB.out.only (HWR.out.trans os (by simp))) hlb
      have HDO := Aside0.mk hdo
      have HCS := Aside0.mk hcs
      have HOS := Aside0.mk os
      clear hdo hcs os hlb
      go_wp2_with (go_at_call 22; rw [← hws]; clear hws; refine HDO.out.mono ?_; rintro e w5 ⟨rfl, o5⟩)
      go_roundg (7 - (d + 1))
      case measure => omega
      case rel =>
        have o6 : Only ws _ [] := o5.trans (Only.alloc w5 (.cells #[.int .i64 0, .int .i64 0, .int .u64 0, .slice none 0 0, .bool false] 54) []) (by simp)
        refine ⟨d + 1, (d : Int), by omega, rfl, by simp, ⟨(HW.out.trans HOS.out (by simp)).trans o6 (by simp)⟩, ⟨?_⟩⟩
        exact (o6.block _ (Array.getElem?_eq_some_iff.1 HCS.out).1 (by simp)).trans HCS.out
namespace dgramNil
open Go.ChangeAt
theorem own : ownKnob Try.prog.godebug = none := by kernel_rfl
theorem laidOut : laidOutB Try.prog = true := by kernel_rfl
set_option maxRecDepth 100000 in
theorem lifted (os : Os) (started : os.Started) (H : Type) (enc : TypeId × Value → H) :
    ReturnsInHanded {} Try.checked os 8 .any (Rows.dgramNilSpec.pre6 enc Try.prog Try.f8 Rows.dgramNilRow.domain false) (Rows.dgramNilSpec.post enc Try.prog Try.f8 false true false false) := by
  refine returnsInHanded_of_change_sized (C := Try.checked) own started (by kernel_rfl) Try.func8
    (ChangeSpec.witness6 (enc := enc) (C := Try.checked) false ⟨#[], #[.agg #[.int .i64 0, .int .i64 0, .int .i64 0, .int .i64 0, .int .i64 0, .int .u32 0, .slice none 0 0]], []⟩ 8 (by kernel_rfl) (by kernel_rfl) (by kernel_rfl) (by kernel_rfl)) ?_
  intro W base args ds gs before hval0 hW hcnd hsz _
  have hval : ∀ (j : Nat) t v, Try.f8.params[j]? = some t → args[j]? = some v → Value.okWide Try.prog W .any base t v := hval0
  have hW' := hW
  obtain ⟨p, q, hA0, hV, rfl, hfz, hnd⟩ := hW
  have hA : DataW.TrodAll enc Try.prog W 0 (fun _ => true) true Try.f8.params.toList args.toList ds p := hA0
  rw [Try.params8] at hA hval hsz
  obtain ⟨v0, vs0, d0, ds0, p0, q0, hargs, rfl, rfl, h0, r0⟩ := trodAll_cons hA
  obtain ⟨rfl, rfl, rfl⟩ := trodAll_nil r0
  obtain rfl : args = #[v0] := by cases args; simp_all
  obtain ⟨rfl, rfl⟩ := trodVars_none hV
  have h0k := h0
  have hlt0 : ∀ x ∈ p0, x.block < W.heap.size := fun x hx => by simpa using hW'.lt x (by simp [hx])
  obtain ⟨cs, rfl, hcs⟩ := okWide_struct Try.underlying51 (hval 0 51 v0 rfl rfl)
  obtain ⟨fuel, hf⟩ := h0
  obtain ⟨o, A, c, b, hcs2, hop, hR⟩ := open_op hf
  have hcs3 : cs = opCells o A b.length c := by
    have : (Value.agg cs).cells = (opCells o A b.length c).toList.toArray := by
      rw [← hcs2]
    simpa [Value.cells] using this
  subst hcs3
  have hlb : b.length ≤ 140737488355328 := by
    refine hR _ (fun n hn => ?_)
    have hall := List.all_eq_true.1 hsz n (DataW.weights_mem_each (j := 0) (t := 51) rfl rfl n hn)
    have hr := reachBytes_lt
    have : n ≤ reachBytes := by simpa using hall
    omega
  refine (dgramNil_walk o A c b W hop hlb).mono fun e W' ⟨he, ho⟩ => ?_
  subst he
  have bel : Below W.heap.size W W' := ho.below (by simp) (Nat.le_refl _)
  simp only [List.append_nil] at hW'
  exact ⟨_, rfl, _, _, _, [], _, [], hW', trodAll_mk1 (shut_bool Try.underlying4 _), trodAll_cons_mk (Below.trod laidOut (by kernel_rfl) (of_decide_eq_true (by kernel_rfl)) h0k bel hlt0) trodAll_mk0, rfl, bel.frame _, fun h => by cases h⟩
theorem over : Rows.dgramNilRow.holds Try.pinned (OpenSpec.ofChange Rows.dgramNilSpec) :=
  OpenClaim.holds_of_wide 8 Try.f8 rfl rfl rfl rfl rfl rfl rfl ⟨rfl, rfl, rfl, rfl, rfl⟩ rfl rfl rfl rfl rfl (by kernel_rfl) Try.func8 (by kernel_rfl)
    (of_decide_eq_true (by kernel_rfl)) (by unfold Func.isWrapper; first | (rw [if_pos (by decide +kernel)]; kernel_rfl) | (rw [if_neg (by decide +kernel)]; exact ⟨rfl, rfl⟩))
    (fun os started H enc _ => lifted os started H enc)
end dgramNil
theorem dgramNil_holds : Rows.DgramNilSaid := dgramNil.over
#print axioms dgramNil_holds
end Go.Proofs.Ytehgneiiajpgpaa
