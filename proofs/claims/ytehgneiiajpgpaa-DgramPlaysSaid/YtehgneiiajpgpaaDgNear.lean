/- dgram: near. -/
import Derived.Test.YtehgneiiajpgpaaDgKp
namespace Go.Proofs.Ytehgneiiajpgpaa
open Go.RowKit
set_option linter.all false
set_option maxHeartbeats 2000000
set_option maxRecDepth 100000

theorem BytesAt.some {w : World} {A : Option Addr} {n c : Nat} {b : List Int} (h : BytesAt w (.slice A n c) b) (hb : b ≠ []) : ∃ g off, A = some ⟨g, off, none⟩ ∧ n = b.length ∧ ∀ j x, b[j]? = some x → w.cell? ⟨g, off + j, none⟩ = some (.int .u8 x) := by
  obtain ⟨A', c', h1, h2, h3⟩ := h
  simp only [Value.slice.injEq] at h1
  obtain ⟨rfl, rfl, rfl⟩ := h1
  cases A with
  | none => exact absurd (h2 rfl) hb
  | some ad =>
    have hsp : ad.spot = none := by
      cases b with
      | nil => exact absurd rfl hb
      | cons x l =>
        have h0 := h3 ad rfl 0 x rfl
        have e : ad.add 0 = ad := rfl
        rw [e] at h0
        unfold World.cell? at h0
        cases hs : ad.spot with
        | none => rfl
        | some p =>
          rw [hs] at h0
          split at h0
          · simp at h0
          · cases h0
    obtain ⟨g, off, sp⟩ := ad
    obtain rfl : sp = none := hsp
    refine ⟨g, off, rfl, rfl, fun j x hj => ?_⟩
    have := h3 _ rfl j x hj
    rwa [Addr.add_lit] at this
theorem near_eq (w : World) (A A' : Option Addr) (c c' : Nat) (b : List Int) (sp : Bool) (h1 : BytesAt w (.slice A b.length c) b) (h2 : BytesAt w (.slice A' b.length c') b) (hl : b.length ≤ 140737488355328) :
    Calls Try.prog 23 #[.slice A b.length c, .slice A' b.length c', .bool sp] w fun e w' => e = .returned (.bool true) ∧ Only w w' [] := by
  have HB1 := Aside0.mk h1
  have HB2 := Aside0.mk h2
  clear h1 h2
  go_enter Try.func23, Try.ntmps23
  go_wp2
  go_loopg [7, 8, 9] b.length (fun gk v7 v8 v9 wr => ∃ i : Nat, i ≤ b.length ∧ gk = b.length - i ∧ v9 = .int .i64 (i : Int) ∧ v7 = .int .i64 (-1) ∧ v8 = .int .i64 (-1) ∧ Aside0 (Only w wr []))
  case atStart => exact ⟨0, Nat.zero_le _, rfl, rfl, rfl, rfl, ⟨Only.refl _ _⟩⟩
  case round =>
    obtain ⟨i, hi, rfl, rfl, rfl, rfl, HO⟩ := hrel
    by_cases hlt : i < b.length
    · obtain ⟨y, hy⟩ : ∃ y, b[i]? = some y := ⟨_, List.getElem?_eq_getElem hlt⟩
      have hne : b ≠ [] := fun e => by rw [e] at hlt; simp at hlt
      obtain ⟨g, off, rfl, _, hc⟩ := (HB1.out.only HO.out).some hne
      obtain ⟨g', off', rfl, _, hc'⟩ := (HB2.out.only HO.out).some hne
      have q := hc i y hy
      have q' := hc' i y hy
      have z0 : (0 : Int) ≤ (i : Int) := by omega
      have z1 : (i : Int) < (b.length : Int) := by omega
      have HY := Aside0.mk hlt
      clear hc hc' hy hlt hi
      go_wp2
      go_region
      all_goals go_wp2
      all_goals (
        go_roundg (b.length - (i + 1))
        case measure => have := HY.out; omega
        case rel => exact ⟨i + 1, HY.out, rfl, by simp, rfl, rfl, ⟨HO.out.trans (Only.drew wr []) (by simp)⟩⟩)
    · have hii : i = b.length := by omega
      subst hii
      clear hlt hi
      go_wp2
      go_ret
      exact ⟨rfl, HO.out⟩
theorem near_sp (w : World) (A A' : Option Addr) (c c' : Nat) (a b : List Int) (hab : a.length = b.length) (p : Nat) (hp : ∀ i, (i < p ∨ p + 4 ≤ i) → a[i]? = b[i]?) (h1 : BytesAt w (.slice A a.length c) a) (h2 : BytesAt w (.slice A' b.length c') b) (hl : b.length ≤ 140737488355328) :
    Calls Try.prog 23 #[.slice A a.length c, .slice A' b.length c', .bool true] w fun e w' => e = .returned (.bool true) ∧ Only w w' [] := by
  have HB1 := Aside0.mk h1
  have HB2 := Aside0.mk h2
  have HP := Aside0.mk hp
  clear h1 h2 hp
  rw [hab]
  go_enter Try.func23, Try.ntmps23
  go_wp2
  go_loopg [7, 8, 9] b.length (fun gk v7 v8 v9 wr => ∃ (i : Nat) (f l : Int), i ≤ b.length ∧ gk = b.length - i ∧ v9 = .int .i64 (i : Int) ∧ v7 = .int .i64 f ∧ v8 = .int .i64 l ∧ Aside0 ((f = -1 ∧ l = -1) ∨ ((p : Int) ≤ f ∧ f ≤ l ∧ l < (p : Int) + 4 ∧ l < i)) ∧ Aside0 (Only w wr []))
  case atStart => exact ⟨0, -1, -1, Nat.zero_le _, rfl, rfl, rfl, rfl, ⟨.inl ⟨rfl, rfl⟩⟩, ⟨Only.refl _ _⟩⟩
  case round =>
    obtain ⟨i, f, l, hi, rfl, rfl, rfl, rfl, HF, HO⟩ := hrel
    by_cases hlt : i < b.length
    · obtain ⟨y, hy⟩ : ∃ y, a[i]? = some y := ⟨_, List.getElem?_eq_getElem (by omega)⟩
      obtain ⟨z, hz⟩ : ∃ z, b[i]? = some z := ⟨_, List.getElem?_eq_getElem hlt⟩
      have hne : b ≠ [] := fun e => by rw [e] at hlt; simp at hlt
      have hne' : a ≠ [] := fun e => by rw [e] at hab; simp at hab; omega
      obtain ⟨g, off, rfl, _, hc⟩ := (HB1.out.only HO.out).some hne'
      obtain ⟨g', off', rfl, _, hc'⟩ := (HB2.out.only HO.out).some hne
      have q := hc i y hy
      have q' := hc' i z hz
      have z0 : (0 : Int) ≤ (i : Int) := by omega
      have z1 : (i : Int) < (b.length : Int) := by omega
      have HY := Aside0.mk hlt
      have hin : y ≠ z → p ≤ i ∧ i < p + 4 := fun hyz => by
        rcases Nat.lt_or_ge i p with h | h
        · exact absurd (Option.some.inj ((hy.symm.trans (HP.out i (.inl h))).trans hz)) hyz
        · rcases Nat.lt_or_ge i (p + 4) with h' | h'
          · exact ⟨h, h'⟩
          · exact absurd (Option.some.inj ((hy.symm.trans (HP.out i (.inr h'))).trans hz)) hyz
      have HIN := Aside0.mk hin
      clear hc hc' hy hz hlt hi hin
      by_cases hyz : y = z
      · subst hyz
        go_wp2
        go_region
        all_goals go_wp2
        all_goals (
          go_roundg (b.length - (i + 1))
          case measure => have := HY.out; omega
          case rel => exact ⟨i + 1, f, l, HY.out, rfl, by simp, rfl, rfl, ⟨by rcases HF.out with h | h; exact .inl h; exact .inr ⟨h.1, h.2.1, h.2.2.1, by omega⟩⟩, ⟨HO.out.trans (Only.drew wr []) (by simp)⟩⟩)
      · have hyz2 : ¬ (y = z) := hyz
        by_cases hf : f < 0
        · go_wp2
          go_region
          all_goals go_wp2
          all_goals (
            go_roundg (b.length - (i + 1))
            case measure => have := HY.out; omega
            case rel => exact ⟨i + 1, i, i, HY.out, rfl, by simp, rfl, rfl, ⟨.inr (by have := HIN.out hyz; omega)⟩, ⟨HO.out.trans (Only.drew wr []) (by simp)⟩⟩)
        · have hf2 : ¬ (f < 0) := hf
          go_wp2
          go_region
          all_goals go_wp2
          all_goals (
            go_roundg (b.length - (i + 1))
            case measure => have := HY.out; omega
            case rel => exact ⟨i + 1, f, i, HY.out, rfl, by simp, rfl, rfl, ⟨.inr (by have := HIN.out hyz; rcases HF.out with h | h <;> omega)⟩, ⟨HO.out.trans (Only.drew wr []) (by simp)⟩⟩)
    · have hii : i = b.length := by omega
      subst hii
      clear hlt hi
      by_cases hf : f < 0
      · go_wp2
        go_ret
        exact ⟨rfl, HO.out⟩
      · have hq : l - f < 4 := by rcases HF.out with h | h <;> omega
        have hq2 : 0 ≤ f := by omega
        have hq3 : f ≤ l := by rcases HF.out with h | h <;> omega
        have hq4 : l ≤ 9223372036854775807 := by rcases HF.out with h | h <;> omega
        go_wp2
        go_ret
        exact ⟨rfl, HO.out⟩
/-- near tells those that are near. -/
theorem near_c (w : World) (A A' : Option Addr) (c c' : Nat) (a b : List Int) (sp : Bool) (hn : Near a b sp) (h1 : BytesAt w (.slice A a.length c) a) (h2 : BytesAt w (.slice A' b.length c') b) (hl : b.length ≤ 140737488355328) :
    Calls Try.prog 23 #[.slice A a.length c, .slice A' b.length c', .bool sp] w fun e w' => e = .returned (.bool true) ∧ Only w w' [] := by
  obtain ⟨hab, h | ⟨rfl, p, hp⟩⟩ := hn
  · subst h
    exact near_eq w A A' c c' a sp h1 h2 hl
  · exact near_sp w A A' c c' a b hab p hp h1 h2 hl
end Go.Proofs.Ytehgneiiajpgpaa
