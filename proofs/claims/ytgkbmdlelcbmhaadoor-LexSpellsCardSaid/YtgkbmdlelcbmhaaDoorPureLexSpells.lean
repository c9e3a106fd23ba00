/- lex, the plain law: LexSpells, the pure statement. -/
import Derived.Test.YtgkbmdlelcbmhaaDoorLpF
import Derived.Test.YtgkbmdlelcbmhaaDoorLpE
import Derived.Test.YtgkbmdlelcbmhaaDoorPLexx4
namespace Go.Proofs.YtgkbmdlelcbmhaaDoor.Pure
open Go.RowKit Go.Proofs.YtgkbmdlelcbmhaaDoor Go.Proofs.YtgkbmdlelcbmhaaDoor.PLex Go.Proofs.YtgkbmdlelcbmhaaDoorW.PrintWords
set_option linter.all false

theorem ref_word (s : ByteArray) : rookeryref15_Word.f s = some (lexWord s) := by
  rw [word_law]
  unfold rookeryref15_Word.f
  rw [toList_data]
  generalize s.data.toList = L
  by_cases h1 : L = [99, 97, 115, 101]
  · rw [if_pos h1, h1]; rfl
  by_cases h2 : L = [111, 102]
  · rw [if_neg h1, if_pos h2, h2]; rfl
  by_cases h3 : L = [101, 110, 100]
  · rw [if_neg h1, if_neg h2, if_pos h3, h3]; rfl
  by_cases h4 : L = [114, 101, 99, 101, 105, 118, 101]
  · rw [if_neg h1, if_neg h2, if_neg h3, if_pos h4, h4]; rfl
  by_cases h5 : L = [97, 102, 116, 101, 114]
  · rw [if_neg h1, if_neg h2, if_neg h3, if_neg h4, if_pos h5, h5]; rfl
  rw [if_neg h1, if_neg h2, if_neg h3, if_neg h4, if_neg h5]
  by_cases h6 : L = [114, 101, 109]
  · rw [h6]; rfl
  · simp [wordL, h1, h2, h3, h4, h5, h6]
theorem LexSpells (kd : Int) (s : ByteArray) (n : Int) (b : List Int) (p : Int) (x : ByteArray) (hb : ∀ v ∈ b, 0 ≤ v ∧ v < 256) (hn : n ≤ 9223372036854775807) (hx : x.size ≤ 140737488351232) :
    ∃ k, rookerylaw15_LexSpells.f k kd s n b p x = some true := by
  refine Ev.ex (f := fun k => rookerylaw15_LexSpells.f k kd s n b p x) (a := true) ?_
  unfold rookerylaw15_LexSpells.f
  refine Ev.bind alive_ev (Ev.iteT rfl ?_)
  by_cases hl : (b.length : Int) > 65536
  · exact Ev.iteT hl (Ev.pure _)
  refine Ev.iteF hl ?_
  have hl' : b.length ≤ 65536 := by omega
  have hw : lex_Word.f x = some (lexWord x) := by
    unfold lex_Word.f
    rw [if_pos (by omega)]
  simp only [spell_f kd s n b p hb hl' hn, hw, ref_word, Option.bind_some]
  refine Ev.bind (rspell_all kd s n b p hb hl' hn) (Ev.iteT rfl ?_)
  exact ⟨0, fun _ _ => by simp⟩
end Go.Proofs.YtgkbmdlelcbmhaaDoor.Pure
