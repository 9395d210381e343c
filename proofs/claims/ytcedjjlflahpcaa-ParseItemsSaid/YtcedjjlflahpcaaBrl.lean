/-
  ParseBrackets, the plain law: what the parser makes of the texts that the statement lays together; no program in sight.
-/
import Derived.Test.YtcedjjlflahpcaaOkr
namespace Go.Proofs.Ytcedjjlflahpcaa
open Go.Lib

theorem okr_of {s : ByteArray} {r : Re} (h : parseRe s = .ok r) : OkRe 133 r := by
  unfold parseRe at h
  rcases h1 : allT s with ⟨p, x⟩ | l
  · rw [h1] at h; cases h
  · rw [h1] at h
    simp only at h
    have hl := lexes_okt (allT_lexes h1)
    have hb := bases_of (s := s) (l := l) rfl
    have hT : ∀ i, TokOk (tokAt (toksOf s l) i) := by
      intro i
      by_cases hi : i < (l.map Tok.base).length
      · have h2 := hb.at' i _ (List.getElem?_eq_getElem hi)
        refine (hl _ (List.getElem_mem hi)).base ?_
        rw [h2, ← h2]; rfl
      · have hk : (tokAt (toksOf s l) i).kind = 0 := by
          by_cases he : i = (l.map Tok.base).length
          · subst he; exact hb.fin
          · unfold tokAt
            have : (toksOf s l)[i]? = none := List.getElem?_eq_none (by rw [hb.len]; omega)
            simp only [List.getD, this]
            rfl
        exact ⟨fun h2 => absurd (hk.symm.trans h2) (by decide), fun h2 => absurd (hk.symm.trans h2) (by decide)⟩
    rcases h2 : altM notNone (toksOf s l) 33 0 0 with ⟨p, x⟩ | ⟨r', a⟩
    · rw [h2] at h; cases h
    · rw [h2] at h
      unfold closeM at h
      simp only at h
      split at h
      · cases h
      · cases h
        exact alt_okr hT notNone 33 0 0 _ _ (by omega) h2
/-- the text in brackets, the end of a line within -/
abbrev inB (s : ByteArray) : List B := 40 :: (s.data.toList ++ [10, 41])
theorem inB_app (s : ByteArray) (z : List B) : inB s ++ z = 40 :: (s.data.toList ++ 10 :: 41 :: z) := by simp [inB]
section
variable {s t x : ByteArray} {r q : Re}
theorem brk_one (hs : parseRe s = .ok r) (hx : x.data.toList = [32, 35, 10] ++ inB s ++ [32]) (hz : x.size ≤ 65536) : parseRe x = .ok r ∨ ∃ p, parseRe x = .error (p, 8) := by
  obtain ⟨bs, h⟩ := said_of hs
  refine parse_of_alt (ms := sb 40 :: (bs ++ [sb 41])) ?_ hz fun T hT => alt_brack h hT
  rw [hx, List.append_assoc, inB_app]
  exact (h.lex.inn .blank).remark
theorem brk_cat (hs : parseRe s = .ok r) (ht : parseRe t = .ok q) (hx : x.data.toList = inB s ++ inB t) (hz : x.size ≤ 65536) : parseRe x = .ok (.mk 4 [] Se.none [r, q] 0 0) ∨ ∃ p, parseRe x = .error (p, 8) := by
  obtain ⟨bs, h⟩ := said_of hs
  obtain ⟨cs, k⟩ := said_of ht
  refine parse_of_alt (ms := sb 40 :: (bs ++ sb 41 :: sb 40 :: (cs ++ [sb 41]))) ?_ hz fun T hT => alt_cat h k hT
  rw [hx, inB_app]
  exact h.lex.inn (k.lex.inn .nil)
theorem brk_bar (hs : parseRe s = .ok r) (ht : parseRe t = .ok q) (hx : x.data.toList = inB s ++ [124] ++ inB t) (hz : x.size ≤ 65536) : parseRe x = .ok (.mk 5 [] Se.none [r, q] 0 0) ∨ ∃ p, parseRe x = .error (p, 8) := by
  obtain ⟨bs, h⟩ := said_of hs
  obtain ⟨cs, k⟩ := said_of ht
  refine parse_of_alt (ms := sb 40 :: (bs ++ sb 41 :: sb 124 :: sb 40 :: (cs ++ [sb 41]))) ?_ hz fun T hT => alt_bar h k hT
  rw [hx, List.append_assoc, inB_app]
  exact h.lex.inn (k.lex.inn .nil).bar
theorem brk_amp (hs : parseRe s = .ok r) (ht : parseRe t = .ok q) (hx : x.data.toList = inB s ++ [38] ++ inB t) (hz : x.size ≤ 65536) : parseRe x = .ok (.mk 6 [] Se.none [r, q] 0 0) ∨ ∃ p, parseRe x = .error (p, 8) := by
  obtain ⟨bs, h⟩ := said_of hs
  obtain ⟨cs, k⟩ := said_of ht
  refine parse_of_alt (ms := sb 40 :: (bs ++ sb 41 :: sb 38 :: sb 40 :: (cs ++ [sb 41]))) ?_ hz fun T hT => alt_amp h k hT
  rw [hx, List.append_assoc, inB_app]
  exact h.lex.inn (k.lex.inn .nil).amp
theorem brk_star (hs : parseRe s = .ok r) (hx : x.data.toList = [33] ++ inB s ++ [42]) (hz : x.size ≤ 65536) : parseRe x = .ok (.mk 7 [] Se.none [.mk 8 [] Se.none [r] 0 (-1)] 0 0) ∨ ∃ p, parseRe x = .error (p, 8) := by
  obtain ⟨bs, h⟩ := said_of hs
  refine parse_of_alt (ms := sb 33 :: sb 40 :: (bs ++ [sb 41, sb 42])) ?_ hz fun T hT => alt_star h hT
  rw [hx, List.append_assoc, inB_app]
  exact (h.lex.inn (Lexes.nil.star)).nots
end
end Go.Proofs.Ytcedjjlflahpcaa
