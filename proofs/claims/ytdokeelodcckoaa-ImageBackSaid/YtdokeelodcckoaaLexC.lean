/-
  The contracts of lex.twoDigits and lex.one, for a text of no more than 2^47 bytes.
-/
import Derived.Test.YtdokeelodcckoaaLexB
namespace Go.Proofs.Ytdokeelodcckoaa
open Go.RowKit Go.Lib

set_option maxHeartbeats 400000 in
theorem one_any (s : ByteArray) (k : Nat) (w : World) (hk : k ≤ s.size) (hs : s.size ≤ maxLen) :
    Calls Try.prog 103 #[.string s, .int .i64 k] w fun e w' => e = .returned (byteV k (oneL (sfx s k))) ∧ w = w' := by
  have hs' := hs
  unfold maxLen at hs
  by_cases hlt : k < s.size
  · have hc := hid (sfx_cons s k hlt)
    by_cases hlt2 : k + 1 < s.size
    · have hc2 := hid (sfx_cons s (k + 1) hlt2)
      rcases h2 : twoL (sfx s (k + 2)) with x | ⟨b, n⟩
      all_goals
        have H2 := hid h2
        clear h2
        go_enter Try.func103, Try.ntmps103
        go_wp2_with (first | (go_at_call 107; refine (plain_any _ _).mono ?_; rintro e w' ⟨rfl, rfl⟩) | (go_at_call 109; refine (indexByte_any _ _ _).mono ?_; rintro e w' ⟨rfl, rfl⟩) | (go_at_call 108; refine (two_at s _ (k + 2) _ (by omega) (by omega) hs').mono ?_; rintro e w' ⟨rfl, rfl⟩; rw [H2.out]; simp only [byteV]))
        all_goals go_ret3
        all_goals refine ⟨ret_eq ?_, rfl⟩
        all_goals go_light
        all_goals rw [hc.out]
        all_goals rw [hc2.out]
        all_goals have H2' := H2.out
        all_goals simp only [Nat.add_assoc, Nat.reduceAdd]
        all_goals simp_all [oneL, byteV]
        all_goals first | omega | (rw [if_neg (Int.not_le.2 (show indexByte special s[k + 1] < 0 by assumption))])
    · go_enter Try.func103, Try.ntmps103
      go_wp2_with (first | (go_at_call 107; refine (plain_any _ _).mono ?_; rintro e w' ⟨rfl, rfl⟩) | (go_at_call 109; refine (indexByte_any _ _ _).mono ?_; rintro e w' ⟨rfl, rfl⟩))
      all_goals go_ret3
      all_goals refine ⟨ret_eq ?_, rfl⟩
      all_goals go_light
      all_goals rw [hc.out, sfx_nil s (k + 1) (by omega)]
      all_goals simp_all [oneL, byteV]
  · go_enter Try.func103, Try.ntmps103
    go_wp2
    go_ret3
    refine ⟨ret_eq ?_, rfl⟩
    rw [sfx_nil s k (by omega)]
    rfl

theorem one_at (s : ByteArray) (a : Int) (k : Nat) (w : World) (ha : a = k) (hk : k ≤ s.size) (hs : s.size ≤ maxLen) :
    Calls Try.prog 103 #[.string s, .int .i64 a] w fun e w' => e = .returned (byteV k (oneL (sfx s k))) ∧ w = w' := by
  subst ha; exact one_any s k w hk hs
end Go.Proofs.Ytdokeelodcckoaa
