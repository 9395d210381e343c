/-
  What the lexer makes of two texts with the end of a line between: the tokens of both; no program in sight.
-/
import Derived.Test.YtcedjjlflahpcaaParK
namespace Go.Proofs.Ytcedjjlflahpcaa
open Go.Lib

theorem twoL_app {r z : List B} {b : B} {n : Nat} (h : twoL r = .ok (b, n)) : twoL (r ++ z) = .ok (b, n) := by
  unfold twoL at h ⊢
  rcases r with _ | ⟨c, _ | ⟨d, t⟩⟩
  · simp at h
  · simp only at h
    split at h <;> simp at h
  · exact h
theorem oneL_app {r z : List B} {b : B} {n : Nat} (h : oneL r = .ok (b, n)) : oneL (r ++ z) = .ok (b, n) := by
  unfold oneL at h ⊢
  rcases r with _ | ⟨c, _ | ⟨d, t⟩⟩
  · simp at h
  · simp only [List.cons_append, List.nil_append] at h ⊢
    split at h
    · rename_i h1
      rw [if_pos h1]; exact h
    · simp at h
  · simp only [List.cons_append] at h ⊢
    split at h
    · rename_i h1
      rw [if_pos h1]; exact h
    · rename_i h1
      rw [if_neg h1]
      split at h
      · rename_i h2; rw [if_pos h2]; exact h
      · rename_i h2
        rw [if_neg h2]
        split at h
        · rename_i h3; rw [if_pos h3]; exact h
        · rename_i h3
          rw [if_neg h3]
          split at h
          · rename_i h4; rw [if_pos h4]; exact h
          · rename_i h4
            rw [if_neg h4]
            split at h
            · rename_i h5
              rw [if_pos h5]
              rcases h6 : twoL t with e | ⟨b', n'⟩
              · rw [h6] at h; simp at h
              · rw [h6] at h
                rw [twoL_app h6]; exact h
            · rename_i h5; rw [if_neg h5]; exact h
theorem quoL_app {z : List B} : ∀ (f : Nat) (acc r t rest : List B), quoL f acc r = .ok (t, rest) → ∀ f', f ≤ f' → quoL f' acc (r ++ z) = .ok (t, rest ++ z) ∧ rest.length ≤ r.length
  | 0, acc, r, t, rest, h, _, _ => by simp [quoL] at h
  | f + 1, acc, [], t, rest, h, _, _ => by simp [quoL] at h
  | f + 1, acc, c :: r, t, rest, h, f', hf => by
    obtain ⟨f', rfl⟩ : ∃ g, f' = g + 1 := ⟨f' - 1, by omega⟩
    rw [quoL] at h
    rw [List.cons_append, quoL]
    split at h
    · rename_i h1
      rw [if_pos h1]
      simp only [Except.ok.injEq, Prod.mk.injEq] at h
      obtain ⟨rfl, rfl⟩ := h
      exact ⟨rfl, by simp⟩
    · rename_i h1
      rw [if_neg h1]
      rcases h2 : oneL (c :: r) with e | ⟨b, n⟩
      · rw [h2] at h; simp at h
      · rw [h2] at h
        have h3 := oneL_app (z := z) h2
        rw [List.cons_append] at h3
        rw [h3]
        simp only at h ⊢
        have hn := oneL_len h2
        have h4 : (c :: (r ++ z)).drop n = (c :: r).drop n ++ z := by rw [← List.cons_append, List.drop_append_of_le_length hn.2]
        rw [h4]
        obtain ⟨a1, a2⟩ := quoL_app f _ _ _ _ h f' (by omega)
        refine ⟨a1, Nat.le_trans a2 ?_⟩
        simp
theorem setL_app {z : List B} : ∀ (f : Nat) (u : Se) (r : List B) (t : Se) (rest : List B), setL f u r = .ok (t, rest) → ∀ f', f ≤ f' → setL f' u (r ++ z) = .ok (t, rest ++ z) ∧ rest.length ≤ r.length
  | 0, u, r, t, rest, h, _, _ => by simp [setL] at h
  | f + 1, u, [], t, rest, h, _, _ => by simp [setL] at h
  | f + 1, u, c :: r, t, rest, h, f', hf => by
    obtain ⟨f', rfl⟩ : ∃ g, f' = g + 1 := ⟨f' - 1, by omega⟩
    rw [setL] at h
    rw [List.cons_append, setL]
    split at h
    · rename_i h1
      rw [if_pos h1]
      simp only [Except.ok.injEq, Prod.mk.injEq] at h
      obtain ⟨rfl, rfl⟩ := h
      exact ⟨rfl, by simp⟩
    · rename_i h1
      rw [if_neg h1]
      rcases h2 : oneL (c :: r) with e | ⟨b, n⟩
      · rw [h2] at h; simp at h
      · rw [h2] at h
        have h3 := oneL_app (z := z) h2
        rw [List.cons_append] at h3
        rw [h3]
        simp only at h ⊢
        have hn := oneL_len h2
        have h4 : (c :: (r ++ z)).drop n = (c :: r).drop n ++ z := by rw [← List.cons_append, List.drop_append_of_le_length hn.2]
        have hd : ((c :: r).drop n).length ≤ (c :: r).length := by simp
        rw [h4]
        rcases h5 : (c :: r).drop n with _ | ⟨d, r1⟩
        · rw [h5] at h
          simp only [setL_nil] at h
          cases h
        · rw [h5] at h hd
          simp only [List.cons_append] at h ⊢
          split at h
          · rename_i h6
            rw [if_pos h6]
            rcases h7 : oneL r1 with e | ⟨b2, m⟩
            · rw [h7] at h; simp at h
            · rw [h7] at h
              rw [oneL_app h7]
              simp only at h ⊢
              split at h
              · cases h
              · rename_i h8
                rw [if_neg h8]
                have hm := oneL_len h7
                rw [List.drop_append_of_le_length hm.2]
                obtain ⟨a1, a2⟩ := setL_app f _ _ _ _ h f' (by omega)
                refine ⟨a1, Nat.le_trans a2 ?_⟩
                simp only [List.length_drop, List.length_cons] at hd ⊢
                omega
          · rename_i h6
            rw [if_neg h6]
            obtain ⟨a1, a2⟩ := setL_app f _ _ _ _ h f' (by omega)
            exact ⟨a1, Nat.le_trans a2 hd⟩
theorem takeWhile_app {p : B → Bool} {z : List B} {c : B} (hc : p c = false) : ∀ r : List B, (r ++ c :: z).takeWhile p = r.takeWhile p
  | [] => by simp [hc]
  | d :: r => by
    simp only [List.cons_append, List.takeWhile_cons]
    rw [takeWhile_app hc r]
theorem take_while_len (p : B → Bool) (r : List B) : (r.takeWhile p).length ≤ r.length := (List.takeWhile_prefix p).length_le
theorem nameL_app {r z : List B} : nameL (r ++ 10 :: z) = nameL r := by
  have h1 : nameLen (r ++ 10 :: z) = nameLen r := by unfold nameLen; rw [takeWhile_app (by decide)]
  have h2 : (r ++ 10 :: z).take (nameLen r) = r.take (nameLen r) := List.take_append_of_le_length (take_while_len _ _)
  unfold nameL
  rw [h1, h2]
theorem numL_app {r z : List B} : numL (r ++ 10 :: z) = numL r := by
  have h1 : digLen (r ++ 10 :: z) = digLen r := by unfold digLen; rw [takeWhile_app (by decide)]
  have h2 : (r ++ 10 :: z).take (digLen r) = r.take (digLen r) := List.take_append_of_le_length (take_while_len _ _)
  unfold numL
  rw [h1, h2]
theorem quotedL_app {r z : List B} {t : Tok} {n : Nat} (h : quotedL r = .ok (t, n)) : quotedL (r ++ z) = .ok (t, n) := by
  unfold quotedL at h ⊢
  rcases h1 : quoL (r.length + 1) [] r with e | ⟨u, rest⟩
  · rw [h1] at h; simp at h
  · rw [h1] at h
    obtain ⟨a1, a2⟩ := quoL_app (z := z) _ _ _ _ _ h1 ((r ++ z).length + 1) (by simp)
    rw [a1]
    simp only at h ⊢
    split at h
    · cases h
    · rename_i h2
      rw [if_neg h2, ← h]
      simp only [List.length_append]
      rw [show r.length + z.length - (rest.length + z.length) = r.length - rest.length by omega]
theorem setFin_app {n m : Nat} {o : Bool} {t : Se} {rest z : List B} (h : n = m + z.length) : setFin n o (.ok (t, rest ++ z)) = setFin m o (.ok (t, rest)) := by
  subst h
  unfold setFin
  simp only [List.length_append]
  rw [show m + z.length - (rest.length + z.length) = m - rest.length by omega]
theorem bytesL_app {r z : List B} {t : Tok} {n : Nat} (h : bytesL r = .ok (t, n)) : bytesL (r ++ z) = .ok (t, n) := by
  rcases r with _ | ⟨c, r⟩
  · unfold bytesL at h; rw [setL_nil] at h; cases h
  · rw [List.cons_append]
    unfold bytesL at h ⊢
    simp only at h ⊢
    have hl : (c :: (r ++ z)).length = (c :: r).length + z.length := by simp; omega
    split at h
    · rename_i h1
      rw [if_pos h1]
      rcases h2 : setL ((c :: r).length + 1) Se.none r with e | ⟨u, rest⟩
      · rw [h2] at h; cases h
      · rw [h2] at h
        rw [(setL_app (z := z) _ _ _ _ _ h2 _ (by rw [hl]; omega)).1, setFin_app hl]
        exact h
    · rename_i h1
      rw [if_neg h1]
      rcases h2 : setL ((c :: r).length + 1) Se.none (c :: r) with e | ⟨u, rest⟩
      · rw [h2] at h; cases h
      · rw [h2] at h
        have := (setL_app (z := z) _ _ _ _ _ h2 ((c :: (r ++ z)).length + 1) (by rw [hl]; omega)).1
        rw [List.cons_append] at this
        rw [this, setFin_app hl]
        exact h
theorem bump_app {x y : Except Int (Tok × Nat)} {t : Tok} {n : Nat} (h : bump x = .ok (t, n)) (hxy : ∀ t n, x = .ok (t, n) → y = .ok (t, n)) : bump y = .ok (t, n) := by
  rcases x with e | ⟨t', n'⟩
  · cases h
  · rw [hxy _ _ rfl]; exact h
theorem signL_app {r z : List B} {t : Tok} {n : Nat} (h : signL r = .ok (t, n)) : signL (r ++ 10 :: z) = .ok (t, n) := by
  rcases r with _ | ⟨c, _ | ⟨d, r⟩⟩
  · unfold signL prefB at h; simp at h
  · have h1 : prefB [45, 62] [c] = false := by unfold prefB; simp
    have h2 : prefB [45, 62] (c :: 10 :: z) = false := by unfold prefB; simp
    unfold signL at h
    rw [h1] at h
    show signL (c :: 10 :: z) = _
    unfold signL
    rw [h2]
    exact h
  · exact h
/-- a token that stands whole stands there too where the end of a line comes next -/
theorem tokenL_app {r z : List B} {t : Tok} {n : Nat} (h : tokenL r = .ok (t, n)) : tokenL (r ++ 10 :: z) = .ok (t, n) := by
  rcases r with _ | ⟨c, r⟩
  · cases h
  · rw [List.cons_append]
    unfold tokenL at h ⊢
    simp only at h ⊢
    split at h
    · rename_i h1; rw [if_pos h1, ← List.cons_append, nameL_app]; exact h
    · rename_i h1
      rw [if_neg h1]
      split at h
      · rename_i h2; rw [if_pos h2, ← List.cons_append, numL_app]; exact h
      · rename_i h2
        rw [if_neg h2]
        split at h
        · rename_i h3; rw [if_pos h3]; exact bump_app h fun _ _ => quotedL_app
        · rename_i h3
          rw [if_neg h3]
          split at h
          · rename_i h4; rw [if_pos h4]; exact bump_app h fun _ _ => bytesL_app
          · rename_i h4; rw [if_neg h4, ← List.cons_append]; exact signL_app h
theorem white_app {z : List B} : ∀ (b : Bool) (r : List B), (white b r = [] → white b (r ++ 10 :: z) = white false z) ∧ (white b r ≠ [] → white b (r ++ 10 :: z) = white b r ++ 10 :: z)
  | true, [] => ⟨fun _ => by simp [white], fun h => absurd (by simp [white]) h⟩
  | false, [] => ⟨fun _ => by simp [white], fun h => absurd (by simp [white]) h⟩
  | true, c :: r => by
    rw [List.cons_append, white, white]
    split
    · exact white_app false r
    · exact white_app true r
  | false, c :: r => by
    rw [List.cons_append, white, white]
    split
    · exact white_app false r
    · split
      · exact white_app true r
      · exact ⟨fun h => (by cases h), fun _ => rfl⟩
end Go.Proofs.Ytcedjjlflahpcaa
