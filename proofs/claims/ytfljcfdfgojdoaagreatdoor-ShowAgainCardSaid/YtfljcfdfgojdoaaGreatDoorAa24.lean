/-
  What the lexer makes of two texts with the end of a line between: the tokens of both; no program in sight.
  The tokens of a text, places aside, as a relation: of two texts with the end of a line between, of a text in brackets; no program in sight.
-/
import Derived.Test.YtfljcfdfgojdoaaGreatDoorAa08
namespace Go.Proofs.YtfljcfdfgojdoaaGreatDoor
open Go.Lib

theorem twoL_app {r z : List B} {b : B} {n : Nat} (h : twoL r = .ok (b, n)) : twoL (r ++ z) = .ok (b, n) := by
  unfold twoL at h ⊢
  rcases r with _ | ⟨c, _ | ⟨d, t⟩⟩
  · simp at h
  · simp only at h
    split at h <;> simp at h
  · exact h
theorem oneL_app {r z : List B} {b : B} {n : Nat} (h : oneL r = .ok (b, n)) : oneL (r ++ z) = .ok (b, n) := by
  unfold oneL at h ⊢
  rcases r with _ | ⟨c, _ | ⟨d, t⟩⟩
  · simp at h
  · simp only [List.cons_append, List.nil_append] at h ⊢
    split at h
    · rename_i h1
      rw [if_pos h1]; exact h
    · simp at h
  · simp only [List.cons_append] at h ⊢
    split at h
    · rename_i h1
      rw [if_pos h1]; exact h
    · rename_i h1
      rw [if_neg h1]
      split at h
      · rename_i h2; rw [if_pos h2]; exact h
      · rename_i h2
        rw [if_neg h2]
        split at h
        · rename_i h3; rw [if_pos h3]; exact h
        · rename_i h3
          rw [if_neg h3]
          split at h
          · rename_i h4; rw [if_pos h4]; exact h
          · rename_i h4
            rw [if_neg h4]
            split at h
            · rename_i h5
              rw [if_pos h5]
              rcases h6 : twoL t with e | ⟨b', n'⟩
              · rw [h6] at h; simp at h
              · rw [h6] at h
                rw [twoL_app h6]; exact h
            · rename_i h5; rw [if_neg h5]; exact h
theorem quoL_app {z : List B} : ∀ (f : Nat) (acc r t rest : List B), quoL f acc r = .ok (t, rest) → ∀ f', f ≤ f' → quoL f' acc (r ++ z) = .ok (t, rest ++ z) ∧ rest.length ≤ r.length
  | 0, acc, r, t, rest, h, _, _ => by simp [quoL] at h
  | f + 1, acc, [], t, rest, h, _, _ => by simp [quoL] at h
  | f + 1, acc, c :: r, t, rest, h, f', hf => by
    obtain ⟨f', rfl⟩ : ∃ g, f' = g + 1 := ⟨f' - 1, by omega⟩
    rw [quoL] at h
    rw [List.cons_append, quoL]
    split at h
    · rename_i h1
      rw [if_pos h1]
      simp only [Except.ok.injEq, Prod.mk.injEq] at h
      obtain ⟨rfl, rfl⟩ := h
      exact ⟨rfl, by simp⟩
    · rename_i h1
      rw [if_neg h1]
      rcases h2 : oneL (c :: r) with e | ⟨b, n⟩
      · rw [h2] at h; simp at h
      · rw [h2] at h
        have h3 := oneL_app (z := z) h2
        rw [List.cons_append] at h3
        rw [h3]
        simp only at h ⊢
        have hn := oneL_len h2
        have h4 : (c :: (r ++ z)).drop n = (c :: r).drop n ++ z := by rw [← List.cons_append, List.drop_append_of_le_length hn.2]
        rw [h4]
        obtain ⟨a1, a2⟩ := quoL_app f _ _ _ _ h f' (by omega)
        refine ⟨a1, Nat.le_trans a2 ?_⟩
        simp
theorem setL_app {z : List B} : ∀ (f : Nat) (u : Se) (r : List B) (t : Se) (rest : List B), setL f u r = .ok (t, rest) → ∀ f', f ≤ f' → setL f' u (r ++ z) = .ok (t, rest ++ z) ∧ rest.length ≤ r.length
  | 0, u, r, t, rest, h, _, _ => by simp [setL] at h
  | f + 1, u, [], t, rest, h, _, _ => by simp [setL] at h
  | f + 1, u, c :: r, t, rest, h, f', hf => by
    obtain ⟨f', rfl⟩ : ∃ g, f' = g + 1 := ⟨f' - 1, by omega⟩
    rw [setL] at h
    rw [List.cons_append, setL]
    split at h
    · rename_i h1
      rw [if_pos h1]
      simp only [Except.ok.injEq, Prod.mk.injEq] at h
      obtain ⟨rfl, rfl⟩ := h
      exact ⟨rfl, by simp⟩
    · rename_i h1
      rw [if_neg h1]
      rcases h2 : oneL (c :: r) with e | ⟨b, n⟩
      · rw [h2] at h; simp at h
      · rw [h2] at h
        have h3 := oneL_app (z := z) h2
        rw [List.cons_append] at h3
        rw [h3]
        simp only at h ⊢
        have hn := oneL_len h2
        have h4 : (c :: (r ++ z)).drop n = (c :: r).drop n ++ z := by rw [← List.cons_append, List.drop_append_of_le_length hn.2]
        have hd : ((c :: r).drop n).length ≤ (c :: r).length := by simp
        rw [h4]
        rcases h5 : (c :: r).drop n with _ | ⟨d, r1⟩
        · rw [h5] at h
          simp only [setL_nil] at h
          cases h
        · rw [h5] at h hd
          simp only [List.cons_append] at h ⊢
          split at h
          · rename_i h6
            rw [if_pos h6]
            rcases h7 : oneL r1 with e | ⟨b2, m⟩
            · rw [h7] at h; simp at h
            · rw [h7] at h
              rw [oneL_app h7]
              simp only at h ⊢
              split at h
              · cases h
              · rename_i h8
                rw [if_neg h8]
                have hm := oneL_len h7
                rw [List.drop_append_of_le_length hm.2]
                obtain ⟨a1, a2⟩ := setL_app f _ _ _ _ h f' (by omega)
                refine ⟨a1, Nat.le_trans a2 ?_⟩
                simp only [List.length_drop, List.length_cons] at hd ⊢
                omega
          · rename_i h6
            rw [if_neg h6]
            obtain ⟨a1, a2⟩ := setL_app f _ _ _ _ h f' (by omega)
            exact ⟨a1, Nat.le_trans a2 hd⟩
theorem takeWhile_app {p : B → Bool} {z : List B} {c : B} (hc : p c = false) : ∀ r : List B, (r ++ c :: z).takeWhile p = r.takeWhile p
  | [] => by simp [hc]
  | d :: r => by
    simp only [List.cons_append, List.takeWhile_cons]
    rw [takeWhile_app hc r]
theorem take_while_len (p : B → Bool) (r : List B) : (r.takeWhile p).length ≤ r.length := (List.takeWhile_prefix p).length_le
theorem nameL_app {r z : List B} : nameL (r ++ 10 :: z) = nameL r := by
  have h1 : nameLen (r ++ 10 :: z) = nameLen r := by unfold nameLen; rw [takeWhile_app (by decide)]
  have h2 : (r ++ 10 :: z).take (nameLen r) = r.take (nameLen r) := List.take_append_of_le_length (take_while_len _ _)
  unfold nameL
  rw [h1, h2]
theorem numL_app {r z : List B} : numL (r ++ 10 :: z) = numL r := by
  have h1 : digLen (r ++ 10 :: z) = digLen r := by unfold digLen; rw [takeWhile_app (by decide)]
  have h2 : (r ++ 10 :: z).take (digLen r) = r.take (digLen r) := List.take_append_of_le_length (take_while_len _ _)
  unfold numL
  rw [h1, h2]
theorem quotedL_app {r z : List B} {t : Tok} {n : Nat} (h : quotedL r = .ok (t, n)) : quotedL (r ++ z) = .ok (t, n) := by
  unfold quotedL at h ⊢
  rcases h1 : quoL (r.length + 1) [] r with e | ⟨u, rest⟩
  · rw [h1] at h; simp at h
  · rw [h1] at h
    obtain ⟨a1, a2⟩ := quoL_app (z := z) _ _ _ _ _ h1 ((r ++ z).length + 1) (by simp)
    rw [a1]
    simp only at h ⊢
    split at h
    · cases h
    · rename_i h2
      rw [if_neg h2, ← h]
      simp only [List.length_append]
      rw [show r.length + z.length - (rest.length + z.length) = r.length - rest.length by omega]
theorem setFin_app {n m : Nat} {o : Bool} {t : Se} {rest z : List B} (h : n = m + z.length) : setFin n o (.ok (t, rest ++ z)) = setFin m o (.ok (t, rest)) := by
  subst h
  unfold setFin
  simp only [List.length_append]
  rw [show m + z.length - (rest.length + z.length) = m - rest.length by omega]
theorem bytesL_app {r z : List B} {t : Tok} {n : Nat} (h : bytesL r = .ok (t, n)) : bytesL (r ++ z) = .ok (t, n) := by
  rcases r with _ | ⟨c, r⟩
  · unfold bytesL at h; rw [setL_nil] at h; cases h
  · rw [List.cons_append]
    unfold bytesL at h ⊢
    simp only at h ⊢
    have hl : (c :: (r ++ z)).length = (c :: r).length + z.length := by simp; omega
    split at h
    · rename_i h1
      rw [if_pos h1]
      rcases h2 : setL ((c :: r).length + 1) Se.none r with e | ⟨u, rest⟩
      · rw [h2] at h; cases h
      · rw [h2] at h
        rw [(setL_app (z := z) _ _ _ _ _ h2 _ (by rw [hl]; omega)).1, setFin_app hl]
        exact h
    · rename_i h1
      rw [if_neg h1]
      rcases h2 : setL ((c :: r).length + 1) Se.none (c :: r) with e | ⟨u, rest⟩
      · rw [h2] at h; cases h
      · rw [h2] at h
        have := (setL_app (z := z) _ _ _ _ _ h2 ((c :: (r ++ z)).length + 1) (by rw [hl]; omega)).1
        rw [List.cons_append] at this
        rw [this, setFin_app hl]
        exact h
theorem bump_app {x y : Except Int (Tok × Nat)} {t : Tok} {n : Nat} (h : bump x = .ok (t, n)) (hxy : ∀ t n, x = .ok (t, n) → y = .ok (t, n)) : bump y = .ok (t, n) := by
  rcases x with e | ⟨t', n'⟩
  · cases h
  · rw [hxy _ _ rfl]; exact h
theorem signL_app {r z : List B} {t : Tok} {n : Nat} (h : signL r = .ok (t, n)) : signL (r ++ 10 :: z) = .ok (t, n) := by
  rcases r with _ | ⟨c, _ | ⟨d, r⟩⟩
  · unfold signL prefB at h; simp at h
  · have h1 : prefB [45, 62] [c] = false := by unfold prefB; simp
    have h2 : prefB [45, 62] (c :: 10 :: z) = false := by unfold prefB; simp
    unfold signL at h
    rw [h1] at h
    show signL (c :: 10 :: z) = _
    unfold signL
    rw [h2]
    exact h
  · exact h
/-- a token that stands whole stands there too where the end of a line comes next -/
theorem tokenL_app {r z : List B} {t : Tok} {n : Nat} (h : tokenL r = .ok (t, n)) : tokenL (r ++ 10 :: z) = .ok (t, n) := by
  rcases r with _ | ⟨c, r⟩
  · cases h
  · rw [List.cons_append]
    unfold tokenL at h ⊢
    simp only at h ⊢
    split at h
    · rename_i h1; rw [if_pos h1, ← List.cons_append, nameL_app]; exact h
    · rename_i h1
      rw [if_neg h1]
      split at h
      · rename_i h2; rw [if_pos h2, ← List.cons_append, numL_app]; exact h
      · rename_i h2
        rw [if_neg h2]
        split at h
        · rename_i h3; rw [if_pos h3]; exact bump_app h fun _ _ => quotedL_app
        · rename_i h3
          rw [if_neg h3]
          split at h
          · rename_i h4; rw [if_pos h4]; exact bump_app h fun _ _ => bytesL_app
          · rename_i h4; rw [if_neg h4, ← List.cons_append]; exact signL_app h
theorem white_app {z : List B} : ∀ (b : Bool) (r : List B), (white b r = [] → white b (r ++ 10 :: z) = white false z) ∧ (white b r ≠ [] → white b (r ++ 10 :: z) = white b r ++ 10 :: z)
  | true, [] => ⟨fun _ => by simp [white], fun h => absurd (by simp [white]) h⟩
  | false, [] => ⟨fun _ => by simp [white], fun h => absurd (by simp [white]) h⟩
  | true, c :: r => by
    rw [List.cons_append, white, white]
    split
    · exact white_app false r
    · exact white_app true r
  | false, c :: r => by
    rw [List.cons_append, white, white]
    split
    · exact white_app false r
    · split
      · exact white_app true r
      · exact ⟨fun h => (by cases h), fun _ => rfl⟩
end Go.Proofs.YtfljcfdfgojdoaaGreatDoor

namespace Go.Proofs.YtfljcfdfgojdoaaGreatDoor
open Go.Lib

/-- the tokens of a row of bytes, their places left out -/
inductive Lexes : List B → List Tok → Prop
  | stop {r : List B} (h : white false r = []) : Lexes r []
  | step {r r1 : List B} {c : B} {t : Tok} {n : Nat} {l : List Tok} (h : white false r = c :: r1) (ht : tokenL (c :: r1) = .ok (t, n)) (hl : Lexes ((c :: r1).drop n) l) : Lexes r (t :: l)
theorem Lexes.same {r r' : List B} {l : List Tok} (h : Lexes r l) (he : white false r' = white false r) : Lexes r' l := by
  cases h with
  | stop h => exact .stop (he.trans h)
  | step h ht hl => exact .step (he.trans h) ht hl
theorem Lexes.app {r z : List B} {l m : List Tok} (h : Lexes r l) (hz : Lexes z m) : Lexes (r ++ 10 :: z) (l ++ m) := by
  induction h with
  | @stop r h => exact hz.same ((white_app false r).1 h)
  | @step r r1 c t n l h ht hl ih =>
    have h1 := (white_app (z := z) false r).2 (by rw [h]; simp)
    rw [h] at h1
    have h2 := tokenL_app (z := z) ht
    rw [List.cons_append] at h1 h2
    refine .step h1 h2 ?_
    have hn := tokenL_ok ht
    rw [← List.cons_append, List.drop_append_of_le_length hn.2.1]
    exact ih
def Tok.base (t : Tok) : Tok := { t with pos := 0 }
theorem nextL_cons {k : Nat} {r r1 : List B} {c : B} (h : white false r = c :: r1) : nextL k r = nextAt (k + (r.length - (c :: r1).length)) (c :: r1) := by
  unfold nextL; rw [h]
theorem nextL_nil {k : Nat} {r : List B} (h : white false r = []) : (nextL k r).err = 0 ∧ (nextL k r).tok.kind = 0 := by
  unfold nextL; rw [h]; exact ⟨rfl, rfl⟩
theorem numL_pos {r : List B} {t : Tok} {n : Nat} (h : numL r = .ok (t, n)) : t.pos = 0 := by
  unfold numL at h; split at h <;> cases h; rfl
theorem tokenL_pos {r : List B} {t : Tok} {n : Nat} (h : tokenL r = .ok (t, n)) : t.pos = 0 := by
  rcases r with _ | ⟨c, r⟩
  · cases h
  · unfold tokenL at h
    simp only at h
    split at h
    · unfold nameL at h; split at h <;> cases h; rfl
    · split at h
      · exact numL_pos h
      · split at h
        · obtain ⟨m, hm, rfl⟩ := bump_ok h
          unfold quotedL at hm
          split at hm
          · cases hm
          · split at hm <;> cases hm; rfl
        · split at h
          · obtain ⟨m, hm, rfl⟩ := bump_ok h
            have : ∀ {n : Nat} {o : Bool} {x : Except Int (Se × List B)} {t : Tok} {m : Nat}, setFin n o x = .ok (t, m) → t.pos = 0 := by
              intro n o x t m h
              rcases x with e | ⟨u, rest⟩
              · cases h
              · cases h; rfl
            unfold bytesL at hm
            split at hm
            · exact this hm
            · split at hm
              · exact this hm
              · exact this hm
          · unfold signL at h
            split at h
            · cases h; rfl
            · split at h
              · cases h
              · split at h <;> cases h; rfl
theorem white_drop (s : ByteArray) (k : Nat) (hk : k ≤ s.size) {c : B} {r1 : List B} (h : white false (sfx s k) = c :: r1) : ∃ p, k ≤ p ∧ p < s.size ∧ c :: r1 = sfx s p ∧ p = k + ((sfx s k).length - (c :: r1).length) := by
  have h1 := white_sfx s k hk
  have h2 := white_len false (sfx s k)
  rw [h] at h1 h2
  rw [sfx_len] at h2
  refine ⟨s.size - (c :: r1).length, by omega, by simp only [List.length_cons] at h2 ⊢; omega, h1, ?_⟩
  rw [sfx_len]; omega
/-- what All tells, as the relation -/
theorem lexes_of_all : ∀ (f : Nat) (s : ByteArray) (k : Nat) (acc l : List Tok), k ≤ s.size → allL f s k acc = .ok l → ∃ ts, l = acc ++ ts ∧ Lexes (sfx s k) (ts.map Tok.base)
  | 0, s, k, acc, l, _, h => by simp [allL] at h
  | f + 1, s, k, acc, l, hk, h => by
    rw [allL] at h
    rcases hw : white false (sfx s k) with _ | ⟨c, r1⟩
    · obtain ⟨h1, h2⟩ := nextL_nil (k := k) hw
      simp only [h1, h2] at h
      simp at h
      exact ⟨[], by simp [h], .stop hw⟩
    · obtain ⟨p, hkp, hp, hs, hpe⟩ := white_drop s k hk hw
      rw [nextL_cons hw, ← hpe] at h
      rcases ht : tokenL (c :: r1) with e | ⟨t, n⟩
      · simp only [nextAt, ht] at h
        have he := tokenL_err ht
        have hne := nz2 he
        simp only [hne, if_true] at h
        cases h
      · have hok := tokenL_ok ht
        have hkd : (t.kind == 0) = false := by simpa using hok.2.2
        simp only [nextAt, ht] at h
        simp only [hkd] at h
        simp only [show ((0 : Int) != 0) = false from rfl, Bool.false_eq_true, if_false] at h
        have hlen : p + n ≤ s.size := by
          have := hok.2.1
          rw [hs, sfx_len] at this
          omega
        obtain ⟨ts, rfl, hl⟩ := lexes_of_all f s (p + n) _ _ hlen h
        refine ⟨{ t with pos := p } :: ts, by simp, ?_⟩
        have hb : ({ t with pos := (p : Int) } : Tok).base = t := by
          have := tokenL_pos ht
          unfold Tok.base
          cases t
          simp only at this
          subst this
          rfl
        rw [List.map_cons, hb]
        refine .step hw ht ?_
        rw [hs, sfx_drop]
        exact hl
theorem all_of_lexes : ∀ (f : Nat) (s : ByteArray) (k : Nat) (acc ms : List Tok), k ≤ s.size → s.size < k + f → Lexes (sfx s k) ms → ∃ ts, allL f s k acc = .ok (acc ++ ts) ∧ ts.map Tok.base = ms
  | 0, s, k, acc, ms, h1, h2, _ => by omega
  | f + 1, s, k, acc, ms, hk, hf, h => by
    rw [allL]
    generalize hr : sfx s k = r at h
    cases h with
    | stop h =>
      obtain ⟨h1, h2⟩ := nextL_nil (k := k) h
      simp only [h1, h2]
      exact ⟨[], by simp, rfl⟩
    | @step _ r1 c t n l h ht hl =>
      subst hr
      obtain ⟨p, hkp, hp, hs, hpe⟩ := white_drop s k hk h
      have hok := tokenL_ok ht
      have hkd : (t.kind == 0) = false := by simpa using hok.2.2
      rw [nextL_cons h, ← hpe]
      simp only [nextAt, ht, hkd]
      simp only [show ((0 : Int) != 0) = false from rfl, Bool.false_eq_true, if_false]
      have hlen : p + n ≤ s.size := by
        have := hok.2.1
        rw [hs, sfx_len] at this
        omega
      rw [hs, sfx_drop] at hl
      obtain ⟨ts, h1, h2⟩ := all_of_lexes f s (p + n) (acc ++ [{ t with pos := (p : Int) }]) l hlen (by omega) hl
      refine ⟨{ t with pos := (p : Int) } :: ts, by rw [h1]; simp, ?_⟩
      have hb : ({ t with pos := (p : Int) } : Tok).base = t := by
        have := tokenL_pos ht
        unfold Tok.base
        cases t
        simp only at this
        subst this
        rfl
      rw [List.map_cons, hb, h2]
theorem allT_lexes {s : ByteArray} {l : List Tok} (h : allT s = .ok l) : Lexes s.data.toList (l.map Tok.base) := by
  unfold allT at h
  split at h
  · cases h
  · obtain ⟨ts, rfl, hl⟩ := lexes_of_all _ s 0 [] l (Nat.zero_le _) h
    simpa [sfx] using hl
theorem lexes_allT {s : ByteArray} {ms : List Tok} (h : Lexes s.data.toList ms) (hs : s.size ≤ 65536) : ∃ ts, allT s = .ok ts ∧ ts.map Tok.base = ms := by
  unfold allT
  rw [if_neg (by omega)]
  obtain ⟨ts, h1, h2⟩ := all_of_lexes (s.size + 1) s 0 [] ms (Nat.zero_le _) (by omega) (by simpa [sfx] using h)
  exact ⟨ts, by simpa using h1, h2⟩
/-- one sign -/
def sb (c : B) : Tok := ⟨4, [c], Se.none, 0, 0⟩
theorem Lexes.sign {c : B} {r : List B} {l : List Tok} (h : Lexes r l) (hw : white false (c :: r) = c :: r) (ht : tokenL (c :: r) = .ok (sb c, 1)) : Lexes (c :: r) (sb c :: l) :=
  .step hw ht h
theorem Lexes.opn {r : List B} {l : List Tok} (h : Lexes r l) : Lexes (40 :: r) (sb 40 :: l) := h.sign rfl rfl
theorem Lexes.sht {r : List B} {l : List Tok} (h : Lexes r l) : Lexes (41 :: r) (sb 41 :: l) := h.sign rfl rfl
theorem Lexes.nots {r : List B} {l : List Tok} (h : Lexes r l) : Lexes (33 :: r) (sb 33 :: l) := h.sign rfl rfl
theorem Lexes.bar {r : List B} {l : List Tok} (h : Lexes r l) : Lexes (124 :: r) (sb 124 :: l) := h.sign rfl rfl
theorem Lexes.amp {r : List B} {l : List Tok} (h : Lexes r l) : Lexes (38 :: r) (sb 38 :: l) := h.sign rfl rfl
theorem Lexes.star {r : List B} {l : List Tok} (h : Lexes r l) : Lexes (42 :: r) (sb 42 :: l) := h.sign rfl rfl
theorem Lexes.blank : Lexes [32] [] := .stop rfl
theorem Lexes.nil : Lexes [] [] := .stop rfl
theorem Lexes.remark {r : List B} {l : List Tok} (h : Lexes r l) : Lexes (32 :: 35 :: 10 :: r) l := h.same rfl
/-- a text in brackets -/
theorem Lexes.inn {r z : List B} {l m : List Tok} (h : Lexes r l) (hz : Lexes z m) : Lexes (40 :: (r ++ 10 :: 41 :: z)) (sb 40 :: (l ++ sb 41 :: m)) := (h.app hz.sht).opn
end Go.Proofs.YtfljcfdfgojdoaaGreatDoor
