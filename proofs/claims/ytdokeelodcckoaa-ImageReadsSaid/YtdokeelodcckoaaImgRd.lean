/-
  What is read is short enough to be written again: plain laws.
-/
import Derived.Test.YtdokeelodcckoaaImgRc
namespace Go.Proofs.Ytdokeelodcckoaa.Im
open Go.RowKit Go.Lib

theorem num_small (m : Int) (r : Rd) : (num m r).1.toNat ≤ 65536 := by
  have := num_bd m r
  omega
theorem txt_len (m : Int) (r : Rd) : (txt m r).1.length ≤ 65536 := by
  unfold txt
  rw [take_len]
  exact num_small m r
theorem arcs_len : ∀ (k : Nat) (x : List Int × List (List B)) (r : Rd), (∀ o ∈ x.2, o.length ≤ 65536) → ∀ o ∈ (arcs k x r).1.2, o.length ≤ 65536
  | 0, _, _, h => h
  | k + 1, x, r, h => by
    unfold arcs
    refine arcs_len k _ _ fun o ho => ?_
    rcases List.mem_or_eq_of_mem_set ho with h' | h'
    · exact h o h'
    · rw [h']; exact txt_len _ _
theorem sstate_len (r : Rd) : (sstate r).1.tail.length ≤ 65536 ∧ ∀ o ∈ (sstate r).1.outs, o.length ≤ 65536 := by
  unfold sstate
  refine ⟨?_, arcs_len _ _ _ fun o ho => ?_⟩
  · simp only [tailOf]
    split
    · exact txt_len _ _
    · exact Nat.zero_le _
  · have : o = [] := List.eq_of_mem_replicate ho
    rw [this]; exact Nat.zero_le _
theorem sstates_len : ∀ (k : Nat) (r : Rd), ∀ x ∈ (sstates k r).1, x.tail.length ≤ 65536 ∧ ∀ o ∈ x.outs, o.length ≤ 65536
  | 0, r, x, h => by simp [sstates] at h
  | k + 1, r, x, h => by
    unfold sstates at h
    split at h
    · simp at h
    · rcases List.mem_cons.1 h with h' | h'
      · rw [h']; exact sstate_len r
      · exact sstates_len k _ x h'
theorem sq_lens (r : Rd) : SqLens (sq r).1 := by
  unfold sq
  refine ⟨Nat.le_trans (txt_len _ _) (by omega), fun t ht => ?_, fun l hl o ho => ?_⟩
  · obtain ⟨x, hx, rfl⟩ := List.mem_map.1 ht
    exact Nat.le_trans (sstates_len _ _ x hx).1 (by omega)
  · obtain ⟨x, hx, rfl⟩ := List.mem_map.1 hl
    exact Nat.le_trans ((sstates_len _ _ x hx).2 o ho) (by omega)
theorem rl_mk (a b c : Dfa) (o : List B) (m : Bool) (q : Sq) (h1 : SqLens q) (h2 : o.length ≤ 65536) : RuleLens ⟨a, b, c, o, m, q⟩ := ⟨h1, Nat.le_trans h2 (by omega)⟩
theorem sq_zero_lens : SqLens Sq.zero := ⟨by simp [Sq.zero], fun t ht => by simp [Sq.zero] at ht, fun l hl => by simp [Sq.zero] at hl⟩
theorem rule_lens (r : Rd) : RuleLens (rule r).1 := by
  unfold rule
  generalize bit r = m
  obtain ⟨m1, m2⟩ := m
  dsimp only
  generalize auto m2 = a
  generalize auto a.2 = b
  generalize auto b.2 = c
  have h1 := sq_lens c.2
  have h2 := txt_len 256 c.2
  generalize sq c.2 = q at *
  generalize txt 256 c.2 = t at *
  cases m1
  · rw [if_neg (by decide)]
    exact rl_mk _ _ _ _ _ _ sq_zero_lens h2
  · rw [if_pos rfl]
    exact rl_mk _ _ _ _ _ _ h1 (by simp)
theorem rules_lens : ∀ (k : Nat) (r : Rd), ∀ x ∈ (rules k r).1, RuleLens x
  | 0, r, x, h => by simp [rules] at h
  | k + 1, r, x, h => by
    unfold rules at h
    split at h
    · simp at h
    · rcases List.mem_cons.1 h with h' | h'
      · rw [h']; exact rule_lens r
      · exact rules_lens k _ x h'
theorem classes_lens : ∀ (k : Nat) (r : Rd), ∀ x ∈ (classes k r).1, x.name.length ≤ 140737488351232
  | 0, r, x, h => by simp [classes] at h
  | k + 1, r, x, h => by
    unfold classes at h
    split at h
    · simp at h
    · rcases List.mem_cons.1 h with h' | h'
      · rw [h']; exact Nat.le_trans (txt_len _ _) (by omega)
      · exact classes_lens k _ x h'
theorem img_lens (r : Rd) : ImgLens (img r).1 := by
  unfold img
  exact ⟨rules_lens _ _, classes_lens _ _⟩
end Go.Proofs.Ytdokeelodcckoaa.Im
