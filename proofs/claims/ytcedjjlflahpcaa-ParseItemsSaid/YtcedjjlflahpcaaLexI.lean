/-
  The contract of lex.token, for a text of no more than 2^47 bytes.
-/
import Derived.Test.YtcedjjlflahpcaaLexH
namespace Go.Proofs.Ytcedjjlflahpcaa
open Go.RowKit Go.Lib

/-- a token that was read, or none; the place behind it; what is wrong -/
def tc : Except Int (Tok × Nat) → Tok
  | .ok (t, _) => t
  | .error _ => Tok.zero
def tn (k : Nat) : Except Int (Tok × Nat) → Int
  | .ok (_, n) => (k : Int) + n
  | .error _ => 0
def te : Except Int (Tok × Nat) → Int
  | .ok _ => 0
  | .error e => e
theorem tokV_eq (k : Nat) (x : Except Int (Tok × Nat)) : tokV k x = .tuple #[.agg (tc x).cells, .int .i64 (tn k x), .int .i64 (te x)] := by
  rcases x with e | ⟨t, n⟩ <;> rfl
def bump : Except Int (Tok × Nat) → Except Int (Tok × Nat)
  | .ok (t, n) => .ok (t, n + 1)
  | .error e => .error e
theorem tokV_bump (k : Nat) (x : Except Int (Tok × Nat)) : tokV (k + 1) x = tokV k (bump x) := by
  rcases x with e | ⟨t, n⟩
  · rfl
  · simp [tokV, bump]; omega
theorem tok_block {w w1 : World} {cs : Array Value} (h : Below (w.alloc (.cells cs 63)).heap.size (w.alloc (.cells cs 63)) w1) : Hid (w1.heap[w.heap.size]? = some (.cells cs 63 (0, 0))) :=
  (h.block w.heap.size (by simp)).trans (heap_alloc_new _ _)
theorem tok_end {w w1 : World} {cs : Array Value} (h : Below (w.alloc (.cells cs 63)).heap.size (w.alloc (.cells cs 63)) w1) (cs' : Array Value) : Below w.heap.size w (w1.setRow w.heap.size cs') :=
  Below.setRow (((Below.refl w.heap.size w).alloc (Nat.le_refl _) _).trans (h.mono (by simp))) (Nat.le_refl _) cs'
/-- a token from its first byte on -/
def tokenL (r : List B) : Except Int (Tok × Nat) :=
  match r with
  | [] => .error 4
  | c :: r' =>
    if letterB c.toNat then nameL r else
    if digitB c.toNat then numL r else
    if ((c.toNat : Int) == 34) = true then bump (quotedL r') else
    if ((c.toNat : Int) == 91) = true then bump (bytesL r') else signL r

theorem name_at (s : ByteArray) (a : Int) (k : Nat) (w : World) (ha : a = k) (hk : k ≤ s.size) (hs : s.size ≤ maxLen) :
    Calls Try.prog 50 #[.string s, .int .i64 a] w fun e w' => e = .returned (tokV k (nameL (sfx s k))) ∧ Below w.heap.size w w' := by
  subst ha; exact name_any s k w hk hs
theorem number_at (s : ByteArray) (a : Int) (k : Nat) (w : World) (ha : a = k) (hk : k ≤ s.size) (hs : s.size ≤ maxLen) :
    Calls Try.prog 52 #[.string s, .int .i64 a] w fun e w' => e = .returned (tokV k (numL (sfx s k))) ∧ Below w.heap.size w w' := by
  subst ha; exact number_any s k w hk hs
theorem quoted_at (s : ByteArray) (a : Int) (k : Nat) (w : World) (ha : a = k) (hk : k ≤ s.size) (hs : s.size ≤ 140737488351232) :
    Calls Try.prog 53 #[.string s, .int .i64 a] w fun e w' => e = .returned (tokV k (quotedL (sfx s k))) ∧ Below w.heap.size w w' := by
  subst ha; exact quoted_any s k w hk hs
theorem bytes_at (s : ByteArray) (a : Int) (k : Nat) (w : World) (ha : a = k) (hk : k ≤ s.size) (hs : s.size ≤ maxLen) :
    Calls Try.prog 54 #[.string s, .int .i64 a] w fun e w' => e = .returned (tokV k (bytesL (sfx s k))) ∧ Below w.heap.size w w' := by
  subst ha; exact bytes_any s k w hk hs
theorem sign_at (s : ByteArray) (a : Int) (k : Nat) (w : World) (ha : a = k) (hk : k < s.size) (hs : s.size ≤ maxLen) :
    Calls Try.prog 55 #[.string s, .int .i64 a] w fun e w' => e = .returned (tokV k (signL (sfx s k))) ∧ Below w.heap.size w w' := by
  subst ha; exact sign_any s k w hk hs

set_option maxRecDepth 100000 in
set_option maxHeartbeats 1000000 in
theorem token_any (s : ByteArray) (k : Nat) (w : World) (hk : k < s.size) (hs : s.size ≤ 140737488351232) :
    Calls Try.prog 42 #[.string s, .int .i64 k] w fun e w' => e = .returned (tokV k (tokenL (sfx s k))) ∧ Below w.heap.size w w' := by
  have hs' : s.size ≤ maxLen := by unfold maxLen; omega
  have HS := hid hs
  clear hs
  have hs := hs'
  unfold maxLen at hs
  have hc := sfx_cons s k hk
  cases hl : letterB s[k].toNat
  · cases hd : digitB s[k].toNat
    · cases h34 : ((s[k].toNat : Int) == 34)
      · cases h91 : ((s[k].toNat : Int) == 91)
        · have HT : Hid (tokV k (signL (sfx s k)) = tokV k (tokenL (sfx s k))) := by show _ = _; rw [hc]; simp only [tokenL, hl, hd, h34, h91, Bool.false_eq_true, if_false]
          clear hc
          go_enter Try.func42, Try.ntmps42
          go_wp2_with (first | (go_at_call 49; refine (letter_any _ _).mono ?_; rintro e w' ⟨rfl, rfl⟩; simp only [hl]) | (go_at_call 51; refine (digit_any _ _).mono ?_; rintro e w' ⟨rfl, rfl⟩; simp only [hd]) | (go_at_call 55; refine (sign_at s _ k _ (by omega) (by omega) hs').mono ?_; rintro e w1 ⟨rfl, hb1⟩; rw [tokV_eq]; have HB := tok_block hb1) | (refine wpList_store_blk rfl 63 (.tmp 4) (.tmp 52) rfl 8 info63 w.heap.size 63 _ HB.out rfl (tc (signL (sfx s k))).cells rfl rfl rfl rfl ?_))
          exact bodyPost_ret (results_cell3 rfl _ _ w.heap.size 63 _ (0, 0) _ rfl (setRow_heap HB.out _) Try.underlying63 rfl info63) rfl ⟨ret_eq (by rw [← HT.out, tokV_eq]; simp), tok_end hb1 _⟩
        · have HT : Hid (tokV (k + 1) (bytesL (sfx s (k + 1))) = tokV k (tokenL (sfx s k))) := by show _ = _; rw [hc, tokV_bump]; simp only [tokenL, hl, hd, h34, h91, Bool.false_eq_true, if_false, if_true]
          clear hc
          go_enter Try.func42, Try.ntmps42
          go_wp2_with (first | (go_at_call 49; refine (letter_any _ _).mono ?_; rintro e w' ⟨rfl, rfl⟩; simp only [hl]) | (go_at_call 51; refine (digit_any _ _).mono ?_; rintro e w' ⟨rfl, rfl⟩; simp only [hd]) | (go_at_call 54; refine (bytes_at s _ (k + 1) _ (by omega) (by omega) hs').mono ?_; rintro e w1 ⟨rfl, hb1⟩; rw [tokV_eq]; have HB := tok_block hb1) | (refine wpList_store_blk rfl 63 (.tmp 4) (.tmp 46) rfl 8 info63 w.heap.size 63 _ HB.out rfl (tc (bytesL (sfx s (k + 1)))).cells rfl rfl rfl rfl ?_))
          exact bodyPost_ret (results_cell3 rfl _ _ w.heap.size 63 _ (0, 0) _ rfl (setRow_heap HB.out _) Try.underlying63 rfl info63) rfl ⟨ret_eq ((tokV_eq (k + 1) _).symm.trans HT.out), tok_end hb1 _⟩
      · have HT : Hid (tokV (k + 1) (quotedL (sfx s (k + 1))) = tokV k (tokenL (sfx s k))) := by show _ = _; rw [hc, tokV_bump]; simp only [tokenL, hl, hd, h34, Bool.false_eq_true, if_false, if_true]
        clear hc
        go_enter Try.func42, Try.ntmps42
        go_wp2_with (first | (go_at_call 49; refine (letter_any _ _).mono ?_; rintro e w' ⟨rfl, rfl⟩; simp only [hl]) | (go_at_call 51; refine (digit_any _ _).mono ?_; rintro e w' ⟨rfl, rfl⟩; simp only [hd]) | (go_at_call 53; refine (quoted_at s _ (k + 1) _ (by omega) (by omega) HS.out).mono ?_; rintro e w1 ⟨rfl, hb1⟩; rw [tokV_eq]; have HB := tok_block hb1) | (refine wpList_store_blk rfl 63 (.tmp 4) (.tmp 36) rfl 8 info63 w.heap.size 63 _ HB.out rfl (tc (quotedL (sfx s (k + 1)))).cells rfl rfl rfl rfl ?_))
        exact bodyPost_ret (results_cell3 rfl _ _ w.heap.size 63 _ (0, 0) _ rfl (setRow_heap HB.out _) Try.underlying63 rfl info63) rfl ⟨ret_eq ((tokV_eq (k + 1) _).symm.trans HT.out), tok_end hb1 _⟩
    · have HT : Hid (tokV k (numL (sfx s k)) = tokV k (tokenL (sfx s k))) := by show _ = _; rw [hc]; simp only [tokenL, hl, hd, Bool.false_eq_true, if_false, if_true]
      clear hc
      go_enter Try.func42, Try.ntmps42
      go_wp2_with (first | (go_at_call 49; refine (letter_any _ _).mono ?_; rintro e w' ⟨rfl, rfl⟩; simp only [hl]) | (go_at_call 51; refine (digit_any _ _).mono ?_; rintro e w' ⟨rfl, rfl⟩; simp only [hd]) | (go_at_call 52; refine (number_at s _ k _ (by omega) (by omega) hs').mono ?_; rintro e w1 ⟨rfl, hb1⟩; rw [tokV_eq]; have HB := tok_block hb1) | (refine wpList_store_blk rfl 63 (.tmp 4) (.tmp 26) rfl 8 info63 w.heap.size 63 _ HB.out rfl (tc (numL (sfx s k))).cells rfl rfl rfl rfl ?_))
      exact bodyPost_ret (results_cell3 rfl _ _ w.heap.size 63 _ (0, 0) _ rfl (setRow_heap HB.out _) Try.underlying63 rfl info63) rfl ⟨ret_eq (by rw [← HT.out, tokV_eq]; simp), tok_end hb1 _⟩
  · have HT : Hid (tokV k (nameL (sfx s k)) = tokV k (tokenL (sfx s k))) := by show _ = _; rw [hc]; simp only [tokenL, hl, if_true]
    clear hc
    go_enter Try.func42, Try.ntmps42
    go_wp2_with (first | (go_at_call 49; refine (letter_any _ _).mono ?_; rintro e w' ⟨rfl, rfl⟩; simp only [hl]) | (go_at_call 51; refine (digit_any _ _).mono ?_; rintro e w' ⟨rfl, rfl⟩; simp only [hd]) | (go_at_call 50; refine (name_at s _ k _ (by omega) (by omega) hs').mono ?_; rintro e w1 ⟨rfl, hb1⟩; rw [tokV_eq]; have HB := tok_block hb1) | (refine wpList_store_blk rfl 63 (.tmp 4) (.tmp 17) rfl 8 info63 w.heap.size 63 _ HB.out rfl (tc (nameL (sfx s k))).cells rfl rfl rfl rfl ?_))
    exact bodyPost_ret (results_cell3 rfl _ _ w.heap.size 63 _ (0, 0) _ rfl (setRow_heap HB.out _) Try.underlying63 rfl info63) rfl ⟨ret_eq (by rw [← HT.out, tokV_eq]; simp), tok_end hb1 _⟩
end Go.Proofs.Ytcedjjlflahpcaa
