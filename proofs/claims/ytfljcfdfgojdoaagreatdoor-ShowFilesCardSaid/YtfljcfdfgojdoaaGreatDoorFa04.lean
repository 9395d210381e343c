/-
  The contract of lex.token, for a text of no more than 2^47 bytes.
  The contract of lex.Next, for a text of no more than 2^47 bytes.
  The contract of lex.All, for a text of no more than 2^47 bytes.
  What package parse computes out of tokens, as plain functions; no program in sight.
-/
import Derived.Test.YtfljcfdfgojdoaaGreatDoorFa03
import Derived.Test.YtfljcfdfgojdoaaGreatDoorFa01
namespace Go.Proofs.YtfljcfdfgojdoaaGreatDoor
open Go.RowKit Go.Lib

/-- a token that was read, or none; the place behind it; what is wrong -/
def tc : Except Int (Tok × Nat) → Tok
  | .ok (t, _) => t
  | .error _ => Tok.zero
def tn (k : Nat) : Except Int (Tok × Nat) → Int
  | .ok (_, n) => (k : Int) + n
  | .error _ => 0
def te : Except Int (Tok × Nat) → Int
  | .ok _ => 0
  | .error e => e
theorem tokV_eq (k : Nat) (x : Except Int (Tok × Nat)) : tokV k x = .tuple #[.agg (tc x).cells, .int .i64 (tn k x), .int .i64 (te x)] := by
  rcases x with e | ⟨t, n⟩ <;> rfl
def bump : Except Int (Tok × Nat) → Except Int (Tok × Nat)
  | .ok (t, n) => .ok (t, n + 1)
  | .error e => .error e
theorem tokV_bump (k : Nat) (x : Except Int (Tok × Nat)) : tokV (k + 1) x = tokV k (bump x) := by
  rcases x with e | ⟨t, n⟩
  · rfl
  · simp [tokV, bump]; omega
theorem tok_block {w w1 : World} {cs : Array Value} (h : Below (w.alloc (.cells cs 139)).heap.size (w.alloc (.cells cs 139)) w1) : Hid (w1.heap[w.heap.size]? = some (.cells cs 139 (0, 0))) :=
  (h.block w.heap.size (by simp)).trans (heap_alloc_new _ _)
theorem tok_end {w w1 : World} {cs : Array Value} (h : Below (w.alloc (.cells cs 139)).heap.size (w.alloc (.cells cs 139)) w1) (cs' : Array Value) : Below w.heap.size w (w1.setRow w.heap.size cs') :=
  Below.setRow (((Below.refl w.heap.size w).alloc (Nat.le_refl _) _).trans (h.mono (by simp))) (Nat.le_refl _) cs'
/-- a token from its first byte on -/
def tokenL (r : List B) : Except Int (Tok × Nat) :=
  match r with
  | [] => .error 4
  | c :: r' =>
    if letterB c.toNat then nameL r else
    if digitB c.toNat then numL r else
    if ((c.toNat : Int) == 34) = true then bump (quotedL r') else
    if ((c.toNat : Int) == 91) = true then bump (bytesL r') else signL r

theorem name_at (s : ByteArray) (a : Int) (k : Nat) (w : World) (ha : a = k) (hk : k ≤ s.size) (hs : s.size ≤ maxLen) :
    Calls Tryz.prog 201 #[.string s, .int .i64 a] w fun e w' => e = .returned (tokV k (nameL (sfx s k))) ∧ Below w.heap.size w w' := by
  subst ha; exact name_any s k w hk hs
theorem number_at (s : ByteArray) (a : Int) (k : Nat) (w : World) (ha : a = k) (hk : k ≤ s.size) (hs : s.size ≤ maxLen) :
    Calls Tryz.prog 203 #[.string s, .int .i64 a] w fun e w' => e = .returned (tokV k (numL (sfx s k))) ∧ Below w.heap.size w w' := by
  subst ha; exact number_any s k w hk hs
theorem quoted_at (s : ByteArray) (a : Int) (k : Nat) (w : World) (ha : a = k) (hk : k ≤ s.size) (hs : s.size ≤ 140737488351232) :
    Calls Tryz.prog 204 #[.string s, .int .i64 a] w fun e w' => e = .returned (tokV k (quotedL (sfx s k))) ∧ Below w.heap.size w w' := by
  subst ha; exact quoted_any s k w hk hs
theorem bytes_at (s : ByteArray) (a : Int) (k : Nat) (w : World) (ha : a = k) (hk : k ≤ s.size) (hs : s.size ≤ maxLen) :
    Calls Tryz.prog 205 #[.string s, .int .i64 a] w fun e w' => e = .returned (tokV k (bytesL (sfx s k))) ∧ Below w.heap.size w w' := by
  subst ha; exact bytes_any s k w hk hs
theorem sign_at (s : ByteArray) (a : Int) (k : Nat) (w : World) (ha : a = k) (hk : k < s.size) (hs : s.size ≤ maxLen) :
    Calls Tryz.prog 206 #[.string s, .int .i64 a] w fun e w' => e = .returned (tokV k (signL (sfx s k))) ∧ Below w.heap.size w w' := by
  subst ha; exact sign_any s k w hk hs

set_option maxRecDepth 100000 in
set_option maxHeartbeats 1000000 in
theorem token_any (s : ByteArray) (k : Nat) (w : World) (hk : k < s.size) (hs : s.size ≤ 140737488351232) :
    Calls Tryz.prog 176 #[.string s, .int .i64 k] w fun e w' => e = .returned (tokV k (tokenL (sfx s k))) ∧ Below w.heap.size w w' := by
  have hs' : s.size ≤ maxLen := by unfold maxLen; omega
  have HS := hid hs
  clear hs
  have hs := hs'
  unfold maxLen at hs
  have hc := sfx_cons s k hk
  cases hl : letterB s[k].toNat
  · cases hd : digitB s[k].toNat
    · cases h34 : ((s[k].toNat : Int) == 34)
      · cases h91 : ((s[k].toNat : Int) == 91)
        · have HT : Hid (tokV k (signL (sfx s k)) = tokV k (tokenL (sfx s k))) := by show _ = _; rw [hc]; simp only [tokenL, hl, hd, h34, h91, Bool.false_eq_true, if_false]
          clear hc
          go_enter Tryz.func176, Tryz.ntmps176
          go_wp2_with (first | (go_at_call 200; refine (letter_any _ _).mono ?_; rintro e w' ⟨rfl, rfl⟩; simp only [hl]) | (go_at_call 202; refine (digit_any _ _).mono ?_; rintro e w' ⟨rfl, rfl⟩; simp only [hd]) | (go_at_call 206; refine (sign_at s _ k _ (by omega) (by omega) hs').mono ?_; rintro e w1 ⟨rfl, hb1⟩; rw [tokV_eq]; have HB := tok_block hb1) | (refine wpList_store_blk rfl 139 (.tmp 4) (.tmp 52) rfl 8 info63 w.heap.size 139 _ HB.out rfl (tc (signL (sfx s k))).cells rfl rfl rfl rfl ?_))
          exact bodyPost_ret (results_cell3 rfl _ _ w.heap.size 139 _ (0, 0) _ rfl (setRow_heap HB.out _) Tryz.underlying139 rfl info63) rfl ⟨ret_eq (by rw [← HT.out, tokV_eq]; simp), tok_end hb1 _⟩
        · have HT : Hid (tokV (k + 1) (bytesL (sfx s (k + 1))) = tokV k (tokenL (sfx s k))) := by show _ = _; rw [hc, tokV_bump]; simp only [tokenL, hl, hd, h34, h91, Bool.false_eq_true, if_false, if_true]
          clear hc
          go_enter Tryz.func176, Tryz.ntmps176
          go_wp2_with (first | (go_at_call 200; refine (letter_any _ _).mono ?_; rintro e w' ⟨rfl, rfl⟩; simp only [hl]) | (go_at_call 202; refine (digit_any _ _).mono ?_; rintro e w' ⟨rfl, rfl⟩; simp only [hd]) | (go_at_call 205; refine (bytes_at s _ (k + 1) _ (by omega) (by omega) hs').mono ?_; rintro e w1 ⟨rfl, hb1⟩; rw [tokV_eq]; have HB := tok_block hb1) | (refine wpList_store_blk rfl 139 (.tmp 4) (.tmp 46) rfl 8 info63 w.heap.size 139 _ HB.out rfl (tc (bytesL (sfx s (k + 1)))).cells rfl rfl rfl rfl ?_))
          exact bodyPost_ret (results_cell3 rfl _ _ w.heap.size 139 _ (0, 0) _ rfl (setRow_heap HB.out _) Tryz.underlying139 rfl info63) rfl ⟨ret_eq ((tokV_eq (k + 1) _).symm.trans HT.out), tok_end hb1 _⟩
      · have HT : Hid (tokV (k + 1) (quotedL (sfx s (k + 1))) = tokV k (tokenL (sfx s k))) := by show _ = _; rw [hc, tokV_bump]; simp only [tokenL, hl, hd, h34, Bool.false_eq_true, if_false, if_true]
        clear hc
        go_enter Tryz.func176, Tryz.ntmps176
        go_wp2_with (first | (go_at_call 200; refine (letter_any _ _).mono ?_; rintro e w' ⟨rfl, rfl⟩; simp only [hl]) | (go_at_call 202; refine (digit_any _ _).mono ?_; rintro e w' ⟨rfl, rfl⟩; simp only [hd]) | (go_at_call 204; refine (quoted_at s _ (k + 1) _ (by omega) (by omega) HS.out).mono ?_; rintro e w1 ⟨rfl, hb1⟩; rw [tokV_eq]; have HB := tok_block hb1) | (refine wpList_store_blk rfl 139 (.tmp 4) (.tmp 36) rfl 8 info63 w.heap.size 139 _ HB.out rfl (tc (quotedL (sfx s (k + 1)))).cells rfl rfl rfl rfl ?_))
        exact bodyPost_ret (results_cell3 rfl _ _ w.heap.size 139 _ (0, 0) _ rfl (setRow_heap HB.out _) Tryz.underlying139 rfl info63) rfl ⟨ret_eq ((tokV_eq (k + 1) _).symm.trans HT.out), tok_end hb1 _⟩
    · have HT : Hid (tokV k (numL (sfx s k)) = tokV k (tokenL (sfx s k))) := by show _ = _; rw [hc]; simp only [tokenL, hl, hd, Bool.false_eq_true, if_false, if_true]
      clear hc
      go_enter Tryz.func176, Tryz.ntmps176
      go_wp2_with (first | (go_at_call 200; refine (letter_any _ _).mono ?_; rintro e w' ⟨rfl, rfl⟩; simp only [hl]) | (go_at_call 202; refine (digit_any _ _).mono ?_; rintro e w' ⟨rfl, rfl⟩; simp only [hd]) | (go_at_call 203; refine (number_at s _ k _ (by omega) (by omega) hs').mono ?_; rintro e w1 ⟨rfl, hb1⟩; rw [tokV_eq]; have HB := tok_block hb1) | (refine wpList_store_blk rfl 139 (.tmp 4) (.tmp 26) rfl 8 info63 w.heap.size 139 _ HB.out rfl (tc (numL (sfx s k))).cells rfl rfl rfl rfl ?_))
      exact bodyPost_ret (results_cell3 rfl _ _ w.heap.size 139 _ (0, 0) _ rfl (setRow_heap HB.out _) Tryz.underlying139 rfl info63) rfl ⟨ret_eq (by rw [← HT.out, tokV_eq]; simp), tok_end hb1 _⟩
  · have HT : Hid (tokV k (nameL (sfx s k)) = tokV k (tokenL (sfx s k))) := by show _ = _; rw [hc]; simp only [tokenL, hl, if_true]
    clear hc
    go_enter Tryz.func176, Tryz.ntmps176
    go_wp2_with (first | (go_at_call 200; refine (letter_any _ _).mono ?_; rintro e w' ⟨rfl, rfl⟩; simp only [hl]) | (go_at_call 202; refine (digit_any _ _).mono ?_; rintro e w' ⟨rfl, rfl⟩; simp only [hd]) | (go_at_call 201; refine (name_at s _ k _ (by omega) (by omega) hs').mono ?_; rintro e w1 ⟨rfl, hb1⟩; rw [tokV_eq]; have HB := tok_block hb1) | (refine wpList_store_blk rfl 139 (.tmp 4) (.tmp 17) rfl 8 info63 w.heap.size 139 _ HB.out rfl (tc (nameL (sfx s k))).cells rfl rfl rfl rfl ?_))
    exact bodyPost_ret (results_cell3 rfl _ _ w.heap.size 139 _ (0, 0) _ rfl (setRow_heap HB.out _) Tryz.underlying139 rfl info63) rfl ⟨ret_eq (by rw [← HT.out, tokV_eq]; simp), tok_end hb1 _⟩
end Go.Proofs.YtfljcfdfgojdoaaGreatDoor

namespace Go.Proofs.YtfljcfdfgojdoaaGreatDoor
open Go.RowKit Go.Lib

theorem white_len : ∀ (b : Bool) (r : List B), (white b r).length ≤ r.length
  | _, [] => by simp [white]
  | true, c :: r => by
    unfold white
    split
    · have := white_len false r; simp only [List.length_cons]; omega
    · have := white_len true r; simp only [List.length_cons]; omega
  | false, c :: r => by
    unfold white
    split
    · have := white_len false r; simp only [List.length_cons]; omega
    · split
      · have := white_len true r; simp only [List.length_cons]; omega
      · exact Nat.le_refl _
theorem white_suffix : ∀ (b : Bool) (r : List B), white b r <:+ r
  | _, [] => by simp [white]
  | true, c :: r => by
    unfold white
    split
    · exact (white_suffix false r).trans (List.suffix_cons _ _)
    · exact (white_suffix true r).trans (List.suffix_cons _ _)
  | false, c :: r => by
    unfold white
    split
    · exact (white_suffix false r).trans (List.suffix_cons _ _)
    · split
      · exact (white_suffix true r).trans (List.suffix_cons _ _)
      · exact List.suffix_rfl
theorem suffix_drop {a r : List B} (h : a <:+ r) : a = r.drop (r.length - a.length) := by
  obtain ⟨p, rfl⟩ := h
  simp
theorem white_sfx (s : ByteArray) (k : Nat) (hk : k ≤ s.size) : white false (sfx s k) = sfx s (s.size - (white false (sfx s k)).length) := by
  have h := suffix_drop (white_suffix false (sfx s k))
  have hl := white_len false (sfx s k)
  have hsl := sfx_len s k
  rw [sfx_drop, hsl] at h
  rw [hsl] at hl
  have e : k + (s.size - k - (white false (sfx s k)).length) = s.size - (white false (sfx s k)).length := by omega
  rw [e] at h
  exact h
theorem alloc_old {w : World} {o : Obj} {k : Nat} (h : k < w.heap.size) : (w.alloc o).heap[k]? = w.heap[k]? := Below.heap_alloc _ _ _ h
theorem tok_lt {w w1 : World} {cs : Array Value} (h : Below (w.alloc (.cells cs 139)).heap.size (w.alloc (.cells cs 139)) w1) : w.heap.size < w1.heap.size := by
  have := h.size; simp at this; omega
theorem next_end {w w1 : World} {cs : Array Value} (h : Below (w.alloc (.cells cs 139)).heap.size (w.alloc (.cells cs 139)) w1) (hl : w.heap.size < w1.heap.size) (o : Obj) (cs' : Array Value) : Below w.heap.size w ((w1.alloc o).setRow w.heap.size cs') :=
  Below.setRow ((((Below.refl w.heap.size w).alloc (Nat.le_refl _) _).trans (h.mono (by simp))).alloc (Nat.le_of_lt hl) o) (Nat.le_refl _) cs'
/-- a token behind white; the place behind it; what is wrong -/
structure Nx where
  tok : Tok
  next : Nat
  err : Int
def nextAt (p : Nat) (r : List B) : Nx :=
  match r with
  | [] => ⟨⟨0, [], Se.none, 0, p⟩, p, 0⟩
  | _ :: _ =>
    match tokenL r with
    | .error e => ⟨Tok.zero, p, e⟩
    | .ok (t, n) => ⟨{ t with pos := p }, p + n, 0⟩
def nextL (k : Nat) (r : List B) : Nx := nextAt (k + (r.length - (white false r).length)) (white false r)
def Nx.v (x : Nx) : Value := .tuple #[.agg x.tok.cells, .int .i64 x.next, .int .i64 x.err]
theorem nextL_sfx (s : ByteArray) (k : Nat) (hk : k ≤ s.size) : ∃ p, k ≤ p ∧ p ≤ s.size ∧ s.size - (white false (sfx s k)).length = p ∧ nextL k (sfx s k) = nextAt p (sfx s p) := by
  have hl := white_len false (sfx s k)
  have hsl := sfx_len s k
  refine ⟨s.size - (white false (sfx s k)).length, by omega, by omega, rfl, ?_⟩
  unfold nextL
  rw [← white_sfx s k hk]
  congr 1
  omega
theorem nextAt_end (s : ByteArray) : nextAt s.size (sfx s s.size) = ⟨⟨0, [], Se.none, 0, s.size⟩, s.size, 0⟩ := by
  rw [sfx_nil s s.size (Nat.le_refl _)]; rfl
theorem nextAt_bad {s : ByteArray} {p : Nat} {e : Int} (h : p < s.size) (h1 : tokenL (sfx s p) = .error e) : nextAt p (sfx s p) = ⟨Tok.zero, p, e⟩ := by
  rw [sfx_cons s p h] at h1 ⊢
  simp only [nextAt, h1]
theorem nextAt_ok {s : ByteArray} {p n : Nat} {t : Tok} (h : p < s.size) (h1 : tokenL (sfx s p) = .ok (t, n)) : nextAt p (sfx s p) = ⟨{ t with pos := p }, p + n, 0⟩ := by
  rw [sfx_cons s p h] at h1 ⊢
  simp only [nextAt, h1]
theorem token_at (s : ByteArray) (a : Int) (k : Nat) (w : World) (ha : a = k) (hk : k < s.size) (hs : s.size ≤ 140737488351232) :
    Calls Tryz.prog 176 #[.string s, .int .i64 a] w fun e w' => e = .returned (tokV k (tokenL (sfx s k))) ∧ Below w.heap.size w w' := by
  subst ha; exact token_any s k w hk hs
theorem nz2 {e : Int} (h : e = 2 ∨ e = 4 ∨ e = 6) : (e != 0) = true := by rcases h with rfl | rfl | rfl <;> rfl
theorem quoL_err : ∀ (f : Nat) (acc r : List B) (e : Int), quoL f acc r = .error e → e = 4 ∨ e = 6
  | 0, _, _, e, h => by cases h; exact .inr rfl
  | _ + 1, _, [], e, h => by cases h; exact .inr rfl
  | f + 1, acc, c :: r, e, h => by
    rw [quoL] at h
    split at h
    · cases h
    · split at h
      · rename_i h1; cases h; exact oneL_err h1
      · exact quoL_err f _ _ e h
theorem setL_err : ∀ (f : Nat) (t : Se) (r : List B) (e : Int), setL f t r = .error e → e = 4 ∨ e = 6
  | 0, _, _, e, h => by cases h; exact .inr rfl
  | _ + 1, _, [], e, h => by cases h; exact .inr rfl
  | f + 1, t, c :: r, e, h => by
    rw [setL] at h
    split at h
    · cases h
    · split at h
      · rename_i h1; cases h; exact oneL_err h1
      · split at h
        · exact setL_err f _ _ e h
        · split at h
          · split at h
            · rename_i h1; cases h; exact oneL_err h1
            · split at h
              · cases h; exact .inl rfl
              · exact setL_err f _ _ e h
          · exact setL_err f _ _ e h
theorem bump_err {x : Except Int (Tok × Nat)} {e : Int} (h : bump x = .error e) : x = .error e := by
  rcases x with e' | ⟨t, n⟩
  · exact h
  · cases h
theorem setFin_err {n : Nat} {b : Bool} {x : Except Int (Se × List B)} {e : Int} (h : setFin n b x = .error e) : x = .error e := by
  rcases x with e' | ⟨t, r⟩
  · cases h; rfl
  · cases h
theorem bytesL_err {r : List B} {e : Int} (h : bytesL r = .error e) : e = 4 ∨ e = 6 := by
  unfold bytesL at h
  split at h
  · exact setL_err _ _ _ _ (setFin_err h)
  · split at h
    · exact setL_err _ _ _ _ (setFin_err h)
    · exact setL_err _ _ _ _ (setFin_err h)
theorem quotedL_err {r : List B} {e : Int} (h : quotedL r = .error e) : e = 2 ∨ e = 4 ∨ e = 6 := by
  unfold quotedL at h
  split at h
  · rename_i h1; cases h; exact .inr (quoL_err _ _ _ _ h1)
  · split at h
    · cases h; exact .inl rfl
    · cases h
theorem signL_err {r : List B} {e : Int} (h : signL r = .error e) : e = 4 := by
  unfold signL at h
  split at h
  · cases h
  · split at h
    · cases h; rfl
    · split at h
      · cases h
      · cases h; rfl
theorem tokenL_err {r : List B} {e : Int} (h : tokenL r = .error e) : e = 2 ∨ e = 4 ∨ e = 6 := by
  unfold tokenL at h
  split at h
  · cases h; exact .inr (.inl rfl)
  · split at h
    · unfold nameL at h; split at h
      · cases h; exact .inl rfl
      · cases h
    · split at h
      · unfold numL at h; split at h
        · cases h; exact .inl rfl
        · cases h
      · split at h
        · exact quotedL_err (bump_err h)
        · split at h
          · exact .inr (bytesL_err (bump_err h))
          · exact .inr (.inl (signL_err h))

set_option maxRecDepth 100000 in
set_option maxHeartbeats 1000000 in
theorem next_any (s : ByteArray) (k : Nat) (w : World) (hk : k ≤ s.size) (hs : s.size ≤ 140737488351232) :
    Calls Tryz.prog 144 #[.string s, .int .i64 k] w fun e w' => e = .returned (nextL k (sfx s k)).v ∧ Below w.heap.size w w' := by
  have hs' : s.size ≤ maxLen := by unfold maxLen; omega
  have HS := hid hs
  clear hs
  have hs := hs'
  unfold maxLen at hs
  obtain ⟨p, hkp, hp, hpe, hpn⟩ := nextL_sfx s k hk
  have HP := hid hpe
  have HN := hid hpn
  clear hpe hpn
  by_cases hlt : p < s.size
  · rcases h1 : tokenL (sfx s p) with e | ⟨t, n⟩
    · have he := nz2 (tokenL_err h1)
      have hx := hid (HN.out.trans (nextAt_bad hlt h1))
      have H1 := hid h1
      clear h1
      go_enter Tryz.func144, Tryz.ntmps144
      go_wp2_with (first | (go_at_call 175; refine (white_any s k _ hk hs').mono ?_; rintro e w' ⟨rfl, rfl⟩; rw [HP.out]) | (go_at_call 176; refine (token_at s _ p _ (by omega) (by omega) HS.out).mono ?_; rintro e w1 ⟨rfl, hb1⟩; rw [H1.out]; simp only [tokV, Tok.cells, Tok.zero, Se.none]; have HB := tok_block hb1; have HL := tok_lt hb1) | (refine wpList_store_blk rfl 139 (.tmp 4) (.tmp 38) rfl 8 info63 w.heap.size 139 _ ((alloc_old HL).trans HB.out) rfl Tok.zero.cells rfl rfl rfl rfl ?_))
      exact bodyPost_ret (results_cell3 rfl _ _ w.heap.size 139 _ (0, 0) _ rfl (setRow_heap ((alloc_old HL).trans HB.out) _) Tryz.underlying139 rfl info63) rfl ⟨ret_eq (by rw [hx.out]; simp [Nx.v]), next_end hb1 HL _ _⟩
    · have hx := hid (HN.out.trans (nextAt_ok hlt h1))
      have H1 := hid h1
      clear h1
      go_enter Tryz.func144, Tryz.ntmps144
      go_wp2_with (first | (go_at_call 175; refine (white_any s k _ hk hs').mono ?_; rintro e w' ⟨rfl, rfl⟩; rw [HP.out]) | (go_at_call 176; refine (token_at s _ p _ (by omega) (by omega) HS.out).mono ?_; rintro e w1 ⟨rfl, hb1⟩; rw [H1.out]; simp only [tokV, Tok.cells]; have HB := tok_block hb1; have HL := tok_lt hb1) | (refine wpList_store_blk rfl 139 (.tmp 4) (.tmp 43) rfl 8 info63 w.heap.size 139 _ ((alloc_old HL).trans HB.out) rfl ({ t with pos := p } : Tok).cells rfl rfl rfl rfl ?_))
      exact bodyPost_ret (results_cell3 rfl _ _ w.heap.size 139 _ (0, 0) _ rfl (setRow_heap ((alloc_old HL).trans HB.out) _) Tryz.underlying139 rfl info63) rfl ⟨ret_eq (by rw [hx.out]; simp [Nx.v]), next_end hb1 HL _ _⟩
  · obtain rfl : p = s.size := by omega
    have hx := hid (HN.out.trans (nextAt_end s))
    go_enter Tryz.func144, Tryz.ntmps144
    go_wp2_with (first | (go_at_call 175; refine (white_any s k _ hk hs').mono ?_; rintro e w' ⟨rfl, rfl⟩; rw [HP.out]) | (refine wpList_store_blk rfl 139 (.tmp 4) (.tmp 27) rfl 8 info63 w.heap.size 139 _ (heap_alloc_new _ _) rfl (⟨0, [], Se.none, 0, s.size⟩ : Tok).cells rfl rfl rfl rfl ?_))
    exact bodyPost_ret (results_cell3 rfl _ _ w.heap.size 139 _ (0, 0) _ rfl (setRow_heap (heap_alloc_new _ _) _) Tryz.underlying139 rfl info63) rfl ⟨ret_eq (by rw [hx.out]; simp [Nx.v]), Below.setRow ((Below.refl w.heap.size w).alloc (Nat.le_refl _) _) (Nat.le_refl _) _⟩
end Go.Proofs.YtfljcfdfgojdoaaGreatDoor

namespace Go.Proofs.YtfljcfdfgojdoaaGreatDoor
open Go.RowKit Go.Lib

theorem takeWhile_le (p : B → Bool) (r : List B) : (r.takeWhile p).length ≤ r.length := (List.takeWhile_prefix p).length_le
theorem bump_ok {x : Except Int (Tok × Nat)} {t : Tok} {n : Nat} (h : bump x = .ok (t, n)) : ∃ m, x = .ok (t, m) ∧ n = m + 1 := by
  rcases x with e' | ⟨t', m⟩
  · cases h
  · cases h; exact ⟨m, rfl, rfl⟩
theorem setFin_ok {n m : Nat} {b : Bool} {x : Except Int (Se × List B)} {t : Tok} (h : setFin n b x = .ok (t, m)) : t.kind = 3 ∧ m ≤ n := by
  rcases x with e' | ⟨u, r⟩
  · cases h
  · cases h; exact ⟨rfl, Nat.sub_le _ _⟩
theorem next_at (s : ByteArray) (a : Int) (k : Nat) (w : World) (ha : a = k) (hk : k ≤ s.size) (hs : s.size ≤ 140737488351232) :
    Calls Tryz.prog 144 #[.string s, .int .i64 a] w fun e w' => e = .returned (nextL k (sfx s k)).v ∧ Below w.heap.size w w' := by
  subst ha; exact next_any s k w hk hs

theorem one_of_all {l : List Value} (h : l.all (·.oneCell') = true) : ∀ u ∈ l, u.oneCell' = true := List.all_eq_true.1 h
def tokCells (l : List Tok) : List Value := l.flatMap fun t => t.cells.toList
theorem tokCells_snoc (l : List Tok) (t : Tok) : tokCells (l ++ [t]) = tokCells l ++ t.cells.toList := by simp [tokCells]
end Go.Proofs.YtfljcfdfgojdoaaGreatDoor

/- Plain functions that say what package parse computes out of tokens; no program in sight. -/
namespace Go.Proofs.YtfljcfdfgojdoaaGreatDoor
open Go.Lib

/-- an expression -/
inductive Re where
  | mk (kind : Int) (text : List B) (set : Se) (parts : List Re) (min : Int) (max : Int)
/-- what a parser hands back: a place and what is wrong there, or an expression and the place behind it -/
abbrev R := Except (Int × Int) (Re × Nat)
def tokAt (T : List Tok) (i : Nat) : Tok := T.getD i Tok.zero
def isB (t : Tok) (s : List B) : Bool := t.kind == 4 && t.text == s
def reservedB (s : List B) : Bool := s == [100, 101, 102] || s == [109, 97, 112] || s == [116, 111, 107, 101, 110] || s == [114, 117, 108, 101] || s == [95]
def nameM (T : List Tok) (a : Nat) : Except (Int × Int) (List B × Nat) :=
  let t := tokAt T a
  if reservedB t.text = true then .error (t.pos, 4) else
  if (t.kind != 1) = true then .error (t.pos, 4) else .ok (t.text, a + 1)
def leafM (notNone : Se) (T : List Tok) (a : Nat) : R :=
  let t := tokAt T a
  if (t.kind == 2) = true then .ok (.mk 1 t.text Se.none [] 0 0, a + 1) else
  if (t.kind == 3) = true then .ok (.mk 2 [] t.set [] 0 0, a + 1) else
  if (t.kind == 1) = true then (match nameM T a with | .error e => .error e | .ok (s, a') => .ok (.mk 3 s Se.none [] 0 0, a')) else
  if isB t [46] = true then .ok (.mk 2 [] notNone [] 0 0, a + 1) else .error (t.pos, 4)
def beginsB (t : Tok) : Bool :=
  if (t.kind == 2) = true ∨ (t.kind == 3) = true then true else
  if (t.kind == 1) = true then !reservedB t.text else isB t [46] || isB t [40]
/-- how often, whether that is told, and the place behind it -/
structure Often where
  least : Int
  most : Int
  ok : Bool
  next : Nat
def oftenM (T : List Tok) (a : Nat) : Often :=
  let t := tokAt T a
  if isB t [42] = true then ⟨0, -1, true, a + 1⟩ else
  if isB t [43] = true then ⟨1, -1, true, a + 1⟩ else
  if isB t [63] = true then ⟨0, 1, true, a + 1⟩ else ⟨0, 0, false, a⟩
end Go.Proofs.YtfljcfdfgojdoaaGreatDoor
