/-
  The contract of lex.Next, for a text of no more than 2^47 bytes.
  The contract of lex.All, for a text of no more than 2^47 bytes.
  What package parse computes out of tokens, as plain functions; no program in sight.
-/
import Derived.Test.YtfljcfdfgojdoaaGreatDoorAa03
import Derived.Test.YtfljcfdfgojdoaaGreatDoorAa01
namespace Go.Proofs.YtfljcfdfgojdoaaGreatDoor
open Go.RowKit Go.Lib

theorem white_len : ∀ (b : Bool) (r : List B), (white b r).length ≤ r.length
  | _, [] => by simp [white]
  | true, c :: r => by
    unfold white
    split
    · have := white_len false r; simp only [List.length_cons]; omega
    · have := white_len true r; simp only [List.length_cons]; omega
  | false, c :: r => by
    unfold white
    split
    · have := white_len false r; simp only [List.length_cons]; omega
    · split
      · have := white_len true r; simp only [List.length_cons]; omega
      · exact Nat.le_refl _
theorem white_suffix : ∀ (b : Bool) (r : List B), white b r <:+ r
  | _, [] => by simp [white]
  | true, c :: r => by
    unfold white
    split
    · exact (white_suffix false r).trans (List.suffix_cons _ _)
    · exact (white_suffix true r).trans (List.suffix_cons _ _)
  | false, c :: r => by
    unfold white
    split
    · exact (white_suffix false r).trans (List.suffix_cons _ _)
    · split
      · exact (white_suffix true r).trans (List.suffix_cons _ _)
      · exact List.suffix_rfl
theorem suffix_drop {a r : List B} (h : a <:+ r) : a = r.drop (r.length - a.length) := by
  obtain ⟨p, rfl⟩ := h
  simp
theorem white_sfx (s : ByteArray) (k : Nat) (hk : k ≤ s.size) : white false (sfx s k) = sfx s (s.size - (white false (sfx s k)).length) := by
  have h := suffix_drop (white_suffix false (sfx s k))
  have hl := white_len false (sfx s k)
  have hsl := sfx_len s k
  rw [sfx_drop, hsl] at h
  rw [hsl] at hl
  have e : k + (s.size - k - (white false (sfx s k)).length) = s.size - (white false (sfx s k)).length := by omega
  rw [e] at h
  exact h
theorem alloc_old {w : World} {o : Obj} {k : Nat} (h : k < w.heap.size) : (w.alloc o).heap[k]? = w.heap[k]? := Below.heap_alloc _ _ _ h
theorem tok_lt {w w1 : World} {cs : Array Value} (h : Below (w.alloc (.cells cs 139)).heap.size (w.alloc (.cells cs 139)) w1) : w.heap.size < w1.heap.size := by
  have := h.size; simp at this; omega
theorem next_end {w w1 : World} {cs : Array Value} (h : Below (w.alloc (.cells cs 139)).heap.size (w.alloc (.cells cs 139)) w1) (hl : w.heap.size < w1.heap.size) (o : Obj) (cs' : Array Value) : Below w.heap.size w ((w1.alloc o).setRow w.heap.size cs') :=
  Below.setRow ((((Below.refl w.heap.size w).alloc (Nat.le_refl _) _).trans (h.mono (by simp))).alloc (Nat.le_of_lt hl) o) (Nat.le_refl _) cs'
/-- a token behind white; the place behind it; what is wrong -/
structure Nx where
  tok : Tok
  next : Nat
  err : Int
def nextAt (p : Nat) (r : List B) : Nx :=
  match r with
  | [] => ⟨⟨0, [], Se.none, 0, p⟩, p, 0⟩
  | _ :: _ =>
    match tokenL r with
    | .error e => ⟨Tok.zero, p, e⟩
    | .ok (t, n) => ⟨{ t with pos := p }, p + n, 0⟩
def nextL (k : Nat) (r : List B) : Nx := nextAt (k + (r.length - (white false r).length)) (white false r)
def Nx.v (x : Nx) : Value := .tuple #[.agg x.tok.cells, .int .i64 x.next, .int .i64 x.err]
theorem nextL_sfx (s : ByteArray) (k : Nat) (hk : k ≤ s.size) : ∃ p, k ≤ p ∧ p ≤ s.size ∧ s.size - (white false (sfx s k)).length = p ∧ nextL k (sfx s k) = nextAt p (sfx s p) := by
  have hl := white_len false (sfx s k)
  have hsl := sfx_len s k
  refine ⟨s.size - (white false (sfx s k)).length, by omega, by omega, rfl, ?_⟩
  unfold nextL
  rw [← white_sfx s k hk]
  congr 1
  omega
theorem nextAt_end (s : ByteArray) : nextAt s.size (sfx s s.size) = ⟨⟨0, [], Se.none, 0, s.size⟩, s.size, 0⟩ := by
  rw [sfx_nil s s.size (Nat.le_refl _)]; rfl
theorem nextAt_bad {s : ByteArray} {p : Nat} {e : Int} (h : p < s.size) (h1 : tokenL (sfx s p) = .error e) : nextAt p (sfx s p) = ⟨Tok.zero, p, e⟩ := by
  rw [sfx_cons s p h] at h1 ⊢
  simp only [nextAt, h1]
theorem nextAt_ok {s : ByteArray} {p n : Nat} {t : Tok} (h : p < s.size) (h1 : tokenL (sfx s p) = .ok (t, n)) : nextAt p (sfx s p) = ⟨{ t with pos := p }, p + n, 0⟩ := by
  rw [sfx_cons s p h] at h1 ⊢
  simp only [nextAt, h1]
theorem token_at (s : ByteArray) (a : Int) (k : Nat) (w : World) (ha : a = k) (hk : k < s.size) (hs : s.size ≤ 140737488351232) :
    Calls Tryz.prog 176 #[.string s, .int .i64 a] w fun e w' => e = .returned (tokV k (tokenL (sfx s k))) ∧ Below w.heap.size w w' := by
  subst ha; exact token_any s k w hk hs
theorem nz2 {e : Int} (h : e = 2 ∨ e = 4 ∨ e = 6) : (e != 0) = true := by rcases h with rfl | rfl | rfl <;> rfl
theorem quoL_err : ∀ (f : Nat) (acc r : List B) (e : Int), quoL f acc r = .error e → e = 4 ∨ e = 6
  | 0, _, _, e, h => by cases h; exact .inr rfl
  | _ + 1, _, [], e, h => by cases h; exact .inr rfl
  | f + 1, acc, c :: r, e, h => by
    rw [quoL] at h
    split at h
    · cases h
    · split at h
      · rename_i h1; cases h; exact oneL_err h1
      · exact quoL_err f _ _ e h
theorem setL_err : ∀ (f : Nat) (t : Se) (r : List B) (e : Int), setL f t r = .error e → e = 4 ∨ e = 6
  | 0, _, _, e, h => by cases h; exact .inr rfl
  | _ + 1, _, [], e, h => by cases h; exact .inr rfl
  | f + 1, t, c :: r, e, h => by
    rw [setL] at h
    split at h
    · cases h
    · split at h
      · rename_i h1; cases h; exact oneL_err h1
      · split at h
        · exact setL_err f _ _ e h
        · split at h
          · split at h
            · rename_i h1; cases h; exact oneL_err h1
            · split at h
              · cases h; exact .inl rfl
              · exact setL_err f _ _ e h
          · exact setL_err f _ _ e h
theorem bump_err {x : Except Int (Tok × Nat)} {e : Int} (h : bump x = .error e) : x = .error e := by
  rcases x with e' | ⟨t, n⟩
  · exact h
  · cases h
theorem setFin_err {n : Nat} {b : Bool} {x : Except Int (Se × List B)} {e : Int} (h : setFin n b x = .error e) : x = .error e := by
  rcases x with e' | ⟨t, r⟩
  · cases h; rfl
  · cases h
theorem bytesL_err {r : List B} {e : Int} (h : bytesL r = .error e) : e = 4 ∨ e = 6 := by
  unfold bytesL at h
  split at h
  · exact setL_err _ _ _ _ (setFin_err h)
  · split at h
    · exact setL_err _ _ _ _ (setFin_err h)
    · exact setL_err _ _ _ _ (setFin_err h)
theorem quotedL_err {r : List B} {e : Int} (h : quotedL r = .error e) : e = 2 ∨ e = 4 ∨ e = 6 := by
  unfold quotedL at h
  split at h
  · rename_i h1; cases h; exact .inr (quoL_err _ _ _ _ h1)
  · split at h
    · cases h; exact .inl rfl
    · cases h
theorem signL_err {r : List B} {e : Int} (h : signL r = .error e) : e = 4 := by
  unfold signL at h
  split at h
  · cases h
  · split at h
    · cases h; rfl
    · split at h
      · cases h
      · cases h; rfl
theorem tokenL_err {r : List B} {e : Int} (h : tokenL r = .error e) : e = 2 ∨ e = 4 ∨ e = 6 := by
  unfold tokenL at h
  split at h
  · cases h; exact .inr (.inl rfl)
  · split at h
    · unfold nameL at h; split at h
      · cases h; exact .inl rfl
      · cases h
    · split at h
      · unfold numL at h; split at h
        · cases h; exact .inl rfl
        · cases h
      · split at h
        · exact quotedL_err (bump_err h)
        · split at h
          · exact .inr (bytesL_err (bump_err h))
          · exact .inr (.inl (signL_err h))

set_option maxRecDepth 100000 in
set_option maxHeartbeats 1000000 in
theorem next_any (s : ByteArray) (k : Nat) (w : World) (hk : k ≤ s.size) (hs : s.size ≤ 140737488351232) :
    Calls Tryz.prog 144 #[.string s, .int .i64 k] w fun e w' => e = .returned (nextL k (sfx s k)).v ∧ Below w.heap.size w w' := by
  have hs' : s.size ≤ maxLen := by unfold maxLen; omega
  have HS := hid hs
  clear hs
  have hs := hs'
  unfold maxLen at hs
  obtain ⟨p, hkp, hp, hpe, hpn⟩ := nextL_sfx s k hk
  have HP := hid hpe
  have HN := hid hpn
  clear hpe hpn
  by_cases hlt : p < s.size
  · rcases h1 : tokenL (sfx s p) with e | ⟨t, n⟩
    · have he := nz2 (tokenL_err h1)
      have hx := hid (HN.out.trans (nextAt_bad hlt h1))
      have H1 := hid h1
      clear h1
      go_enter Tryz.func144, Tryz.ntmps144
      go_wp2_with (first | (go_at_call 175; refine (white_any s k _ hk hs').mono ?_; rintro e w' ⟨rfl, rfl⟩; rw [HP.out]) | (go_at_call 176; refine (token_at s _ p _ (by omega) (by omega) HS.out).mono ?_; rintro e w1 ⟨rfl, hb1⟩; rw [H1.out]; simp only [tokV, Tok.cells, Tok.zero, Se.none]; have HB := tok_block hb1; have HL := tok_lt hb1) | (refine wpList_store_blk rfl 139 (.tmp 4) (.tmp 38) rfl 8 info63 w.heap.size 139 _ ((alloc_old HL).trans HB.out) rfl Tok.zero.cells rfl rfl rfl rfl ?_))
      exact bodyPost_ret (results_cell3 rfl _ _ w.heap.size 139 _ (0, 0) _ rfl (setRow_heap ((alloc_old HL).trans HB.out) _) Tryz.underlying139 rfl info63) rfl ⟨ret_eq (by rw [hx.out]; simp [Nx.v]), next_end hb1 HL _ _⟩
    · have hx := hid (HN.out.trans (nextAt_ok hlt h1))
      have H1 := hid h1
      clear h1
      go_enter Tryz.func144, Tryz.ntmps144
      go_wp2_with (first | (go_at_call 175; refine (white_any s k _ hk hs').mono ?_; rintro e w' ⟨rfl, rfl⟩; rw [HP.out]) | (go_at_call 176; refine (token_at s _ p _ (by omega) (by omega) HS.out).mono ?_; rintro e w1 ⟨rfl, hb1⟩; rw [H1.out]; simp only [tokV, Tok.cells]; have HB := tok_block hb1; have HL := tok_lt hb1) | (refine wpList_store_blk rfl 139 (.tmp 4) (.tmp 43) rfl 8 info63 w.heap.size 139 _ ((alloc_old HL).trans HB.out) rfl ({ t with pos := p } : Tok).cells rfl rfl rfl rfl ?_))
      exact bodyPost_ret (results_cell3 rfl _ _ w.heap.size 139 _ (0, 0) _ rfl (setRow_heap ((alloc_old HL).trans HB.out) _) Tryz.underlying139 rfl info63) rfl ⟨ret_eq (by rw [hx.out]; simp [Nx.v]), next_end hb1 HL _ _⟩
  · obtain rfl : p = s.size := by omega
    have hx := hid (HN.out.trans (nextAt_end s))
    go_enter Tryz.func144, Tryz.ntmps144
    go_wp2_with (first | (go_at_call 175; refine (white_any s k _ hk hs').mono ?_; rintro e w' ⟨rfl, rfl⟩; rw [HP.out]) | (refine wpList_store_blk rfl 139 (.tmp 4) (.tmp 27) rfl 8 info63 w.heap.size 139 _ (heap_alloc_new _ _) rfl (⟨0, [], Se.none, 0, s.size⟩ : Tok).cells rfl rfl rfl rfl ?_))
    exact bodyPost_ret (results_cell3 rfl _ _ w.heap.size 139 _ (0, 0) _ rfl (setRow_heap (heap_alloc_new _ _) _) Tryz.underlying139 rfl info63) rfl ⟨ret_eq (by rw [hx.out]; simp [Nx.v]), Below.setRow ((Below.refl w.heap.size w).alloc (Nat.le_refl _) _) (Nat.le_refl _) _⟩
end Go.Proofs.YtfljcfdfgojdoaaGreatDoor

namespace Go.Proofs.YtfljcfdfgojdoaaGreatDoor
open Go.RowKit Go.Lib

theorem takeWhile_le (p : B → Bool) (r : List B) : (r.takeWhile p).length ≤ r.length := (List.takeWhile_prefix p).length_le
theorem bump_ok {x : Except Int (Tok × Nat)} {t : Tok} {n : Nat} (h : bump x = .ok (t, n)) : ∃ m, x = .ok (t, m) ∧ n = m + 1 := by
  rcases x with e' | ⟨t', m⟩
  · cases h
  · cases h; exact ⟨m, rfl, rfl⟩
theorem setFin_ok {n m : Nat} {b : Bool} {x : Except Int (Se × List B)} {t : Tok} (h : setFin n b x = .ok (t, m)) : t.kind = 3 ∧ m ≤ n := by
  rcases x with e' | ⟨u, r⟩
  · cases h
  · cases h; exact ⟨rfl, Nat.sub_le _ _⟩
theorem tokenL_ok {r : List B} {t : Tok} {n : Nat} (h : tokenL r = .ok (t, n)) : 1 ≤ n ∧ n ≤ r.length ∧ t.kind ≠ 0 := by
  unfold tokenL at h
  split at h
  · cases h
  · rename_i c r'
    split at h
    · rename_i hl
      unfold nameL at h
      split at h
      · cases h
      · cases h
        have h1 : nameLen (c :: r') = nameLen r' + 1 := nameLen_yes (nameB_letter hl)
        exact ⟨by omega, takeWhile_le _ _, by simp⟩
    · split at h
      · rename_i hd
        unfold numL at h
        split at h
        · cases h
        · cases h
          have h1 : digLen (c :: r') = digLen r' + 1 := digLen_yes hd
          exact ⟨by omega, takeWhile_le _ _, by simp⟩
      · split at h
        · obtain ⟨m, hm, rfl⟩ := bump_ok h
          unfold quotedL at hm
          split at hm
          · cases hm
          · split at hm
            · cases hm
            · cases hm
              exact ⟨by omega, by simp only [List.length_cons]; omega, by simp⟩
        · split at h
          · obtain ⟨m, hm, rfl⟩ := bump_ok h
            have hk : t.kind = 3 ∧ m ≤ r'.length := by
              unfold bytesL at hm
              split at hm
              · exact setFin_ok hm
              · split at hm
                · exact setFin_ok hm
                · exact setFin_ok hm
            exact ⟨by omega, by simp only [List.length_cons]; omega, by rw [hk.1]; decide⟩
          · unfold signL at h
            split at h
            · rename_i hp
              cases h
              refine ⟨by omega, ?_, by simp⟩
              unfold prefB at hp
              rw [beq_iff_eq] at hp
              have := congrArg List.length hp
              simp only [List.length_take, List.length_cons, List.length_nil] at this ⊢
              omega
            · split at h
              · cases h
              · split at h
                · cases h; exact ⟨by omega, by simp, by simp⟩
                · cases h
theorem nextL_facts (s : ByteArray) (k : Nat) (hk : k ≤ s.size) : (nextL k (sfx s k)).next ≤ s.size ∧ ((nextL k (sfx s k)).err = 0 → (nextL k (sfx s k)).tok.kind ≠ 0 → k < (nextL k (sfx s k)).next) := by
  obtain ⟨p, hkp, hp, _, hn⟩ := nextL_sfx s k hk
  rw [hn]
  by_cases hlt : p < s.size
  · rcases h1 : tokenL (sfx s p) with e | ⟨t, n⟩
    · rw [nextAt_bad hlt h1]
      have hz := nz2 (tokenL_err h1)
      exact ⟨hp, fun h => by simp at hz h; exact absurd h hz⟩
    · rw [nextAt_ok hlt h1]
      have := tokenL_ok h1
      rw [sfx_len] at this
      exact ⟨by show p + n ≤ _; omega, fun _ _ => by show k < p + n; omega⟩
  · obtain rfl : p = s.size := by omega
    rw [nextAt_end]
    exact ⟨Nat.le_refl _, fun _ h => absurd rfl h⟩
theorem next_at (s : ByteArray) (a : Int) (k : Nat) (w : World) (ha : a = k) (hk : k ≤ s.size) (hs : s.size ≤ 140737488351232) :
    Calls Tryz.prog 144 #[.string s, .int .i64 a] w fun e w' => e = .returned (nextL k (sfx s k)).v ∧ Below w.heap.size w w' := by
  subst ha; exact next_any s k w hk hs

theorem grown_of_below {W w1 : World} (h : Below W.heap.size W w1) : W.grownBy w1 none := ⟨h.os, h.tape, h.output, h.size, fun k hk _ => h.block k hk⟩
theorem own_below {W w1 : World} {base e size n : Nat} {v : Value} {xs : List Value} (h : W.ownsRow base e size v n xs) (hb : Below W.heap.size W w1) : w1.ownsRow base e size v n xs :=
  h.kept (grown_of_below hb) (by cases hv : v.ownBlock <;> simp)
theorem news_blk {w : World} {g : Nat} {cs : List Value} {t : TypeId} (h : w.heap[g]? = some (.cells cs.toArray t (0, 0))) : ∀ j u, cs[j]? = some u → w.cell? ((⟨g, 0, none⟩ : Addr).add j) = some u := by
  intro j u hu
  have hadd : (⟨g, 0, none⟩ : Addr).add j = ⟨g, j, none⟩ := by unfold Addr.add; split <;> simp_all
  rw [hadd, cell_of_row _ _ j _ t (0, 0) h]
  simpa using hu
theorem one_of_all {l : List Value} (h : l.all (·.oneCell') = true) : ∀ u ∈ l, u.oneCell' = true := List.all_eq_true.1 h
/-- all tokens; the fuel: more than the bytes that are left -/
def allL : Nat → ByteArray → Nat → List Tok → Except (Nat × Int) (List Tok)
  | 0, _, _, _ => .error (0, 0)
  | f + 1, s, k, acc =>
    let x := nextL k (sfx s k)
    if (x.err != 0) = true then .error (x.next, x.err) else
    if (x.tok.kind == 0) = true then .ok acc else allL f s x.next (acc ++ [x.tok])
def allT (s : ByteArray) : Except (Nat × Int) (List Tok) := if 65536 < s.size then .error (0, 2) else allL (s.size + 1) s 0 []
def tokCells (l : List Tok) : List Value := l.flatMap fun t => t.cells.toList
theorem tokCells_snoc (l : List Tok) (t : Tok) : tokCells (l ++ [t]) = tokCells l ++ t.cells.toList := by simp [tokCells]
theorem info63' : (Tryz.prog.info? 139).map (fun i => (i.zero, i.size, i.bytes)) = some (some (.agg Tok.zero.cells), 8, 72) := by kernel_rfl
/-- what All hands back -/
def AllPost (s : ByteArray) (w : World) (e : Ending) (w' : World) : Prop :=
  Below w.heap.size w w' ∧
  ((∃ p x, allT s = .error (p, x) ∧ (x != 0) = true ∧ e = .returned (.tuple #[.slice none 0 0, .int .i64 (p : Nat), .int .i64 x])) ∨
   (∃ l v, allT s = .ok l ∧ l.length ≤ s.size ∧ w'.ownsRow w.heap.size 139 8 v l.length (tokCells l) ∧ e = .returned (.tuple #[v, .int .i64 s.size, .int .i64 0])))

set_option maxRecDepth 100000 in
set_option maxHeartbeats 1000000 in
theorem all_any (s : ByteArray) (w : World) (hs : s.size ≤ 140737488351232) :
    Calls Tryz.prog 104 #[.string s] w (AllPost s w) := by
  have hs' : s.size ≤ maxLen := by unfold maxLen; omega
  have HS := hid hs
  clear hs
  have hs := hs'
  unfold maxLen at hs
  obtain ⟨i0, hi, hz0, hz1, hz2⟩ := info_parts info63'
  by_cases hlong : 65536 < s.size
  · go_enter Tryz.func104, Tryz.ntmps104
    go_wp2
    go_ret3
    exact ⟨Below.refl _ _, .inl ⟨0, 2, by unfold allT; rw [if_pos hlong], rfl, rfl⟩⟩
  · have HL : Hid (allT s = allL (s.size + 1) s 0 []) := by show _ = _; unfold allT; rw [if_neg hlong]
    go_enter Tryz.func104, Tryz.ntmps104
    go_wp2
    go_loopw [5, 6] (fun v i wr => ∃ (k f : Nat) (acc : List Tok), k ≤ s.size ∧ i = .int .i64 k ∧ wr.ownsRow w.heap.size 139 8 v acc.length (tokCells acc) ∧ acc.length ≤ k ∧ s.size < k + f ∧ Below w.heap.size w wr ∧ Hid (allT s = allL f s k acc)) (fun _ i _ => s.size - (intOf i).toNat)
    case atStart => exact ⟨0, s.size + 1, [], Nat.zero_le _, rfl, World.ownsRow_nil _ _ _ _, by simp, by omega, Below.refl _ _, HL⟩
    case round =>
      obtain ⟨k, f, acc, hk, rfl, hown, hal, hf, hbel, H⟩ := hrel
      have HO := hid hown
      have hsz := hbel.size
      clear hown HL
      obtain ⟨f, rfl⟩ : ∃ f', f = f' + 1 := ⟨f - 1, by omega⟩
      have hfacts := nextL_facts s k hk
      have H' : Hid (allT s = _) := hid (H.out.trans (by rw [allL]))
      clear H
      generalize hx : nextL k (sfx s k) = x at *
      have HX := hid hx
      clear hx
      obtain ⟨t, nx, er⟩ := x
      have hnx := hfacts.1
      have hadv := hid hfacts.2
      clear hfacts
      simp only at hnx
      cases he : (er != 0)
      · have he0 : er = 0 := by simpa using he
        cases hkd : (t.kind == 0)
        · have hk0 : t.kind ≠ 0 := by simpa using hkd
          have hlt := hadv.out he0 hk0
          simp only at hlt
          have H2 : Hid (allT s = allL f s nx (acc ++ [t])) := by
            show _ = _
            rw [H'.out]
            simp only [he, hkd, Bool.false_eq_true, if_false]
          clear H' he0 hk0 hadv
          go_wp2_with (first | (go_at_call 144; refine (next_at s _ k _ (by omega) (by omega) HS.out).mono ?_; rintro e w1 ⟨rfl, hb1⟩; rw [HX.out]; simp only [Nx.v, Tok.cells]; have HO1 := hid (own_below HO.out hb1); have hsz1 := hb1.size) | (at_builtin; refine wpList_append_own _ rfl _ _ 135 rfl w.heap.size 139 i0 _ 8 72 Tryz.underlying135 hi hz0 hz1 hz2 rfl (by decide) _ _ _ rfl ((HO1.out.alloc _).alloc _) ⟨w1.heap.size + 1, 0, none⟩ 1 1 t.cells.toList rfl rfl ?c1 ?c2 ?c3 ?c4 ?c5 ?_))
          case c1 => exact news_blk (heap_alloc2_new _ _ _)
          case c2 => exact one_of_all rfl
          case c3 => unfold maxLen; omega
          case c4 => omega
          case c5 => simp; omega
          intro v' w2 hown' hgrow _
          have hbel1 : Below w.heap.size w w2 := ((((hbel.trans (hb1.mono hsz)).alloc (by omega) _).alloc (by simp; omega) _)).grown hgrow (by simp; omega) (fun _ hk => own_block HO.out hk)
          have HO2 : Hid (w2.ownsRow w.heap.size 139 8 v' (acc ++ [t]).length (tokCells (acc ++ [t]))) := by
            show World.ownsRow _ _ _ _ _ _ _
            rw [List.length_append, tokCells_snoc]
            exact hown'
          clear hown' hgrow
          go_wp2
          go_roundw
          case rel => exact ⟨nx, f, acc ++ [t], hnx, rfl, HO2.out, by simp; omega, by omega, hbel1, H2⟩
          case measure => simp [intOf]; omega
        · have H2 : Hid (allT s = .ok acc) := by
            show _ = _
            rw [H'.out]
            simp only [he, hkd, Bool.false_eq_true, if_false, if_true]
          clear H' hadv he0
          go_wp2_with (first | (go_at_call 144; refine (next_at s _ k _ (by omega) (by omega) HS.out).mono ?_; rintro e w1 ⟨rfl, hb1⟩; rw [HX.out]; simp only [Nx.v, Tok.cells]; have HO1 := hid (own_below HO.out hb1); have hsz1 := hb1.size))
          go_ret3
          exact ⟨(hbel.trans (hb1.mono hsz)).alloc (by omega) _, .inr ⟨acc, _, H2.out, by omega, HO1.out.alloc _, rfl⟩⟩
      · have H2 : Hid (allT s = .error (nx, er)) := by
          show _ = _
          rw [H'.out]
          simp only [he, if_true]
        clear H' hadv
        go_wp2_with (first | (go_at_call 144; refine (next_at s _ k _ (by omega) (by omega) HS.out).mono ?_; rintro e w1 ⟨rfl, hb1⟩; rw [HX.out]; simp only [Nx.v, Tok.cells]))
        go_ret3
        exact ⟨(hbel.trans (hb1.mono hsz)).alloc (by have := hb1.size; omega) _, .inl ⟨nx, er, H2.out, he, rfl⟩⟩
end Go.Proofs.YtfljcfdfgojdoaaGreatDoor

/- Plain functions that say what package parse computes out of tokens; no program in sight. -/
namespace Go.Proofs.YtfljcfdfgojdoaaGreatDoor
open Go.Lib

/-- an expression -/
inductive Re where
  | mk (kind : Int) (text : List B) (set : Se) (parts : List Re) (min : Int) (max : Int)
/-- what a parser hands back: a place and what is wrong there, or an expression and the place behind it -/
abbrev R := Except (Int × Int) (Re × Nat)
def tokAt (T : List Tok) (i : Nat) : Tok := T.getD i Tok.zero
def isB (t : Tok) (s : List B) : Bool := t.kind == 4 && t.text == s
def reservedB (s : List B) : Bool := s == [100, 101, 102] || s == [109, 97, 112] || s == [116, 111, 107, 101, 110] || s == [114, 117, 108, 101] || s == [95]
def nameM (T : List Tok) (a : Nat) : Except (Int × Int) (List B × Nat) :=
  let t := tokAt T a
  if reservedB t.text = true then .error (t.pos, 4) else
  if (t.kind != 1) = true then .error (t.pos, 4) else .ok (t.text, a + 1)
def leafM (notNone : Se) (T : List Tok) (a : Nat) : R :=
  let t := tokAt T a
  if (t.kind == 2) = true then .ok (.mk 1 t.text Se.none [] 0 0, a + 1) else
  if (t.kind == 3) = true then .ok (.mk 2 [] t.set [] 0 0, a + 1) else
  if (t.kind == 1) = true then (match nameM T a with | .error e => .error e | .ok (s, a') => .ok (.mk 3 s Se.none [] 0 0, a')) else
  if isB t [46] = true then .ok (.mk 2 [] notNone [] 0 0, a + 1) else .error (t.pos, 4)
def beginsB (t : Tok) : Bool :=
  if (t.kind == 2) = true ∨ (t.kind == 3) = true then true else
  if (t.kind == 1) = true then !reservedB t.text else isB t [46] || isB t [40]
/-- how often, whether that is told, and the place behind it -/
structure Often where
  least : Int
  most : Int
  ok : Bool
  next : Nat
def oftenM (T : List Tok) (a : Nat) : Often :=
  let t := tokAt T a
  if isB t [42] = true then ⟨0, -1, true, a + 1⟩ else
  if isB t [43] = true then ⟨1, -1, true, a + 1⟩ else
  if isB t [63] = true then ⟨0, 1, true, a + 1⟩ else ⟨0, 0, false, a⟩
def numberM (T : List Tok) (a : Nat) (least : Int) : Except (Int × Int) (Int × Nat) :=
  let t := tokAt T a
  if (t.kind != 5) = true ∨ t.num < least ∨ 64 < t.num then .error (t.pos, 4) else .ok (t.num, a + 1)
def repM (atom : Nat → Nat → R) (T : List Tok) (a dep : Nat) : R :=
  match atom a dep with
  | .error e => .error e
  | .ok (part, a1) =>
    let o := oftenM T a1
    if o.ok = true then .ok (.mk 8 [] Se.none [part] o.least o.most, o.next) else
    if isB (tokAt T a1) [123] = true then
      match numberM T (a1 + 1) 0 with
      | .error e => .error e
      | .ok (lo, a2) =>
        if isB (tokAt T a2) [44] = true then
          match numberM T (a2 + 1) lo with
          | .error e => .error e
          | .ok (hi, a3) => if isB (tokAt T a3) [125] = true then .ok (.mk 8 [] Se.none [part] lo hi, a3 + 1) else .error ((tokAt T a3).pos, 4)
        else if isB (tokAt T a2) [125] = true then .ok (.mk 8 [] Se.none [part] lo lo, a2 + 1) else .error ((tokAt T a2).pos, 4)
    else .ok (part, a1)
def notM (rep : Nat → Nat → R) (T : List Tok) : Nat → Nat → Nat → R
  | 0, _, _ => .error (0, 0)
  | f + 1, a, dep =>
    if isB (tokAt T a) [33] = true then
      if dep = 32 then .error ((tokAt T a).pos, 8) else
      match notM rep T f (a + 1) (dep + 1) with
      | .error e => .error e
      | .ok (r, a1) => .ok (.mk 7 [] Se.none [r] 0 0, a1)
    else rep a dep
def joinedM (kind : Int) (l : List Re) : Re := match l with | [r] => r | _ => .mk kind [] Se.none l 0 0
def catLoop (part : Nat → Nat → R) (T : List Tok) (dep : Nat) : Nat → List Re → Nat → R
  | 0, _, _ => .error (0, 0)
  | f + 1, l, a =>
    if (isB (tokAt T a) [33] || beginsB (tokAt T a)) = true then
      match part a dep with
      | .error e => .error e
      | .ok (r, a1) => catLoop part T dep f (l ++ [r]) a1
    else .ok (joinedM 4 l, a)
def catM (part : Nat → Nat → R) (T : List Tok) (a dep : Nat) : R :=
  match part a dep with
  | .error e => .error e
  | .ok (r, a1) => catLoop part T dep (T.length + 1) [r] a1
def rowLoop (part : Nat → Nat → R) (T : List Tok) (dep : Nat) (kind : Int) (s : List B) : Nat → List Re → Nat → R
  | 0, _, _ => .error (0, 0)
  | f + 1, l, a =>
    if isB (tokAt T a) s = true then
      match part (a + 1) dep with
      | .error e => .error e
      | .ok (r, a1) => rowLoop part T dep kind s f (l ++ [r]) a1
    else .ok (joinedM kind l, a)
def rowM (kind : Int) (s : List B) (part : Nat → Nat → R) (T : List Tok) (a dep : Nat) : R :=
  match part a dep with
  | .error e => .error e
  | .ok (r, a1) => rowLoop part T dep kind s (T.length + 1) [r] a1
def atomM (notNone : Se) (alt : Nat → Nat → R) (T : List Tok) (a dep : Nat) : R :=
  if isB (tokAt T a) [40] = true then
    if dep = 32 then .error ((tokAt T a).pos, 8) else
    match alt (a + 1) (dep + 1) with
    | .error e => .error e
    | .ok (r, a1) => if isB (tokAt T a1) [41] = true then .ok (r, a1 + 1) else .error ((tokAt T a1).pos, 4)
  else leafM notNone T a
/-- an expression; the fuel: more than 32 less the depth -/
def altM (notNone : Se) (T : List Tok) : Nat → Nat → Nat → R
  | 0, _, _ => .error (0, 0)
  | n + 1, a, dep =>
    rowM 5 [124] (rowM 6 [38] (catM (notM (repM (atomM notNone (altM notNone T n) T) T) T 40) T) T) T a dep
end Go.Proofs.YtfljcfdfgojdoaaGreatDoor
