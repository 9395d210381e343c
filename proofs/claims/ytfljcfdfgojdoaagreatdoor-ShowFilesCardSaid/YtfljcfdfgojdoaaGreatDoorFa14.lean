/-
  Plain: what is written of an expression is lexed into its tokens.
  Expressions in memory, wherever their parts lie: those that came in, and those that were read.
  leaf: the contract.
-/
import Derived.Test.YtfljcfdfgojdoaaGreatDoorFa13
import Derived.Test.YtfljcfdfgojdoaaGreatDoorFa09
import Derived.Test.YtfljcfdfgojdoaaGreatDoorFa07
import Derived.Deep.RegionHeld3
namespace Go.Proofs.YtfljcfdfgojdoaaGreatDoor.Sh
open Go.RowKit Go.Lib Go.Proofs.YtfljcfdfgojdoaaGreatDoor

/-- what writes a set -/
def isAll (s : Se) : Bool := decide (s.a = notNone.a) && decide (s.b = notNone.b) && decide (s.c = notNone.c) && decide (s.d = notNone.d)
theorem isAll_eq {s : Se} : isAll s = true ↔ s = notNone := by
  obtain ⟨a, b, c, d⟩ := s
  unfold isAll
  simp only [Bool.and_eq_true, decide_eq_true_eq]
  constructor
  · rintro ⟨⟨⟨h1, h2⟩, h3⟩, h4⟩
    rw [h1, h2, h3, h4]
  · rintro h
    rw [← h]
    exact ⟨⟨⟨rfl, rfl⟩, rfl⟩, rfl⟩
def setS (s : Se) : List B := if isAll s = true then [46] else setP (hasS s)
/-- the words of all sets in an expression are words -/
inductive SeRe : Re → Prop where
  | mk (k : Int) (x : List B) (s : Se) (ps : List Re) (mn mx : Int) (h : SeOk s) (hp : ∀ p, p ∈ ps → SeRe p) : SeRe (.mk k x s ps mn mx)
theorem SeRe.set {k : Int} {x : List B} {s : Se} {ps : List Re} {mn mx : Int} (h : SeRe (.mk k x s ps mn mx)) : SeOk s := by cases h; assumption
theorem SeRe.part {k : Int} {x : List B} {s : Se} {ps : List Re} {mn mx : Int} (h : SeRe (.mk k x s ps mn mx)) {p : Re} (hp : p ∈ ps) : SeRe p := by cases h with | mk _ _ _ _ _ _ h1 h2 => exact h2 p hp
-- tokens
def nT (x : List B) : Tok := ⟨1, x, Se.none, 0, 0⟩
def numT (n : Int) : Tok := ⟨5, [], Se.none, n, 0⟩
def leafT (k : Int) (x : List B) (s : Se) : Tok := if k = 1 then tT x else if k = 2 then (if isAll s = true then sb 46 else tS s) else nT x
def oftT (lo hi : Int) : List Tok :=
  if lo = 0 ∧ hi = -1 then [sb 42] else if lo = 1 ∧ hi = -1 then [sb 43] else if lo = 0 ∧ hi = 1 then [sb 63]
  else if lo = hi then [sb 123, numT lo, sb 125] else [sb 123, numT lo, sb 44, numT hi, sb 125]
def sepT (k : Int) : List Tok := if k = 5 then [sb 124] else if k = 6 then [sb 38] else []
mutual
/-- the tokens of an expression without a bracket of its own -/
def reT : Re → List Tok
  | .mk k x s l lo hi => if k = 7 then sb 33 :: partsT [] 3 l else if k = 8 then partsT [] 5 l ++ oftT lo hi
    else if k = 4 ∨ k = 5 ∨ k = 6 then partsT (sepT k) (needK k) l else [leafT k x s]
def partsT (sep : List Tok) (asked : Nat) : List Re → List Tok
  | [] => []
  | r :: l => (if lev r < asked then sb 40 :: (reT r ++ [sb 41]) else reT r) ++ tailT sep asked l
def tailT (sep : List Tok) (asked : Nat) : List Re → List Tok
  | [] => []
  | r :: l => sep ++ ((if lev r < asked then sb 40 :: (reT r ++ [sb 41]) else reT r) ++ tailT sep asked l)
end
def askT (r : Re) (asked : Nat) : List Tok := if lev r < asked then sb 40 :: (reT r ++ [sb 41]) else reT r
/-- a token that stands ahead of this ends there -/
def Brk (z : List B) : Prop := z = [] ∨ ∃ d q, z = d :: q ∧ nameB d = false
theorem Brk.nil : Brk [] := .inl rfl
theorem Brk.of {d : B} {q : List B} (h : nameB d = false) : Brk (d :: q) := .inr ⟨d, q, rfl, h⟩
-- names
theorem bump_kind {x : Except Int (Tok × Nat)} {t : Tok} {n : Nat} (h : bump x = .ok (t, n)) : ∃ m, x = .ok (t, m) := by
  obtain ⟨m, h, _⟩ := bump_ok h; exact ⟨m, h⟩
theorem tokenL_name {c : B} {r : List B} {t : Tok} {n : Nat} (h : tokenL (c :: r) = .ok (t, n)) (hk : t.kind = 1) : letterB c.toNat = true ∧ nameL (c :: r) = .ok (t, n) := by
  unfold tokenL at h
  simp only at h
  split at h
  · rename_i h1; exact ⟨h1, h⟩
  · exfalso
    split at h
    · unfold numL at h
      split at h
      · cases h
      · cases h; simp at hk
    · split at h
      · obtain ⟨m, hm⟩ := bump_kind h
        unfold quotedL at hm
        split at hm
        · cases hm
        · split at hm
          · cases hm
          · cases hm; simp at hk
      · split at h
        · obtain ⟨m, hm⟩ := bump_kind h
          have : t.kind = 3 := by
            unfold bytesL at hm
            split at hm
            · exact (setFin_ok hm).1
            · split at hm
              · exact (setFin_ok hm).1
              · exact (setFin_ok hm).1
          omega
        · unfold signL at h
          split at h
          · cases h; simp at hk
          · split at h
            · cases h
            · split at h
              · cases h; simp at hk
              · cases h
theorem name_of {x : List B} (h : NameOk ⟨x.toArray⟩) : ∃ c r, x = c :: r ∧ letterB c.toNat = true ∧ (x.takeWhile nameB) = x ∧ reservedB x = false := by
  obtain ⟨h1, h2, h3, h4⟩ := h
  have hx : (ByteArray.mk x.toArray).toList = x := by rw [ByteArray.toList_eq]
  have hs : sfx ⟨x.toArray⟩ 0 = x := rfl
  rw [hx] at h3 h4
  rw [hs] at h1 h2 h3
  rcases hw : white false x with _ | ⟨c, r⟩
  · unfold nextL at h2
    rw [hw] at h2
    simp [nextAt] at h2
  · have hwl := white_len false x
    rw [hw] at hwl
    rw [nextL_cons hw] at h1 h2 h3
    unfold nextAt at h1 h2 h3
    rcases ht : tokenL (c :: r) with e | ⟨t, n⟩
    · simp only [ht] at h1
      have := tokenL_err ht
      omega
    · simp only [ht] at h2 h3
      obtain ⟨hl, hn⟩ := tokenL_name ht h2
      unfold nameL at hn
      split at hn
      · cases hn
      · simp only [Except.ok.injEq, Prod.mk.injEq] at hn
        obtain ⟨hn1, hn2⟩ := hn
        rw [← hn1] at h3
        dsimp only at h3
        have hle : nameLen (c :: r) ≤ (c :: r).length := takeWhile_le _ _
        have hlen := congrArg List.length h3
        rw [List.length_take] at hlen
        have he : (c :: r).length = x.length := by omega
        have hall : nameLen (c :: r) = (c :: r).length := by omega
        rw [hall, List.take_length] at h3
        refine ⟨c, r, h3.symm, hl, ?_, h4⟩
        rw [← h3]
        exact (List.takeWhile_prefix nameB).eq_of_length hall
theorem letter_white {c : B} {r : List B} (h : letterB c.toNat = true) : white false (c :: r) = c :: r := by
  unfold letterB at h
  simp only [Bool.or_eq_true, Bool.and_eq_true, decide_eq_true_eq] at h
  rw [white, if_neg (by simp only [beq_iff_eq]; omega), if_neg (by simp only [beq_iff_eq]; omega)]
theorem digit_white {c : B} {r : List B} (h : digitB c.toNat = true) : white false (c :: r) = c :: r := by
  unfold digitB at h
  simp only [Bool.and_eq_true, decide_eq_true_eq] at h
  rw [white, if_neg (by simp only [beq_iff_eq]; omega), if_neg (by simp only [beq_iff_eq]; omega)]
theorem while_brk {p : B → Bool} {x z : List B} (hx : x.takeWhile p = x) (hz : z = [] ∨ ∃ d q, z = d :: q ∧ p d = false) : (x ++ z).takeWhile p = x := by
  rcases hz with rfl | ⟨d, q, rfl, hd⟩
  · rw [List.append_nil, hx]
  · rw [takeWhile_app hd, hx]
theorem name_tok {c : B} {r z : List B} (hc : letterB c.toNat = true) (hx : (c :: r).takeWhile nameB = c :: r) (hl : (c :: r).length ≤ 31) (hz : Brk z) : tokenL (c :: r ++ z) = .ok (nT (c :: r), (c :: r).length) := by
  have hw : nameLen (c :: r ++ z) = (c :: r).length := by unfold nameLen; rw [while_brk hx hz]
  have ht : (c :: r ++ z).take (c :: r).length = c :: r := by simp
  rw [List.cons_append] at hw ht ⊢
  unfold tokenL
  simp only
  rw [if_pos hc]
  unfold nameL
  rw [hw, if_neg (by omega), ht]
  rfl
theorem _root_.Go.Proofs.YtfljcfdfgojdoaaGreatDoor.Lexes.name {x z : List B} {m : List Tok} (h : Lexes z m) (hx : NameOk ⟨x.toArray⟩) (hl : x.length ≤ 31) (hz : Brk z) : Lexes (x ++ z) (nT x :: m) := by
  obtain ⟨c, r, rfl, h1, h2, _⟩ := name_of hx
  have ht := name_tok h1 h2 hl hz
  have hd : (c :: r ++ z).drop (c :: r).length = z := by simp
  rw [List.cons_append] at ht hd ⊢
  refine Lexes.step (letter_white h1) ht ?_
  rw [hd]
  exact h
-- numbers
def decT (n : Nat) : Bool := ((decW n).takeWhile fun c => digitB c.toNat) == decW n && numVal (decW n) == (n : Int) && decide ((decW n).length ≤ 2) && (match decW n with | [] => false | c :: _ => digitB c.toNat && !letterB c.toNat)
theorem dec_all : (List.range 100).all decT = true := by kernel_rfl
theorem dec_of {n : Nat} (h : n < 100) : ((decW n).takeWhile fun c => digitB c.toNat) = decW n ∧ numVal (decW n) = (n : Int) ∧ (decW n).length ≤ 2 ∧ ∃ c r, decW n = c :: r ∧ digitB c.toNat = true ∧ letterB c.toNat = false := by
  have := List.all_eq_true.1 dec_all n (List.mem_range.2 h)
  unfold decT at this
  simp only [Bool.and_eq_true, beq_iff_eq, decide_eq_true_eq] at this
  obtain ⟨⟨⟨h1, h2⟩, h3⟩, h4⟩ := this
  refine ⟨h1, h2, h3, ?_⟩
  rcases hd : decW n with _ | ⟨c, r⟩
  · rw [hd] at h4; simp at h4
  · rw [hd] at h4
    simp only [Bool.and_eq_true, Bool.not_eq_true'] at h4
    exact ⟨c, r, rfl, h4.1, h4.2⟩
theorem name_digit {d : B} (h : nameB d = false) : digitB d.toNat = false := by
  unfold nameB at h
  rw [Bool.or_eq_false_iff] at h
  exact h.2
theorem _root_.Go.Proofs.YtfljcfdfgojdoaaGreatDoor.Lexes.num {n : Int} {z : List B} {m : List Tok} (h : Lexes z m) (h0 : 0 ≤ n) (h1 : n < 100) (hz : Brk z) : Lexes (decW n ++ z) (numT n :: m) := by
  obtain ⟨k, rfl⟩ := Int.eq_ofNat_of_zero_le h0
  obtain ⟨a1, a2, a3, c, r, hd, a4, a5⟩ := dec_of (n := k) (by omega)
  have hz' : z = [] ∨ ∃ d q, z = d :: q ∧ digitB d.toNat = false := hz.imp_right fun ⟨d, q, h1, h2⟩ => ⟨d, q, h1, name_digit h2⟩
  have hw : digLen (decW k ++ z) = (decW k).length := by unfold digLen; rw [while_brk a1 hz']
  have ht : (decW k ++ z).take (decW k).length = decW k := by simp
  have hdr : (decW k ++ z).drop (decW k).length = z := by simp
  have hnum : numL (decW k ++ z) = .ok (numT k, (decW k).length) := by
    unfold numL
    rw [hw, if_neg (by omega), ht, a2]
    rfl
  have htk : ∀ y, decW k ++ z = c :: y → tokenL (c :: y) = .ok (numT k, (decW k).length) := fun y hy => by
    unfold tokenL
    simp only
    rw [if_neg (by rw [a5]; simp), if_pos a4, ← hy, hnum]
  have hy : decW k ++ z = c :: (r ++ z) := by rw [hd]; rfl
  have h3 := htk _ hy
  show Lexes (decW k ++ z) (numT k :: m)
  rw [hy] at hdr ⊢
  refine Lexes.step (digit_white a4) h3 ?_
  rw [hdr]
  exact h
theorem _root_.Go.Proofs.YtfljcfdfgojdoaaGreatDoor.Lexes.plus {r : List B} {l : List Tok} (h : Lexes r l) : Lexes (43 :: r) (sb 43 :: l) := h.sign rfl rfl
theorem _root_.Go.Proofs.YtfljcfdfgojdoaaGreatDoor.Lexes.ask {r : List B} {l : List Tok} (h : Lexes r l) : Lexes (63 :: r) (sb 63 :: l) := h.sign rfl rfl
theorem _root_.Go.Proofs.YtfljcfdfgojdoaaGreatDoor.Lexes.bra {r : List B} {l : List Tok} (h : Lexes r l) : Lexes (123 :: r) (sb 123 :: l) := h.sign rfl rfl
theorem _root_.Go.Proofs.YtfljcfdfgojdoaaGreatDoor.Lexes.ket {r : List B} {l : List Tok} (h : Lexes r l) : Lexes (125 :: r) (sb 125 :: l) := h.sign rfl rfl
theorem _root_.Go.Proofs.YtfljcfdfgojdoaaGreatDoor.Lexes.comma {r : List B} {l : List Tok} (h : Lexes r l) : Lexes (44 :: r) (sb 44 :: l) := h.sign rfl rfl
theorem _root_.Go.Proofs.YtfljcfdfgojdoaaGreatDoor.Lexes.often {lo hi : Int} {z : List B} {m : List Tok} (h : Lexes z m) (hok : oftOk lo hi) : Lexes (oftenW lo hi ++ z) (oftT lo hi ++ m) := by
  unfold oftenW oftT
  split
  · exact h.star
  · split
    · exact h.plus
    · split
      · exact h.ask
      · rename_i h1 h2 _
        have hb : 0 ≤ lo ∧ lo ≤ hi ∧ hi ≤ 64 := by
          rcases hok with h | h | h
          · exact absurd h h1
          · exact absurd h h2
          · exact h
        split
        · have := ((h.ket).num (n := lo) (by omega) (by omega) (.of (by decide))).bra
          simpa using this
        · have := ((((h.ket).num (n := hi) (by omega) (by omega) (.of (by decide))).comma).num (n := lo) (by omega) (by omega) (.of (by decide))).bra
          simpa using this
/-- what a piece of a text is lexed into, whatever comes next -/
def Piece (x : List B) (l : List Tok) : Prop := ∀ z m, Brk z → Lexes z m → Lexes (x ++ z) (l ++ m)
theorem partsW_one (sep : List B) (asked : Nat) (p : Re) : partsW setS sep asked [p] = askW setS p asked := by
  rw [partsW, tailW, List.append_nil]; rfl
theorem one_of {l : List Re} (h : l.length = 1) : ∃ p, l = [p] := List.length_eq_one_iff.1 h
theorem Piece.ask {r : Re} (h : Piece (reW setS r) (reT r)) (asked : Nat) : Piece (askW setS r asked) (askT r asked) := by
  intro z m hz hm
  unfold askW askT
  split
  · have := (h (41 :: z) (sb 41 :: m) (.of (by decide)) hm.sht).opn
    simpa using this
  · exact h z m hz hm
theorem Node.oft {n : Nat} {x : List B} {s : Se} {lo hi : Int} (h : Node 8 x s n lo hi) : oftOk lo hi ∧ n = 1 := by
  generalize hk : (8 : Int) = k at h
  cases h <;> simp at hk
  rename_i h
  refine ⟨?_, rfl⟩
  rcases h with ⟨h1, h2 | h2⟩ | ⟨_, h2, h3, h4⟩
  · exact .inl ⟨h2, h1⟩
  · exact .inr (.inl ⟨h2, h1⟩)
  · exact .inr (.inr ⟨h2, h3, h4⟩)
end Go.Proofs.YtfljcfdfgojdoaaGreatDoor.Sh

namespace Go.Proofs.YtfljcfdfgojdoaaGreatDoor.Sh
open Go.RowKit Go.Lib Go.Proofs.YtfljcfdfgojdoaaGreatDoor

mutual
/-- nine cells read as an expression; its parts lie in blocks of which F holds -/
def ReG (F : Nat → Prop) (w : World) : Re → Array Value → Prop
  | .mk k x s ps mn mx, cs => ∃ ad cap, cs = reC k x s (.slice ad ps.length cap) mn mx ∧ ps.length ≤ maxLen ∧ (ps ≠ [] → ∃ g off, ad = some ⟨g, off, none⟩ ∧ F g ∧ PartsG F w g off ps)
def PartsG (F : Nat → Prop) (w : World) (g : Nat) : Nat → List Re → Prop
  | _, [] => True
  | off, r :: rs => ∃ cs : Array Value, (∀ j v, cs[j]? = some v → w.cell? ⟨g, off + j, none⟩ = some v) ∧ ReG F w r cs ∧ PartsG F w g (off + 9) rs
end
theorem ReG.cells {F : Nat → Prop} {w : World} {r : Re} {cs : Array Value} (h : ReG F w r cs) : ∃ k x s ad n cap mn mx, cs = reC k x s (.slice ad n cap) mn mx := by
  obtain ⟨k, x, s, ps, mn, mx⟩ := r
  unfold ReG at h
  obtain ⟨ad, cap, rfl, _⟩ := h
  exact ⟨k, x, s, ad, _, cap, mn, mx, rfl⟩
mutual
theorem ReG.frame {F F' : Nat → Prop} {w w' : World} (hF : ∀ g, F g → F' g) (hf : ∀ g, F g → g < w.heap.size → w'.heap[g]? = w.heap[g]?) : ∀ {r : Re} {cs : Array Value}, ReG F w r cs → ReG F' w' r cs
  | .mk k x s ps mn mx, cs, h => by
    unfold ReG at h ⊢
    obtain ⟨ad, cap, h1, h2, h3⟩ := h
    refine ⟨ad, cap, h1, h2, fun hne => ?_⟩
    obtain ⟨g, off, h4, h5, h6⟩ := h3 hne
    exact ⟨g, off, h4, hF g h5, PartsG.frame hF hf h5 h6⟩
theorem PartsG.frame {F F' : Nat → Prop} {w w' : World} (hF : ∀ g, F g → F' g) (hf : ∀ g, F g → g < w.heap.size → w'.heap[g]? = w.heap[g]?) {g : Nat} (hg : F g) : ∀ {l : List Re} {off : Nat}, PartsG F w g off l → PartsG F' w' g off l
  | [], off, _ => by unfold PartsG; trivial
  | r :: l, off, h => by
    unfold PartsG at h ⊢
    obtain ⟨cs, h1, h2, h3⟩ := h
    refine ⟨cs, fun j v hv => ?_, ReG.frame hF hf h2, PartsG.frame hF hf hg h3⟩
    have hc := h1 j v hv
    exact (World.cell?_of_block (hf g hg (World.block_lt_of_cell? w _ hc))).trans hc
end
theorem ReG.below {F : Nat → Prop} {w w' : World} {base : Nat} {r : Re} {cs : Array Value} (h : ReG F w r cs) (hF : ∀ g, F g → g < base) (hb : Below base w w') : ReG F w' r cs :=
  h.frame (fun _ h => h) fun g hg _ => hb.block g (hF g hg)
theorem PartsG.at {F : Nat → Prop} {w : World} {g : Nat} : ∀ {l : List Re} {off i : Nat} {r : Re}, PartsG F w g off l → l[i]? = some r →
    ∃ k x s ad n cap mn mx, ReG F w r (reC k x s (.slice ad n cap) mn mx) ∧ ∀ j v, (reC k x s (.slice ad n cap) mn mx)[j]? = some v → w.cell? ⟨g, off + i * 9 + j, none⟩ = some v
  | [], off, i, r, h, hi => by simp at hi
  | r0 :: rs, off, 0, r, h, hi => by
    simp at hi; subst hi
    unfold PartsG at h
    obtain ⟨cs, h1, h2, h3⟩ := h
    obtain ⟨k, x, s, ad, n, cap, mn, mx, rfl⟩ := h2.cells
    exact ⟨k, x, s, ad, n, cap, mn, mx, h2, fun j v hv => by rw [Nat.zero_mul, Nat.add_zero]; exact h1 j v hv⟩
  | r0 :: rs, off, i + 1, r, h, hi => by
    unfold PartsG at h
    obtain ⟨cs, h1, h2, h3⟩ := h
    obtain ⟨k, x, s, ad, n, cap, mn, mx, h4, h5⟩ := PartsG.at (i := i) (r := r) h3 (by simpa using hi)
    refine ⟨k, x, s, ad, n, cap, mn, mx, h4, fun j v hv => ?_⟩
    have := h5 j v hv
    rw [show off + 9 + i * 9 + j = off + (i + 1) * 9 + j by omega] at this
    exact this
/-- an expression in memory, opened -/
theorem ReG.open {F : Nat → Prop} {w : World} {k : Int} {x : List B} {s : Se} {ps : List Re} {mn mx : Int} {cs : Array Value} (h : ReG F w (.mk k x s ps mn mx) cs) :
    ∃ ad cap, cs = reC k x s (.slice ad ps.length cap) mn mx ∧ ps.length ≤ maxLen ∧ (ps ≠ [] → ∃ g off, ad = some ⟨g, off, none⟩ ∧ F g ∧ PartsG F w g off ps) := by
  unfold ReG at h
  exact h
theorem PartsG.lt {F : Nat → Prop} {w : World} {g off : Nat} {l : List Re} (h : PartsG F w g off l) (hl : l ≠ []) : g < w.heap.size := by
  rcases l with _ | ⟨r, l⟩
  · exact absurd rfl hl
  · obtain ⟨k, x, s, ad, n, cap, mn, mx, _, h2⟩ := h.at (i := 0) (r := r) rfl
    exact World.block_lt_of_cell? w _ (h2 0 _ rfl)
mutual
theorem ReG.ofIn {F : Nat → Prop} {w : World} : ∀ {r : Re} {cs : Array Value}, ReIn F w r cs → ReG F w r cs
  | .mk k x s ps mn mx, cs, h => by
    unfold ReIn at h
    obtain ⟨ad, cap, xs, h1, h2, h3, h4⟩ := h
    unfold ReG
    have h2' := h2
    rcases h2.2 with ⟨hv, hn⟩ | ⟨g, cap', cur, hv, _, hg, hn, hm, hsz, htk⟩
    · exact ⟨ad, cap, h1, by rw [hn]; exact Nat.zero_le _, fun hne => absurd (List.length_eq_zero_iff.1 hn) hne⟩
    · have h4' := fun hF => PartsG.ofIn (g := g) (off := 0) hF h4 (fun i v hi => by
        have := h2'.cells (g := g) (by rw [hv]; rfl) i v hi
        rw [Addr.add_lit, Nat.zero_add] at this
        rw [Nat.zero_add]
        exact this)
      have hF : F g := h3 g (by rw [hv]; rfl)
      injection hv with e1 e2 e3
      subst e1
      exact ⟨_, cap, h1, by omega, fun _ => ⟨g, 0, rfl, hF, h4' hF⟩⟩
theorem PartsG.ofIn {F : Nat → Prop} {w : World} {g : Nat} (hF : F g) : ∀ {l : List Re} {xs : List Value} {off : Nat}, PartsIn F w l xs → (∀ i v, xs[i]? = some v → w.cell? ⟨g, off + i, none⟩ = some v) → PartsG F w g off l
  | [], xs, off, _, _ => by unfold PartsG; trivial
  | r :: l, xs, off, h, hx => by
    unfold PartsIn at h
    obtain ⟨cs, rest, rfl, h1, h2⟩ := h
    unfold PartsG
    have hc : cs.toList.length = 9 := by
      obtain ⟨k, x, s, ad, n, cap, mn, mx, rfl⟩ := h1.cells
      rfl
    refine ⟨cs, fun j v hv => hx j v ?_, ReG.ofIn h1, PartsG.ofIn hF h2 fun i v hi => ?_⟩
    · have hv' : cs.toList[j]? = some v := by simpa using hv
      rw [List.getElem?_append_left (List.getElem?_eq_some_iff.1 hv').1]
      exact hv'
    · have := hx (9 + i) v (by rw [List.getElem?_append_right (by omega), hc, Nat.add_sub_cancel_left]; exact hi)
      rw [← Nat.add_assoc] at this
      exact this
end
end Go.Proofs.YtfljcfdfgojdoaaGreatDoor.Sh

namespace Go.Proofs.YtfljcfdfgojdoaaGreatDoor.Sh
open Go.RowKit Go.Lib Go.Proofs.YtfljcfdfgojdoaaGreatDoor

theorem StrPost.mk {l : List B} {w w' : World} (h : Below w.heap.size w w') : StrPost l w (.returned (.string ⟨l.toArray⟩)) w' := ⟨rfl, h⟩
set_option maxRecDepth 100000 in
set_option maxHeartbeats 1000000 in
theorem leaf_any {k : Int} {x : List B} {s : Se} (v : Value) (mn mx : Int) (w : World) (hk : k = 1 ∨ k = 2 ∨ k = 3) (hs : SeOk s) (hx : x.length ≤ 1000) :
    Calls Tryz.prog 103 #[.agg (reC k x s v mn mx)] w (StrPost (leafW setS k x s) w) := by
  have hb0 : Below w.heap.size w (w.alloc (.cells (reC k x s v mn mx) 33)) := (Below.refl _ w).alloc (Nat.le_refl _) _
  have hblk : (w.alloc (.cells (reC k x s v mn mx) 33)).heap[w.heap.size]? = some (.cells (reC k x s v mn mx) 33 (0, 0)) := heap_alloc_new _ _
  have hsz : (w.alloc (.cells (reC k x s v mn mx) 33)).heap.size = w.heap.size + 1 := by simp
  have HSE := hid hs
  clear hs
  rcases hk with rfl | rfl | rfl
  · have HE := hid (show leafW setS 1 x s = textW x from rfl)
    have ht := text2_any ⟨x.toArray⟩ (by show x.toArray.size ≤ _; simp; omega)
    have HB := hid hb0
    clear hb0 hblk
    go_enter Tryz.func103, Tryz.ntmps103
    go_wp2_with (go_at_call 87; refine (ht _).mono ?_; rintro e W2 ⟨rfl, hb2⟩)
    go_ret
    rw [HE.out]
    exact StrPost.mk (HB.out.trans (hb2.mono (by omega)))
  · have HE := hid (show leafW setS 2 x s = setS s from rfl)
    have c2 := cell_blk (i := 2) hblk rfl
    have c3 := cell_blk (i := 3) hblk rfl
    have c4 := cell_blk (i := 4) hblk rfl
    have c5 := cell_blk (i := 5) hblk rfl
    have e24 := eq24
    have HB := hid hb0
    have HK := hid (show ∀ W : World, Below (w.heap.size + 1) (w.alloc (.cells (reC 2 x s v mn mx) 33)) W → W.cell? ⟨w.heap.size, 2, none⟩ = some (.int .u64 s.a) ∧ W.cell? ⟨w.heap.size, 3, none⟩ = some (.int .u64 s.b) ∧ W.cell? ⟨w.heap.size, 4, none⟩ = some (.int .u64 s.c) ∧ W.cell? ⟨w.heap.size, 5, none⟩ = some (.int .u64 s.d) from fun W hW => by
      have hb := (hW.block w.heap.size (by omega)).trans hblk
      exact ⟨cell_blk hb rfl, cell_blk hb rfl, cell_blk hb rfl, cell_blk hb rfl⟩)
    have HA := hid (isAll_eq (s := s))
    clear hb0 hblk
    go_enter Tryz.func103, Tryz.ntmps103
    go_upto_region 5 with fail
    generalize w.alloc (.cells (reC 2 x s v mn mx) 33) = W0 at *
    have hq0 := hid (Below.refl (w.heap.size + 1) W0)
    have hqd := hid ((Below.refl (w.heap.size + 1) W0).drew)
    have hnn := not_any Se.none
    go_region_held3 (fun W => W.cell? ⟨w.heap.size, 2, none⟩ = some (.int .u64 s.a) ∧ W.cell? ⟨w.heap.size, 3, none⟩ = some (.int .u64 s.b) ∧ W.cell? ⟨w.heap.size, 4, none⟩ = some (.int .u64 s.c) ∧ W.cell? ⟨w.heap.size, 5, none⟩ = some (.int .u64 s.d)) (first | exact HK.out _ hq2.out | exact HK.out _ hqd.out | exact HK.out _ hq0.out) ((go_at_call 142; refine (hnn _).mono ?_; rintro e W2 ⟨rfl, hb2⟩; have hq2 := hid (hqd.out.trans (hb2.mono (by show _ ≤ W0.heap.size; omega))); clear hb2))
    rw [show (s.a == (notS Se.none).a && s.b == (notS Se.none).b && s.c == (notS Se.none).c && s.d == (notS Se.none).d) = isAll s from rfl]
    have hst := set2_any s HSE.out
    have HZ := hid hsz
    obtain ⟨d2, d3, d4, d5⟩ := HK.out _ hq2.out
    clear c2 c3 c4 c5 hsz HA e24
    have HB2 := hid (HB.out.trans (hq2.out.mono (by omega)))
    by_cases hA : isAll s = true
    · have HE2 := hid (HE.out.trans (by unfold setS; rw [if_pos hA]))
      rw [hA]
      go_wp2
      go_ret
      rw [HE2.out]
      exact StrPost.mk HB2.out
    · have HE2 := hid (HE.out.trans (by unfold setS; rw [if_neg hA]))
      rw [Bool.not_eq_true] at hA
      rw [hA]
      go_wp2_with (go_at_call 143; refine (hst _).mono ?_; rintro e W3 ⟨rfl, hb3⟩)
      go_ret
      rw [HE2.out]
      exact StrPost.mk (HB2.out.trans (hb3.mono HB2.out.size))
  · have HE := hid (show leafW setS 3 x s = x from rfl)
    have HB := hid hb0
    clear hb0 hblk
    go_enter Tryz.func103, Tryz.ntmps103
    go_wp2
    go_ret
    rw [HE.out]
    exact StrPost.mk HB.out
end Go.Proofs.YtfljcfdfgojdoaaGreatDoor.Sh
