/-
  What package lex computes, as plain functions: names, numbers, sets, tokens as cells.
-/
import Derived.Test.YtdokeelodcckoaaLexM
import Derived.Lib.Strings
/- Plain functions that say what package lex computes: tokens. -/
namespace Go.Proofs.Ytdokeelodcckoaa
open Go.Lib

/-- a set of bytes, as its four numbers -/
structure Se where
  a : Int
  b : Int
  c : Int
  d : Int
  deriving DecidableEq
def Se.none : Se := ⟨0, 0, 0, 0⟩
structure Tok where
  kind : Int
  text : List B
  set : Se
  num : Int
  pos : Int
  deriving DecidableEq
def Tok.zero : Tok := ⟨0, [], Se.none, 0, 0⟩
def Tok.cells (t : Tok) : Array Value := #[.int .i64 t.kind, .string ⟨t.text.toArray⟩, .int .u64 t.set.a, .int .u64 t.set.b, .int .u64 t.set.c, .int .u64 t.set.d, .int .i64 t.num, .int .i64 t.pos]
/-- what a function of package lex hands back that gives a token, the place behind it, an error -/
def tokV (k : Nat) : Except Int (Tok × Nat) → Value
  | .ok (t, n) => .tuple #[.agg t.cells, .int .i64 ((k : Int) + n), .int .i64 0]
  | .error e => .tuple #[.agg Tok.zero.cells, .int .i64 0, .int .i64 e]

def nameB (c : B) : Bool := letterB c.toNat || digitB c.toNat
def nameLen (r : List B) : Nat := (r.takeWhile nameB).length
def nameL (r : List B) : Except Int (Tok × Nat) :=
  if 31 < (nameLen r : Int) then .error 2 else .ok (⟨1, r.take (nameLen r), Se.none, 0, 0⟩, nameLen r)
theorem nameLen_nil : nameLen [] = 0 := rfl
theorem nameLen_yes {c : B} {r : List B} (h : nameB c = true) : nameLen (c :: r) = nameLen r + 1 := by simp [nameLen, h]
theorem nameLen_no {c : B} {r : List B} (h : nameB c = false) : nameLen (c :: r) = 0 := by simp [nameLen, h]

def digLen (r : List B) : Nat := (r.takeWhile (fun c => digitB c.toNat)).length
def numVal (l : List B) : Int := l.foldl (fun n c => 10 * n + ((c.toNat : Int) - 48)) 0
def numL (r : List B) : Except Int (Tok × Nat) :=
  if 4 < (digLen r : Int) then .error 2 else .ok (⟨5, [], Se.none, numVal (r.take (digLen r)), 0⟩, digLen r)
theorem digLen_nil : digLen [] = 0 := rfl
theorem digLen_yes {c : B} {r : List B} (h : digitB c.toNat = true) : digLen (c :: r) = digLen r + 1 := by simp [digLen, h]
theorem digLen_no {c : B} {r : List B} (h : digitB c.toNat = false) : digLen (c :: r) = 0 := by simp [digLen, h]

theorem dig_at : ∀ (r : List B) (i : Nat) (_h : i < digLen r), ∃ c, r[i]? = some c ∧ digitB c.toNat = true
  | [], i, h => by simp [digLen] at h
  | c :: r, i, h => by
    by_cases hc : digitB c.toNat = true
    · rw [digLen_yes hc] at h
      cases i with
      | zero => exact ⟨c, rfl, hc⟩
      | succ i => obtain ⟨d, h1, h2⟩ := dig_at r i (by omega); exact ⟨d, by simpa using h1, h2⟩
    · rw [digLen_no (by simpa using hc)] at h; omega
theorem numVal_snoc (l : List B) (c : B) : numVal (l ++ [c]) = 10 * numVal l + ((c.toNat : Int) - 48) := by simp [numVal]
theorem digitB_bd {c : B} (h : digitB c.toNat = true) : 48 ≤ (c.toNat : Int) ∧ (c.toNat : Int) ≤ 57 := by simpa [digitB] using h
theorem take_sfx (s : ByteArray) (k m : Nat) (h : k + m < s.size) : (sfx s k).take (m + 1) = (sfx s k).take m ++ [s[k + m]] := by
  rw [List.take_succ_eq_append_getElem (by rw [sfx_len]; omega)]
  congr 2
  simp [sfx]; rfl
theorem numVal_bd (s : ByteArray) (k : Nat) : ∀ m, k + m ≤ s.size → m ≤ digLen (sfx s k) → 0 ≤ numVal ((sfx s k).take m) ∧ numVal ((sfx s k).take m) < 10 ^ m
  | 0, _, _ => by simp [numVal]
  | m + 1, h1, h2 => by
    obtain ⟨a, b⟩ := numVal_bd s k m (by omega) (by omega)
    obtain ⟨c, hc, hd⟩ := dig_at (sfx s k) m (by omega)
    have e : c = s[k + m] := by
      rw [sfx, List.getElem?_drop] at hc
      rw [List.getElem?_eq_getElem (by simpa using (show k + m < s.size by omega))] at hc
      exact (Option.some.inj hc).symm
    subst e
    rw [take_sfx s k m (by omega), numVal_snoc, Int.pow_succ]
    have := digitB_bd hd
    omega
theorem dig_sfx (s : ByteArray) (k m i : Nat) (hm : digLen (sfx s k) = m) (hi : i < m) (hl : k + i < s.size) : 48 ≤ (s[k + i].toNat : Int) ∧ (s[k + i].toNat : Int) ≤ 57 := by
  obtain ⟨c, hc, hd⟩ := dig_at (sfx s k) i (by omega)
  have e : c = s[k + i] := by
    rw [sfx, List.getElem?_drop] at hc
    rw [List.getElem?_eq_getElem (by simpa using hl)] at hc
    exact (Option.some.inj hc).symm
  subst e
  exact digitB_bd hd
theorem extract_sfx (s : ByteArray) (k m : Nat) : s.extract k (k + m) = ⟨((sfx s k).take m).toArray⟩ := by
  apply ByteArray.ext
  apply Array.ext'
  simp [sfx, List.take_drop]

theorem twoL_len {r : List B} {b : B} {n : Nat} (h : twoL r = .ok (b, n)) : n = 2 ∧ 2 ≤ r.length := by
  unfold twoL at h
  split at h
  · cases h
  · split at h
    · cases h
    · split at h
      · cases h
      · split at h
        · cases h
        · simp only [Except.ok.injEq, Prod.mk.injEq] at h
          exact ⟨h.2.symm, by simp⟩
theorem oneL_len {r : List B} {b : B} {n : Nat} (h : oneL r = .ok (b, n)) : 1 ≤ n ∧ n ≤ r.length := by
  unfold oneL at h
  split at h
  · cases h
  · split at h
    · split at h
      · simp only [Except.ok.injEq, Prod.mk.injEq] at h; rw [← h.2]; simp
      · cases h
    · split at h
      · cases h
      · split at h
        · simp only [Except.ok.injEq, Prod.mk.injEq] at h; rw [← h.2]; simp
        · split at h
          · simp only [Except.ok.injEq, Prod.mk.injEq] at h; rw [← h.2]; simp
          · split at h
            · simp only [Except.ok.injEq, Prod.mk.injEq] at h; rw [← h.2]; simp
            · split at h
              · split at h
                · cases h
                · rename_i h2
                  simp only [Except.ok.injEq, Prod.mk.injEq] at h; rw [← h.2]
                  have := twoL_len h2
                  simp only [List.length_cons]; omega
              · split at h
                · simp only [Except.ok.injEq, Prod.mk.injEq] at h; rw [← h.2]; simp
                · cases h
theorem twoL_err {r : List B} {e : Int} (h : twoL r = .error e) : e = 4 ∨ e = 6 := by
  unfold twoL at h
  split at h
  · cases h; exact .inr rfl
  · split at h
    · cases h; exact .inl rfl
    · split at h
      · cases h; exact .inr rfl
      · split at h
        · cases h; exact .inl rfl
        · cases h
theorem oneL_err {r : List B} {e : Int} (h : oneL r = .error e) : e = 4 ∨ e = 6 := by
  unfold oneL at h
  split at h
  · cases h; exact .inr rfl
  · split at h
    · split at h
      · cases h
      · cases h; exact .inl rfl
    · split at h
      · cases h; exact .inr rfl
      · split at h
        · cases h
        · split at h
          · cases h
          · split at h
            · cases h
            · split at h
              · split at h
                · rename_i h2; cases h; exact twoL_err h2
                · cases h
              · split at h
                · cases h
                · cases h; exact .inl rfl
/-- a text up to its closing sign; the fuel: more than the bytes that are left -/
def quoL : Nat → List B → List B → Except Int (List B × List B)
  | 0, _, _ => .error 6
  | _ + 1, _, [] => .error 6
  | f + 1, acc, c :: r =>
    if ((c.toNat : Int) != 34) = false then .ok (acc, r) else
    match oneL (c :: r) with
    | .error e => .error e
    | .ok (b, n) => quoL f (acc ++ [b]) ((c :: r).drop n)
def quotedL (r : List B) : Except Int (Tok × Nat) :=
  match quoL (r.length + 1) [] r with
  | .error e => .error e
  | .ok (t, rest) => if 256 < (t.length : Int) then .error 2 else .ok (⟨2, t, Se.none, 0, 0⟩, r.length - rest.length)
end Go.Proofs.Ytdokeelodcckoaa
