/-
  What package lex computes, as plain functions on lists of bytes: letters, digits, white, one byte of a text.
-/
import Derived.Lib.Bytealg
/- Plain functions that say what package lex computes: lists of bytes, no program in sight. -/
namespace Go.Proofs.Ytdokeelodcckoaa
open Go.Lib

abbrev B := UInt8
def letterB (n : Int) : Bool := decide (97 ≤ n) && decide (n ≤ 122) || decide (65 ≤ n) && decide (n ≤ 90) || decide (n = 95)
def digitB (n : Int) : Bool := decide (48 ≤ n) && decide (n ≤ 57)
abbrev special : List B := [92, 34, 91, 93, 94, 45]
abbrev sixteen : List B := [48, 49, 50, 51, 52, 53, 54, 55, 56, 57, 97, 98, 99, 100, 101, 102]
def plainB (c : B) : Bool := decide (32 ≤ (c.toNat : Int)) && decide ((c.toNat : Int) ≤ 126) && decide (indexByte special c < 0)
/-- white space; the flag: within a remark -/
def white : Bool → List B → List B
  | _, [] => []
  | true, c :: r => if ((c.toNat : Int) == 10) = true then white false r else white true r
  | false, c :: r => if ((c.toNat : Int) == 32) = true ∨ ((c.toNat : Int) == 10) = true ∨ ((c.toNat : Int) == 13) = true ∨ ((c.toNat : Int) == 9) = true then white false r else if ((c.toNat : Int) == 35) = true then white true r else c :: r
/-- two digits in sixteens -/
def twoL : List B → Except Int (B × Nat)
  | [] => .error 6
  | a :: r =>
    if indexByte sixteen a < 0 then .error 4 else
    match r with
    | [] => .error 6
    | b :: _ => if indexByte sixteen b < 0 then .error 4 else .ok (UInt8.ofNat (16 * indexByte sixteen a + indexByte sixteen b).toNat, 2)
/-- one byte, as it is written; how many bytes that takes -/
def oneL : List B → Except Int (B × Nat)
  | [] => .error 6
  | c :: r =>
    if ((c.toNat : Int) == 92) = false then (if plainB c then .ok (c, 1) else .error 4) else
    match r with
    | [] => .error 6
    | d :: t =>
      if ((d.toNat : Int) == 110) = true then .ok (10, 2) else
      if ((d.toNat : Int) == 116) = true then .ok (9, 2) else
      if ((d.toNat : Int) == 114) = true then .ok (13, 2) else
      if ((d.toNat : Int) == 120) = true then (match twoL t with | .error e => .error e | .ok (b, n) => .ok (b, n + 2)) else
      if indexByte special d ≥ 0 then .ok (d, 2) else .error 4
theorem indexByte_lt : ∀ (l : List B) (c : B), indexByte l c < l.length ∨ l = []
  | [], _ => .inr rfl
  | b :: l, c => .inl (by
    unfold indexByte
    have := indexByte_lt l c
    rcases this with h | h
    · simp only [List.length_cons]; split
      · omega
      · split <;> omega
    · subst h; simp only [List.length_cons, List.length_nil]; split
      · omega
      · simp [indexByte])
theorem sixteen_lt (c : B) : indexByte [48, 49, 50, 51, 52, 53, 54, 55, 56, 57, 97, 98, 99, 100, 101, 102] c ≤ 15 := by
  have := indexByte_lt [48, 49, 50, 51, 52, 53, 54, 55, 56, 57, 97, 98, 99, 100, 101, 102] c
  rcases this with h | h
  · simp at h ⊢; omega
  · simp at h
def sfx (s : ByteArray) (k : Nat) : List B := s.data.toList.drop k
theorem sfx_cons (s : ByteArray) (k : Nat) (h : k < s.size) : sfx s k = s[k] :: sfx s (k + 1) := by
  unfold sfx
  rw [List.drop_eq_getElem_cons (by simpa using h)]
  rfl
theorem sfx_nil (s : ByteArray) (k : Nat) (h : s.size ≤ k) : sfx s k = [] := by
  unfold sfx
  rw [List.drop_eq_nil_of_le (by simpa using h)]
theorem sfx_len (s : ByteArray) (k : Nat) : (sfx s k).length = s.size - k := by
  unfold sfx; simp
end Go.Proofs.Ytdokeelodcckoaa
