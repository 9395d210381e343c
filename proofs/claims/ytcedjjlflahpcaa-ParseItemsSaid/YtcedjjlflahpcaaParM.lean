/-
  What package parse computes out of tokens, as plain functions; no program in sight.
-/
import Derived.Test.YtcedjjlflahpcaaLx1
/- Plain functions that say what package parse computes out of tokens; no program in sight. -/
namespace Go.Proofs.Ytcedjjlflahpcaa
open Go.Lib

/-- an expression -/
inductive Re where
  | mk (kind : Int) (text : List B) (set : Se) (parts : List Re) (min : Int) (max : Int)
/-- what a parser hands back: a place and what is wrong there, or an expression and the place behind it -/
abbrev R := Except (Int × Int) (Re × Nat)
def tokAt (T : List Tok) (i : Nat) : Tok := T.getD i Tok.zero
def isB (t : Tok) (s : List B) : Bool := t.kind == 4 && t.text == s
def reservedB (s : List B) : Bool := s == [100, 101, 102] || s == [109, 97, 112] || s == [116, 111, 107, 101, 110] || s == [114, 117, 108, 101] || s == [95]
def nameM (T : List Tok) (a : Nat) : Except (Int × Int) (List B × Nat) :=
  let t := tokAt T a
  if reservedB t.text = true then .error (t.pos, 4) else
  if (t.kind != 1) = true then .error (t.pos, 4) else .ok (t.text, a + 1)
def leafM (notNone : Se) (T : List Tok) (a : Nat) : R :=
  let t := tokAt T a
  if (t.kind == 2) = true then .ok (.mk 1 t.text Se.none [] 0 0, a + 1) else
  if (t.kind == 3) = true then .ok (.mk 2 [] t.set [] 0 0, a + 1) else
  if (t.kind == 1) = true then (match nameM T a with | .error e => .error e | .ok (s, a') => .ok (.mk 3 s Se.none [] 0 0, a')) else
  if isB t [46] = true then .ok (.mk 2 [] notNone [] 0 0, a + 1) else .error (t.pos, 4)
def beginsB (t : Tok) : Bool :=
  if (t.kind == 2) = true ∨ (t.kind == 3) = true then true else
  if (t.kind == 1) = true then !reservedB t.text else isB t [46] || isB t [40]
/-- how often, whether that is told, and the place behind it -/
structure Often where
  least : Int
  most : Int
  ok : Bool
  next : Nat
def oftenM (T : List Tok) (a : Nat) : Often :=
  let t := tokAt T a
  if isB t [42] = true then ⟨0, -1, true, a + 1⟩ else
  if isB t [43] = true then ⟨1, -1, true, a + 1⟩ else
  if isB t [63] = true then ⟨0, 1, true, a + 1⟩ else ⟨0, 0, false, a⟩
def numberM (T : List Tok) (a : Nat) (least : Int) : Except (Int × Int) (Int × Nat) :=
  let t := tokAt T a
  if (t.kind != 5) = true ∨ t.num < least ∨ 64 < t.num then .error (t.pos, 4) else .ok (t.num, a + 1)
def repM (atom : Nat → Nat → R) (T : List Tok) (a dep : Nat) : R :=
  match atom a dep with
  | .error e => .error e
  | .ok (part, a1) =>
    let o := oftenM T a1
    if o.ok = true then .ok (.mk 8 [] Se.none [part] o.least o.most, o.next) else
    if isB (tokAt T a1) [123] = true then
      match numberM T (a1 + 1) 0 with
      | .error e => .error e
      | .ok (lo, a2) =>
        if isB (tokAt T a2) [44] = true then
          match numberM T (a2 + 1) lo with
          | .error e => .error e
          | .ok (hi, a3) => if isB (tokAt T a3) [125] = true then .ok (.mk 8 [] Se.none [part] lo hi, a3 + 1) else .error ((tokAt T a3).pos, 4)
        else if isB (tokAt T a2) [125] = true then .ok (.mk 8 [] Se.none [part] lo lo, a2 + 1) else .error ((tokAt T a2).pos, 4)
    else .ok (part, a1)
def notM (rep : Nat → Nat → R) (T : List Tok) : Nat → Nat → Nat → R
  | 0, _, _ => .error (0, 0)
  | f + 1, a, dep =>
    if isB (tokAt T a) [33] = true then
      if dep = 32 then .error ((tokAt T a).pos, 8) else
      match notM rep T f (a + 1) (dep + 1) with
      | .error e => .error e
      | .ok (r, a1) => .ok (.mk 7 [] Se.none [r] 0 0, a1)
    else rep a dep
def joinedM (kind : Int) (l : List Re) : Re := match l with | [r] => r | _ => .mk kind [] Se.none l 0 0
def catLoop (part : Nat → Nat → R) (T : List Tok) (dep : Nat) : Nat → List Re → Nat → R
  | 0, _, _ => .error (0, 0)
  | f + 1, l, a =>
    if (isB (tokAt T a) [33] || beginsB (tokAt T a)) = true then
      match part a dep with
      | .error e => .error e
      | .ok (r, a1) => catLoop part T dep f (l ++ [r]) a1
    else .ok (joinedM 4 l, a)
def catM (part : Nat → Nat → R) (T : List Tok) (a dep : Nat) : R :=
  match part a dep with
  | .error e => .error e
  | .ok (r, a1) => catLoop part T dep (T.length + 1) [r] a1
def rowLoop (part : Nat → Nat → R) (T : List Tok) (dep : Nat) (kind : Int) (s : List B) : Nat → List Re → Nat → R
  | 0, _, _ => .error (0, 0)
  | f + 1, l, a =>
    if isB (tokAt T a) s = true then
      match part (a + 1) dep with
      | .error e => .error e
      | .ok (r, a1) => rowLoop part T dep kind s f (l ++ [r]) a1
    else .ok (joinedM kind l, a)
def rowM (kind : Int) (s : List B) (part : Nat → Nat → R) (T : List Tok) (a dep : Nat) : R :=
  match part a dep with
  | .error e => .error e
  | .ok (r, a1) => rowLoop part T dep kind s (T.length + 1) [r] a1
def atomM (notNone : Se) (alt : Nat → Nat → R) (T : List Tok) (a dep : Nat) : R :=
  if isB (tokAt T a) [40] = true then
    if dep = 32 then .error ((tokAt T a).pos, 8) else
    match alt (a + 1) (dep + 1) with
    | .error e => .error e
    | .ok (r, a1) => if isB (tokAt T a1) [41] = true then .ok (r, a1 + 1) else .error ((tokAt T a1).pos, 4)
  else leafM notNone T a
/-- an expression; the fuel: more than 32 less the depth -/
def altM (notNone : Se) (T : List Tok) : Nat → Nat → Nat → R
  | 0, _, _ => .error (0, 0)
  | n + 1, a, dep =>
    rowM 5 [124] (rowM 6 [38] (catM (notM (repM (atomM notNone (altM notNone T n) T) T) T 40) T) T) T a dep
end Go.Proofs.Ytcedjjlflahpcaa
