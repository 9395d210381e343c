/-
  What package parse computes out of tokens at maps, at items and at a file, as plain functions; no program in sight.
-/
import Derived.Test.YtcedjjlflahpcaaParO
namespace Go.Proofs.Ytcedjjlflahpcaa
open Go.Lib

/-- a map -/
inductive Mp where
  | mk (kind : Int) (re : Re) (out : List B) (parts : List Mp) (min : Int) (max : Int)
abbrev RX (α : Type) := Except (Int × Int) (α × Nat)
def Re.zero : Re := .mk 0 [] Se.none [] 0 0
def Mp.zero : Mp := .mk 0 Re.zero [] [] 0 0
def mjoinM (kind : Int) (l : List Mp) : Mp := match l with | [m] => m | _ => .mk kind Re.zero [] l 0 0
def mAtomM (alt : Nat → Nat → RX Mp) (T : List Tok) (a dep : Nat) : RX Mp :=
  if isB (tokAt T a) [40] = true then
    if dep = 32 then .error ((tokAt T a).pos, 8) else
    match alt (a + 1) (dep + 1) with
    | .error e => .error e
    | .ok (m, a1) => if isB (tokAt T a1) [41] = true then .ok (m, a1 + 1) else .error ((tokAt T a1).pos, 4)
  else
    match leafM notNone T a with
    | .error e => .error e
    | .ok (r, a1) =>
      if isB (tokAt T a1) [58] = true then
        if ((tokAt T (a1 + 1)).kind != 2) = true then .error ((tokAt T (a1 + 1)).pos, 4) else .ok (.mk 2 r (tokAt T (a1 + 1)).text [] 0 0, a1 + 1 + 1)
      else .ok (.mk 1 r [] [] 0 0, a1)
def mRepM (atom : Nat → Nat → RX Mp) (T : List Tok) (a dep : Nat) : RX Mp :=
  match atom a dep with
  | .error e => .error e
  | .ok (part, a1) =>
    let o := oftenM T a1
    if o.ok = true then .ok (.mk 5 Re.zero [] [part] o.least o.most, o.next) else .ok (part, a1)
def mCatLoop (part : Nat → Nat → RX Mp) (T : List Tok) (dep : Nat) : Nat → List Mp → Nat → RX Mp
  | 0, _, _ => .error (0, 0)
  | f + 1, l, a =>
    if beginsB (tokAt T a) = true then
      match part a dep with
      | .error e => .error e
      | .ok (r, a1) => mCatLoop part T dep f (l ++ [r]) a1
    else .ok (mjoinM 3 l, a)
def mCatM (part : Nat → Nat → RX Mp) (T : List Tok) (a dep : Nat) : RX Mp :=
  match part a dep with
  | .error e => .error e
  | .ok (r, a1) => mCatLoop part T dep (T.length + 1) [r] a1
def mRowLoop (part : Nat → Nat → RX Mp) (T : List Tok) (dep : Nat) : Nat → List Mp → Nat → RX Mp
  | 0, _, _ => .error (0, 0)
  | f + 1, l, a =>
    if isB (tokAt T a) [124] = true then
      match part (a + 1) dep with
      | .error e => .error e
      | .ok (r, a1) => mRowLoop part T dep f (l ++ [r]) a1
    else .ok (mjoinM 4 l, a)
def mRowM (part : Nat → Nat → RX Mp) (T : List Tok) (a dep : Nat) : RX Mp :=
  match part a dep with
  | .error e => .error e
  | .ok (r, a1) => mRowLoop part T dep (T.length + 1) [r] a1
/-- a map's parts with signs between; the fuel: more than 32 less the depth -/
def mAltM (T : List Tok) : Nat → Nat → Nat → RX Mp
  | 0, _, _ => .error (0, 0)
  | n + 1, a, dep => mRowM (mCatM (mRepM (mAtomM (mAltM T n) T) T) T) T a dep

/-- an item -/
structure It where
  kind : Int
  name : List B
  re : Re
  map : Mp
  out : List B
  by_ : List B
  around : Bool
  left : Re
  right : Re
def namedM (kind : Int) (T : List Tok) (a dep : Nat) : RX It :=
  match nameM T a with
  | .error e => .error e
  | .ok (s, a1) =>
    if isB (tokAt T a1) [61] = true then
      match altM notNone T 33 (a1 + 1) dep with
      | .error e => .error e
      | .ok (r, a2) => .ok (⟨kind, s, r, Mp.zero, [], [], false, Re.zero, Re.zero⟩, a2)
    else .error ((tokAt T a1).pos, 4)
def mapItemM (T : List Tok) (a dep : Nat) : RX It :=
  match nameM T a with
  | .error e => .error e
  | .ok (s, a1) =>
    if isB (tokAt T a1) [61] = true then
      match mAltM T 33 (a1 + 1) dep with
      | .error e => .error e
      | .ok (m, a2) => .ok (⟨2, s, Re.zero, m, [], [], false, Re.zero, Re.zero⟩, a2)
    else .error ((tokAt T a1).pos, 4)
/-- what a rule puts: a text, or a map's name -/
def ruleOut (T : List Tok) (a : Nat) : RX (List B × List B) :=
  if ((tokAt T a).kind == 2) = true then .ok (((tokAt T a).text, []), a + 1) else
  match nameM T a with
  | .error e => .error e
  | .ok (s, a1) => .ok (([], s), a1)
def ruleTail (r : Re) (o : List B × List B) (T : List Tok) (a dep : Nat) : RX It :=
  if isB (tokAt T a) [47] = true then
    match altM notNone T 33 (a + 1) dep with
    | .error e => .error e
    | .ok (l, a1) =>
      if ((tokAt T a1).text != [95]) = true then .error ((tokAt T a1).pos, 4) else
      if ((tokAt T a1).kind != 1) = true then .error ((tokAt T a1).pos, 4) else
      match altM notNone T 33 (a1 + 1) dep with
      | .error e => .error e
      | .ok (q, a2) => .ok (⟨3, [], r, Mp.zero, o.1, o.2, true, l, q⟩, a2)
  else .ok (⟨3, [], r, Mp.zero, o.1, o.2, false, Re.zero, Re.zero⟩, a)
def ruleM (T : List Tok) (a dep : Nat) : RX It :=
  match altM notNone T 33 a dep with
  | .error e => .error e
  | .ok (r, a1) =>
    if isB (tokAt T a1) [45, 62] = true then
      match ruleOut T (a1 + 1) with
      | .error e => .error e
      | .ok (o, a2) => ruleTail r o T a2 dep
    else .error ((tokAt T a1).pos, 4)
/-- the item that a word begins; 0 where none does -/
def kindOf (s : List B) : Nat :=
  if s == [100, 101, 102] then 1 else if s == [109, 97, 112] then 2 else if s == [114, 117, 108, 101] then 3 else if s == [116, 111, 107, 101, 110] then 4 else 0
def itemM (k : Nat) (T : List Tok) (a dep : Nat) : RX It :=
  if k = 1 then namedM 1 T a dep else if k = 2 then mapItemM T a dep else if k = 3 then ruleM T a dep else namedM 4 T a dep
def fileLoop (T : List Tok) (dep : Nat) : Nat → List It → Nat → RX (List It)
  | 0, _, _ => .error (0, 0)
  | f + 1, l, a =>
    if ((tokAt T a).kind != 0) = true then
      if l.length = 256 then .error ((tokAt T a).pos, 2) else
      if kindOf (tokAt T a).text = 0 then .error ((tokAt T a).pos, 4) else
      if ((tokAt T a).kind != 1) = true then .error ((tokAt T a).pos, 4) else
      match itemM (kindOf (tokAt T a).text) T (a + 1) dep with
      | .error e => .error e
      | .ok (x, a1) =>
        if isB (tokAt T a1) [59] = true then fileLoop T dep f (l ++ [x]) (a1 + 1) else .error ((tokAt T a1).pos, 4)
    else .ok (l, a)
def fileM (T : List Tok) (a dep : Nat) : RX (List It) := fileLoop T dep (T.length + 1) [] a
end Go.Proofs.Ytcedjjlflahpcaa
