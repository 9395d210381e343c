/-
  Images as bytes, as plain functions on lists: what is right, what is written, what is read. No program in sight.
-/
import Derived.Lib.Bytealg
namespace Go.Proofs.Ytdokeelodcckoaa.Im

abbrev B := UInt8
/-- an automaton of one way -/
structure Dfa where
  cls : List Int
  next : List (List Int)
  fin : List Bool
/-- a transducer of one way -/
structure Sq where
  front : List B
  next : List (List Int)
  outs : List (List (List B))
  fin : List Bool
  tail : List (List B)
structure Rule where
  of : Dfa
  left : Dfa
  right : Dfa
  out : List B
  mapped : Bool
  by_ : Sq
structure Cls where
  name : List B
  of : Dfa
structure Img where
  rules : List Rule
  classes : List Cls
def Dfa.zero : Dfa := ⟨[], [], []⟩
def Sq.zero : Sq := ⟨[], [], [], [], []⟩

/-! what is right -/
/-- how many parts a row of classes has; none: it is no row of classes -/
def parts : Nat → List Int → Option Nat
  | n, [] => some n
  | n, c :: l => if c < 0 ∨ (n : Int) < c then none else if c = n then parts (n + 1) l else parts n l
def partsOf (l : List Int) : Option Nat := if l.length = 256 then parts 0 l else none
def rowOk (m n : Nat) (row : List Int) : Bool := decide (row.length = m) && row.all fun s => decide (0 ≤ s) && decide (s < n)
def dfaOk (d : Dfa) : Bool :=
  match partsOf d.cls with
  | none => false
  | some m => decide (1 ≤ d.next.length) && decide (d.next.length ≤ 1024) && decide (d.fin.length = d.next.length) && d.next.all (rowOk m d.next.length)
def arcOk (n : Nat) (z : Int) (o : List B) : Bool := decide (-1 ≤ z) && decide (z < n) && decide (o.length ≤ 4096) && !(decide (z = -1) && decide (o ≠ []))
def arcsOk (n : Nat) : List Int → List (List B) → Bool
  | z :: zs, o :: os => arcOk n z o && arcsOk n zs os
  | _, _ => true
def sRowOk (n : Nat) (next : List Int) (outs : List (List B)) : Bool := decide (next.length = 256) && decide (outs.length = 256) && arcsOk n next outs
def sStatesOk (n : Nat) : List (List Int) → List (List (List B)) → List Bool → List (List B) → Bool
  | x :: xs, o :: os, e :: es, t :: ts => decide (t.length ≤ 4096) && (e || decide (t = [])) && sRowOk n x o && sStatesOk n xs os es ts
  | _, _, _, _ => true
def sqOk (q : Sq) : Bool :=
  decide (q.next.length ≤ 1024) && decide (q.outs.length = q.next.length) && decide (q.fin.length = q.next.length) && decide (q.tail.length = q.next.length)
    && decide (q.front.length ≤ 4096) && !(decide (q.next.length = 0) && decide (q.front ≠ [])) && sStatesOk q.next.length q.next q.outs q.fin q.tail
def sqNone (q : Sq) : Bool := decide (q.front = []) && decide (q.next.length = 0) && decide (q.outs.length = 0) && decide (q.fin.length = 0) && decide (q.tail.length = 0)
def ruleOk (r : Rule) : Bool :=
  dfaOk r.of && dfaOk r.left && dfaOk r.right && (if r.mapped then sqOk r.by_ && decide (r.out = []) else sqNone r.by_ && decide (r.out.length ≤ 256))
/-- 'ok': what may be a name -/
def classesOk (ok : List B → Bool) : List (List B) → List Cls → Bool
  | _, [] => true
  | seen, c :: l => ok c.name && !(seen.contains c.name) && dfaOk c.of && classesOk ok (seen ++ [c.name]) l
def imgOk (ok : List B → Bool) (x : Img) : Bool :=
  decide (x.rules.length ≤ 64) && x.rules.all ruleOk && decide (x.classes.length ≤ 64) && classesOk ok [] x.classes

/-! what is written -/
abbrev most : Nat := 1048576
def eNum (n : Int) : List B := [UInt8.ofNat (n.toNat / 256), UInt8.ofNat n.toNat]
def eText (s : List B) : List B := eNum s.length ++ s
def eBit (b : Bool) : List B := [if b then 1 else 0]
def eNums (l : List Int) : List B := l.flatMap eNum
def eClass (l : List Int) : List B := l.map fun c => UInt8.ofNat c.toNat
def classesIn (l : List Int) : Int := l.foldl (fun m c => max m (c + 1)) 0
def eStates : List Bool → List (List Int) → List B
  | e :: es, x :: xs => eBit e ++ eNums x ++ eStates es xs
  | _, _ => []
def eDfa (d : Dfa) : List B := eNum d.next.length ++ eNum (classesIn d.cls) ++ eClass d.cls ++ eStates d.fin d.next
def arcsIn (l : List Int) : Nat := (l.filter fun z => decide (0 ≤ z)).length
def eArc (b : Nat) (z : Int) (o : List B) : List B := UInt8.ofNat b :: (eNum z ++ eText o)
def eArcs (b : Nat) : List Int → List (List B) → List B
  | z :: zs, o :: os => (if 0 ≤ z then eArc b z o else []) ++ eArcs (b + 1) zs os
  | _, _ => []
def eTail (e : Bool) (t : List B) : List B := if e then eText t else []
def eSStates : List (List Int) → List (List (List B)) → List Bool → List (List B) → List B
  | x :: xs, o :: os, e :: es, t :: ts => eBit e ++ eTail e t ++ eNum (arcsIn x) ++ eArcs 0 x o ++ eSStates xs os es ts
  | _, _, _, _ => []
def eSq (q : Sq) : List B := eText q.front ++ eNum q.next.length ++ eSStates q.next q.outs q.fin q.tail
def eBy (r : Rule) : List B := if r.mapped then eSq r.by_ else eText r.out
def eRule (r : Rule) : List B := eBit r.mapped ++ eDfa r.of ++ eDfa r.left ++ eDfa r.right ++ eBy r
def eRules (l : List Rule) : List B := l.flatMap eRule
def eCls (c : Cls) : List B := eText c.name ++ eDfa c.of
def eClasses (l : List Cls) : List B := l.flatMap eCls
def eImg (x : Img) : List B := eNum x.rules.length ++ eRules x.rules ++ eNum x.classes.length ++ eClasses x.classes
def sumL (l : List B) : Nat := l.foldl (fun n x => (31 * n + x.toNat + 1) % 65521) 1
def headL (c : List B) : List B :=
  [87, 72, 1, UInt8.ofNat (c.length / 16777216), UInt8.ofNat (c.length / 65536), UInt8.ofNat (c.length / 256), UInt8.ofNat c.length, UInt8.ofNat (sumL c / 256), UInt8.ofNat (sumL c)]
/-- the bytes, and the error -/
def encode (ok : List B → Bool) (x : Img) : List B × Int :=
  if imgOk ok x then (if most < (eImg x).length then ([], 2) else (headL (eImg x) ++ eImg x, 0)) else ([], 1)

/-! what is read -/
structure Rd where
  b : List B
  bad : Bool
def take (n : Nat) (r : Rd) : List B × Rd := if r.bad || decide (r.b.length < n) then (List.replicate n 0, ⟨r.b, true⟩) else (r.b.take n, ⟨r.b.drop n, false⟩)
def byteAt (l : List B) (i : Nat) : Nat := (l.getD i 0).toNat
def num (m : Int) (r : Rd) : Int × Rd :=
  let n : Int := 256 * byteAt (take 2 r).1 0 + byteAt (take 2 r).1 1
  if m < n then (0, ⟨(take 2 r).2.b, true⟩) else (n, (take 2 r).2)
def txt (m : Int) (r : Rd) : List B × Rd := take (num m r).1.toNat (num m r).2
def bit (r : Rd) : Bool × Rd :=
  let c := byteAt (take 1 r).1 0
  (decide (c = 1), if 1 < c then ⟨(take 1 r).2.b, true⟩ else (take 1 r).2)
def nums (m : Int) : Nat → Rd → List Int × Rd
  | 0, r => ([], r)
  | k + 1, r => ((num m r).1 :: (nums m k (num m r).2).1, (nums m k (num m r).2).2)
def states (c : Nat) : Nat → Rd → (List Bool × List (List Int)) × Rd
  | 0, r => (([], []), r)
  | k + 1, r =>
    if r.bad then (([], []), r) else
    let e := bit r
    let x := nums 1024 c e.2
    let y := states c k x.2
    ((e.1 :: y.1.1, x.1 :: y.1.2), y.2)
def ints (l : List B) : List Int := l.map fun c => (c.toNat : Int)
def auto (r : Rd) : Dfa × Rd :=
  let s := num 1024 r
  let c := num 256 s.2
  let l := take 256 c.2
  let y := states c.1.toNat s.1.toNat l.2
  (⟨ints l.1, y.1.2, y.1.1⟩, y.2)
def arcs : Nat → (List Int × List (List B)) → Rd → (List Int × List (List B)) × Rd
  | 0, x, r => (x, r)
  | k + 1, x, r =>
    let b := take 1 r
    let z := num 1024 b.2
    let o := txt 4096 z.2
    arcs k (x.1.set (byteAt b.1 0) z.1, x.2.set (byteAt b.1 0) o.1) o.2
def blank : List Int × List (List B) := (List.replicate 256 (-1), List.replicate 256 [])
def tailOf (e : Bool) (r : Rd) : List B × Rd := if e then txt 4096 r else ([], r)
structure SRow where
  next : List Int
  outs : List (List B)
  fin : Bool
  tail : List B
def sstate (r : Rd) : SRow × Rd :=
  let e := bit r
  let t := tailOf e.1 e.2
  let n := num 256 t.2
  let y := arcs n.1.toNat blank n.2
  (⟨y.1.1, y.1.2, e.1, t.1⟩, y.2)
def sstates : Nat → Rd → List SRow × Rd
  | 0, r => ([], r)
  | k + 1, r => if r.bad then ([], r) else ((sstate r).1 :: (sstates k (sstate r).2).1, (sstates k (sstate r).2).2)
def sq (r : Rd) : Sq × Rd :=
  let f := txt 4096 r
  let n := num 1024 f.2
  let y := sstates n.1.toNat n.2
  (⟨f.1, y.1.map (·.next), y.1.map (·.outs), y.1.map (·.fin), y.1.map (·.tail)⟩, y.2)
def rule (r : Rd) : Rule × Rd :=
  let m := bit r
  let a := auto m.2
  let b := auto a.2
  let c := auto b.2
  if m.1 then (⟨a.1, b.1, c.1, [], true, (sq c.2).1⟩, (sq c.2).2) else (⟨a.1, b.1, c.1, (txt 256 c.2).1, false, Sq.zero⟩, (txt 256 c.2).2)
def rules : Nat → Rd → List Rule × Rd
  | 0, r => ([], r)
  | k + 1, r => if r.bad then ([], r) else ((rule r).1 :: (rules k (rule r).2).1, (rules k (rule r).2).2)
def cls (r : Rd) : Cls × Rd := (⟨(txt 256 r).1, (auto (txt 256 r).2).1⟩, (auto (txt 256 r).2).2)
def classes : Nat → Rd → List Cls × Rd
  | 0, r => ([], r)
  | k + 1, r => if r.bad then ([], r) else ((cls r).1 :: (classes k (cls r).2).1, (classes k (cls r).2).2)
def img (r : Rd) : Img × Rd :=
  let n := num 64 r
  let x := rules n.1.toNat n.2
  let m := num 64 x.2
  let y := classes m.1.toNat m.2
  (⟨x.1, y.1⟩, y.2)
/-- how much content the bytes tell of -/
def tells (b : List B) : Nat := 16777216 * byteAt b 3 + 65536 * byteAt b 4 + 256 * byteAt b 5 + byteAt b 6
def headOk (b : List B) : Bool := decide (byteAt b 0 = 87) && decide (byteAt b 1 = 72) && decide (byteAt b 2 = 1) && decide (tells b ≤ most)
/-- the error, or the image -/
def decode (ok : List B → Bool) (b : List B) : Except Int Img :=
  if b.length < 9 then .error 6 else
  if headOk b = false then .error 4 else
  if (b.drop 9).length < tells b then .error 6 else
  if tells b < (b.drop 9).length then .error 4 else
  if sumL (b.drop 9) ≠ 256 * byteAt b 7 + byteAt b 8 then .error 5 else
  let y := img ⟨b.drop 9, false⟩
  if y.2.bad || !y.2.b.isEmpty then .error 4 else
  if (encode ok y.1).2 ≠ 0 ∨ (encode ok y.1).1 ≠ b then .error 4 else .ok y.1
end Go.Proofs.Ytdokeelodcckoaa.Im
