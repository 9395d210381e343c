/-
  Automatons as plain functions on lists: what is right, the parts of the bytes, one way instead of many. No program in sight.
-/
import Derived.Test.YtfjomnhdmkbkiaaDoorDf0
namespace Go.Proofs.YtfjomnhdmkbkiaaDoor.Im

/-- an edge: from, to, by which bytes -/
structure Edge where
  fr : Int
  dst : Int
  st : Se
  deriving DecidableEq
/-- an automaton of many ways -/
structure Nfa where
  states : Int
  starts : List Int
  ends : List Int
  edges : List Edge
  deriving DecidableEq
deriving instance DecidableEq for Dfa
def Nfa.zero : Nfa := ⟨0, [], [], []⟩
def Dfa.zero : Dfa := ⟨[], [], []⟩
def stateOk (n s : Int) : Bool := decide (0 ≤ s) && decide (s < n)
def riseM (n : Int) : Option Int → List Int → Bool
  | _, [] => true
  | none, s :: l => stateOk n s && riseM n (some s) l
  | some q, s :: l => stateOk n s && decide (q < s) && riseM n (some s) l
def edgeOk (n : Int) (e : Edge) : Bool := stateOk n e.fr && stateOk n e.dst && !decide (e.st = Se.none)
def nfaOk (n : Nfa) : Bool :=
  decide (0 ≤ n.states) && decide (n.states ≤ 4096) && decide (n.edges.length ≤ 65536) && riseM n.states none n.starts && riseM n.states none n.ends && n.edges.all (edgeOk n.states)
def textFrom : Nat → List B → List Edge
  | _, [] => []
  | i, c :: l => ⟨i, i + 1, orBit Se.none c.toNat⟩ :: textFrom (i + 1) l
def textN (s : List B) : Except Int Nfa := if 256 < s.length then .error 2 else .ok ⟨s.length + 1, [0], [s.length], textFrom 0 s⟩

/-! sets of bytes -/
def wordS (s : Se) (i : Nat) : Int := if i = 0 then s.a else if i = 1 then s.b else if i = 2 then s.c else s.d
def hasS (s : Se) (b : Nat) : Bool := decide (wordS s (b / 64) / 2 ^ (b % 64) % 2 = 1)
def firstFrom (s : Se) : Nat → Nat → Option Nat
  | 0, _ => none
  | k + 1, b => if hasS s b then some b else firstFrom s k (b + 1)
/-- the least byte of a set -/
def firstS (s : Se) : Option Nat := firstFrom s 256 0
def unlikeM (acc : List Se) : List Edge → List Se
  | [] => acc
  | e :: l => unlikeM (if e.st ∈ acc then acc else acc ++ [e.st]) l
def keyM (l : List Se) (b : Nat) : List B := l.map fun s => if hasS s b then 1 else 0
def partStep (l : List Se) (b : Nat) (ks : List (List B)) (p : List Se) : List (List B) × List Se :=
  if keyM l b ∈ ks then (ks, p.set (ks.idxOf (keyM l b)) (anyS (p.getD (ks.idxOf (keyM l b)) Se.none) (orBit Se.none b)))
  else (ks ++ [keyM l b], p ++ [anyS Se.none (orBit Se.none b)])
def partFrom (l : List Se) : Nat → Nat → List (List B) → List Se → List Se
  | 0, _, _, p => p
  | k + 1, b, ks, p => partFrom l k (b + 1) (partStep l b ks p).1 (partStep l b ks p).2
def partsM (l : List Se) : Except Int (List Se) := if 1024 < l.length then .error 2 else .ok (partFrom l 256 0 [] [])
def markM (i : Int) (s : Se) : Nat → List Int → Option (List Int)
  | _, [] => some []
  | b, c :: l =>
    if hasS s b then (if 0 ≤ c then none else (markM i s (b + 1) l).map (i :: ·)) else (markM i s (b + 1) l).map (c :: ·)
def classFrom : Nat → Int → List Int → List Se → Option (List Int)
  | _, _, cl, [] => if cl.all (fun c => decide (0 ≤ c)) then some cl else none
  | i, last, cl, s :: p =>
    match firstS s with
    | none => none
    | some b => if (b : Int) ≤ last then none else
      match markM i s 0 cl with
      | none => none
      | some cl' => classFrom (i + 1) b cl' p
/-- of each byte its part's number -/
def classM (p : List Se) : Option (List Int) := classFrom 0 (-1) (List.replicate 256 (-1)) p

/-! rows of numbers -/
def insU (x : Int) : List Int → List Int
  | [] => [x]
  | y :: l => if x < y then x :: y :: l else if x = y then y :: l else y :: insU x l
/-- the numbers of a row, rising, each once -/
def sortU : List Int → List Int
  | [] => []
  | x :: l => insU x (sortU l)
def putM (rows : List (List Int)) (l : List Int) : Except Int (Nat × List (List Int)) :=
  if sortU l ∈ rows then .ok (rows.idxOf (sortU l), rows)
  else if 4096 ≤ rows.length then .error 2 else .ok (rows.length, rows ++ [sortU l])
def behindM (es : List Edge) (row : List Int) (s : Se) : List Int :=
  row.flatMap fun x => ((es.filter fun e => decide (e.fr = x) && hasS e.st ((firstS s).getD 0))).map Edge.dst
def nextM (es : List Edge) (row : List Int) : List (List Int) → List Se → Except Int (List Int × List (List Int))
  | rows, [] => .ok ([], rows)
  | rows, s :: p =>
    match putM rows (behindM es row s) with
    | .error e => .error e
    | .ok (k, rows') => if 1024 ≤ k then .error 2 else
      match nextM es row rows' p with
      | .error e => .error e
      | .ok (l, rows'') => .ok ((k : Int) :: l, rows'')
def ofFrom (n : Nfa) (p : List Se) : Nat → Nat → List (List Int) → List (List Int) → List Bool → Except Int (List (List Int) × List Bool)
  | 0, _, _, _, _ => .error 2
  | f + 1, s, rows, next, fin =>
    if s < rows.length then
      match nextM n.edges (rows.getD s []) rows p with
      | .error e => .error e
      | .ok (l, rows') => ofFrom n p f (s + 1) rows' (next ++ [l]) (fin ++ [(rows.getD s []).any fun x => decide (x ∈ n.ends)])
    else .ok (next, fin)
/-- one way instead of many -/
def ofM (n : Nfa) : Except Int Dfa :=
  if nfaOk n then
    match partsM (unlikeM [] n.edges) with
    | .error e => .error e
    | .ok p =>
      match classM p with
      | none => .error 1
      | some cl =>
        match ofFrom n p 1026 0 [sortU n.starts] [] [] with
        | .error e => .error e
        | .ok (next, fin) => .ok ⟨cl, next, fin⟩
  else .error 1

/-! where it goes -/
def clsAt (d : Dfa) (c : B) : Int := d.cls.getD c.toNat 0
def goM (d : Dfa) (s : Int) (c : B) : Int := (d.next.getD s.toNat []).getD (clsAt d c).toNat 0
def runFrom (d : Dfa) : Int → List B → Int
  | s, [] => s
  | s, c :: l => runFrom d (goM d s c) l
def runM (d : Dfa) (s : Int) (w : List B) : Int × Int := if dfaOk d ∧ 0 ≤ s ∧ s < d.next.length then (runFrom d s w, 0) else (0, 1)
def takesM (d : Dfa) (w : List B) : Bool × Int := if dfaOk d then (d.fin.getD (runFrom d 0 w).toNat false, 0) else (false, 1)
theorem runFrom_two (d : Dfa) : ∀ (s : Int) (u v : List B), runFrom d s (u ++ v) = runFrom d (runFrom d s u) v
  | _, [], _ => rfl
  | s, c :: u, v => runFrom_two d (goM d s c) u v
def exN : Nfa := ⟨3, [0], [2], textFrom 0 [97, 98]⟩
def exD : Dfa := ⟨List.replicate 97 0 ++ [1, 2] ++ List.replicate 157 0, [[1,2,1],[1,1,1],[1,1,3],[1,1,1]], [false,false,false,true]⟩

def okIs (x : Except Int Dfa) (d : Dfa) : Bool := match x with | .ok y => decide (y = d) | .error _ => false
theorem okIs_eq {x : Except Int Dfa} {d : Dfa} (h : okIs x d = true) : x = .ok d := by
  unfold okIs at h
  split at h
  · rw [of_decide_eq_true h]
  · cases h
set_option maxRecDepth 100000 in
theorem ofM_ex : ofM exN = .ok exD := okIs_eq (by decide +kernel)
theorem tk1 : takesM exD [97, 98] = (true, 0) := by decide +kernel
theorem tk2 : takesM exD [97, 98, 97] = (false, 0) := by decide +kernel

theorem parts_lt : ∀ (l : List Int) (n m : Nat), parts n l = some m → n ≤ m ∧ ∀ c ∈ l, 0 ≤ c ∧ c < (m : Int)
  | [], n, m, h => by
    unfold parts at h
    cases h
    exact ⟨Nat.le_refl _, fun c hc => by simp at hc⟩
  | x :: l, n, m, h => by
    unfold parts at h
    split at h
    · cases h
    · rename_i hx
      split at h
      · rename_i hxn
        obtain ⟨h1, h2⟩ := parts_lt l (n + 1) m h
        refine ⟨by omega, fun c hc => ?_⟩
        rcases List.mem_cons.1 hc with rfl | hc
        · omega
        · exact h2 c hc
      · rename_i hxn
        obtain ⟨h1, h2⟩ := parts_lt l n m h
        refine ⟨h1, fun c hc => ?_⟩
        rcases List.mem_cons.1 hc with rfl | hc
        · omega
        · exact h2 c hc
theorem dfaOk_parts {d : Dfa} (h : dfaOk d = true) : ∃ m, partsOf d.cls = some m ∧ d.cls.length = 256 ∧ 1 ≤ d.next.length ∧ d.next.length ≤ 1024 ∧ d.fin.length = d.next.length ∧
    (∀ c ∈ d.cls, 0 ≤ c ∧ c < (m : Int)) ∧ ∀ row ∈ d.next, row.length = m ∧ ∀ s ∈ row, 0 ≤ s ∧ s < (d.next.length : Int) := by
  unfold dfaOk at h
  split at h
  · cases h
  · rename_i m hm
    simp only [Bool.and_eq_true, decide_eq_true_eq, List.all_eq_true] at h
    obtain ⟨⟨⟨h1, h2⟩, h3⟩, h4⟩ := h
    have hm' := hm
    unfold partsOf at hm'
    split at hm'
    · rename_i hl
      refine ⟨m, hm, hl, h1, h2, h3, (parts_lt _ _ _ hm').2, fun row hr => ?_⟩
      have := h4 row hr
      unfold rowOk at this
      simp only [Bool.and_eq_true, decide_eq_true_eq, List.all_eq_true] at this
      exact this
    · cases hm'
theorem getD_mem {α : Type} {l : List α} {i : Nat} (h : i < l.length) (x : α) : l.getD i x ∈ l := by
  rw [List.getD_eq_getElem?_getD, List.getElem?_eq_getElem h]
  exact List.getElem_mem h
theorem goM_in {d : Dfa} (h : dfaOk d = true) {s : Int} (_ : 0 ≤ s) (h1 : s < d.next.length) (c : B) : 0 ≤ goM d s c ∧ goM d s c < d.next.length := by
  obtain ⟨m, _, hl, _, _, _, hc, hr⟩ := dfaOk_parts h
  have hrow := hr _ (getD_mem (l := d.next) (i := s.toNat) (by omega) [])
  have hcl := hc _ (getD_mem (l := d.cls) (i := c.toNat) (by have := c.toNat_lt; omega) 0)
  exact hrow.2 _ (getD_mem (by unfold clsAt; omega) 0)
theorem runFrom_in {d : Dfa} (h : dfaOk d = true) : ∀ (w : List B) {s : Int}, 0 ≤ s → s < d.next.length → 0 ≤ runFrom d s w ∧ runFrom d s w < d.next.length
  | [], _, h0, h1 => ⟨h0, h1⟩
  | c :: w, _, h0, h1 => runFrom_in h w (goM_in h h0 h1 c).1 (goM_in h h0 h1 c).2
theorem run_cases (d : Dfa) (s : Int) (u : List B) : (dfaOk d = true ∧ 0 ≤ s ∧ s < d.next.length ∧ runM d s u = (runFrom d s u, 0)) ∨ runM d s u = (0, 1) := by
  unfold runM
  split
  · rename_i h; exact .inl ⟨h.1, h.2.1, h.2.2, rfl⟩
  · exact .inr rfl
theorem run_two {d : Dfa} {s : Int} {u : List B} (v : List B) (h : (runM d s u).2 = 0) :
    runM d (runM d s u).1 v = (runFrom d s (u ++ v), 0) ∧ runM d s (u ++ v) = (runFrom d s (u ++ v), 0) ∧ runM d s [] = (s, 0) := by
  rcases run_cases d s u with ⟨hd, h0, h1, e⟩ | e
  · rw [e]
    have hin := runFrom_in hd u h0 h1
    refine ⟨?_, ?_, ?_⟩
    · unfold runM; rw [if_pos ⟨hd, hin.1, hin.2⟩, runFrom_two]
    · unfold runM; rw [if_pos ⟨hd, h0, h1⟩]
    · unfold runM; rw [if_pos ⟨hd, h0, h1⟩]; rfl
  · rw [e] at h; cases h
theorem run_err {d : Dfa} {s : Int} {u : List B} (h : (runM d s u).2 ≠ 0) : runM d s u = (0, 1) := by
  rcases run_cases d s u with ⟨_, _, _, e⟩ | e
  · rw [e] at h; exact absurd rfl h
  · exact e
end Go.Proofs.YtfjomnhdmkbkiaaDoor.Im
