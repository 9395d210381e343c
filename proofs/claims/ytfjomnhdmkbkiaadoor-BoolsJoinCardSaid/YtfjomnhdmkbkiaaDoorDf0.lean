/-
  Sets of bytes, classes and automatons in memory; the contracts of set.Any, set.Of, part.Sets and dfa.Check.
-/
import Derived.Lib.Bytealg
import Derived.Test.YtfjomnhdmkbkiaaDoorProg
import Derived.WalkKit
import Derived.WalkSpells
import Derived.WalkLawsBesides
import Derived.Deep.Light
import Derived.Lib.Strings
import Derived.Lib.OthersKept
import Derived.Deep.DeepCutAuto
import Derived.Deep.RegionWith
namespace Go.Proofs.YtfjomnhdmkbkiaaDoor.Im
open Go.RowKit Go.Lib

abbrev B := UInt8
structure Se where
  a : Int
  b : Int
  c : Int
  d : Int
  deriving DecidableEq
def Se.none : Se := ⟨0, 0, 0, 0⟩
theorem hid {p : Prop} (h : p) : Hid p := h
abbrev Se.v (s : Se) : Value := .agg #[.int .u64 s.a, .int .u64 s.b, .int .u64 s.c, .int .u64 s.d]
abbrev Se.cs (s : Se) : Array Value := #[.int .u64 s.a, .int .u64 s.b, .int .u64 s.c, .int .u64 s.d]

def anyS (s t : Se) : Se := ⟨bits .or .u64 s.a t.a, bits .or .u64 s.b t.b, bits .or .u64 s.c t.c, bits .or .u64 s.d t.d⟩

set_option maxHeartbeats 2000000 in
theorem any_any (s t : Se) (w : World) :
    Calls Tryd.prog 59 #[s.v, t.v] w fun e w' => e = .returned (anyS s t).v ∧ Below w.heap.size w w' := by
  obtain ⟨a, b, c, d⟩ := s
  obtain ⟨a', b', c', d'⟩ := t
  go_enter Tryd.func59, Tryd.ntmps59
  go_wp2
  refine wp_loop_rounds 5 ?_
  iterate 4 (rw [rounds_succ]; go_wp2; go_region; go_wp2)
  rw [rounds_succ]; go_wp2
  exact bodyPost_ret (v := (anyS ⟨a, b, c, d⟩ ⟨a', b', c', d'⟩).v) (by simp [results, Tryd.results59, go_sem, anyS]) rfl ⟨rfl, (((((((Below.refl _ _).alloc (Nat.le_refl _) _).alloc (by simp) _).alloc (by simp; omega) _).drew).drew).drew).drew⟩

def orBit (s : Se) (n : Nat) : Se :=
  if n / 64 = 0 then { s with a := bits .or .u64 s.a (IntKind.u64.wrap (2 ^ (n % 64))) } else
  if n / 64 = 1 then { s with b := bits .or .u64 s.b (IntKind.u64.wrap (2 ^ (n % 64))) } else
  if n / 64 = 2 then { s with c := bits .or .u64 s.c (IntKind.u64.wrap (2 ^ (n % 64))) } else
  { s with d := bits .or .u64 s.d (IntKind.u64.wrap (2 ^ (n % 64))) }
structure Dfa where
  cls : List Int
  next : List (List Int)
  fin : List Bool
def parts : Nat → List Int → Option Nat
  | n, [] => some n
  | n, c :: l => if c < 0 ∨ (n : Int) < c then none else if c = n then parts (n + 1) l else parts n l
def partsOf (l : List Int) : Option Nat := if l.length = 256 then parts 0 l else none
def rowOk (m n : Nat) (row : List Int) : Bool := decide (row.length = m) && row.all fun s => decide (0 ≤ s) && decide (s < n)
def dfaOk (d : Dfa) : Bool :=
  match partsOf d.cls with
  | none => false
  | some m => decide (1 ≤ d.next.length) && decide (d.next.length ≤ 1024) && decide (d.fin.length = d.next.length) && d.next.all (rowOk m d.next.length)
theorem alloc_old {w : World} {o : Obj} {k : Nat} (h : k < w.heap.size) : (w.alloc o).heap[k]? = w.heap[k]? := Below.heap_alloc _ _ _ h
theorem own_shape {w : World} {base e size n : Nat} {v : Value} {xs : List Value} (h : w.ownsRow base e size v n xs) : ∃ a cap, v = .slice a n cap := by
  rcases h.2 with ⟨rfl, rfl⟩ | ⟨g, cap, cur, rfl, _⟩
  · exact ⟨none, 0, rfl⟩
  · exact ⟨_, _, rfl⟩
theorem cell_box {w : World} {P : Nat} {v : Value} {T : TypeId} (h : w.heap[P]? = some (.cells #[v] T (0, 0))) : w.cell? ⟨P, 0, none⟩ = some v := by simp [World.cell?, h]
theorem free_box {w : World} {P i : Nat} {cs : Array Value} {T : TypeId} (h : w.heap[P]? = some (.cells cs T (0, 0))) : w.frozen? ⟨P, i, none⟩ = false := by simp [World.frozen?, h]
theorem lt_of_heap {w : World} {P : Nat} {o : Obj} (h : w.heap[P]? = some o) : P < w.heap.size := (Array.getElem?_eq_some_iff.1 h).1
theorem box_set {w : World} {P : Nat} {v : Value} {T : TypeId} (v' : Value) (h : w.heap[P]? = some (.cells #[v] T (0, 0))) : (w.setCell ⟨P, 0, none⟩ v').heap[P]? = some (.cells #[v'] T (0, 0)) := by
  rw [heap_setCell_same _ _ _ _ _ _ h]; rfl
theorem box_other {w : World} {P k : Nat} (v' : Value) (h : k ≠ P) : (w.setCell ⟨P, 0, none⟩ v').heap[k]? = w.heap[k]? := heap_setCell_other _ _ _ _ h
theorem ownsRow_same {w w' : World} {base e size n : Nat} {v : Value} {xs : List Value} (h : w.ownsRow base e size v n xs) (hk : ∀ k cur, w.heap[k]? = some (.cells cur e (0, 0)) → base ≤ k → w'.heap[k]? = w.heap[k]?) : w'.ownsRow base e size v n xs := by
  refine ⟨h.1, ?_⟩
  rcases h.2 with hn | ⟨g, cap, cur, hv, hb, hg, rest⟩
  · exact .inl hn
  · exact .inr ⟨g, cap, cur, hv, hb, (hk g cur hg hb).trans hg, rest⟩

theorem take_succ' {α : Type} (l : List α) (k : Nat) (h : k < l.length) : l.take (k + 1) = l.take k ++ [l[k]] := by rw [List.take_succ_eq_append_getElem h]



/-- the elements from an address on -/
def RowAt {α : Type} (F : Nat → Prop) (w : World) (R : Value → α → Prop) (ad : Option Addr) (l : List α) : Prop :=
  l ≠ [] → ∃ g off, ad = some ⟨g, off, none⟩ ∧ F g ∧ ∀ i (h : i < l.length), ∃ c, w.cell? ⟨g, off + i, none⟩ = some c ∧ R c l[i]
def Row {α : Type} (F : Nat → Prop) (w : World) (R : Value → α → Prop) (v : Value) (l : List α) : Prop :=
  ∃ ad cap, v = .slice ad l.length cap ∧ l.length ≤ maxLen ∧ RowAt F w R ad l
theorem cell_heap {w w' : World} {g o : Nat} (h : w'.heap[g]? = w.heap[g]?) : w'.cell? ⟨g, o, none⟩ = w.cell? ⟨g, o, none⟩ := World.cell?_of_block h
theorem RowAt.frame {α : Type} {F F' : Nat → Prop} {w w' : World} {R R' : Value → α → Prop} {ad : Option Addr} {l : List α} (h : RowAt F w R ad l) (hF : ∀ g, F g → F' g) (hw : ∀ g, F g → g < w.heap.size → w'.heap[g]? = w.heap[g]?) (hR : ∀ c x, x ∈ l → R c x → R' c x) : RowAt F' w' R' ad l := by
  intro hl
  obtain ⟨g, off, h1, h2, h3⟩ := h hl
  refine ⟨g, off, h1, hF g h2, fun i hi => ?_⟩
  obtain ⟨c, hc, hr⟩ := h3 i hi
  exact ⟨c, (cell_heap (hw g h2 (World.block_lt_of_cell? w _ hc))).trans hc, hR c _ (List.getElem_mem hi) hr⟩
theorem Row.frame {α : Type} {F F' : Nat → Prop} {w w' : World} {R R' : Value → α → Prop} {v : Value} {l : List α} (h : Row F w R v l) (hF : ∀ g, F g → F' g) (hw : ∀ g, F g → g < w.heap.size → w'.heap[g]? = w.heap[g]?) (hR : ∀ c x, x ∈ l → R c x → R' c x) : Row F' w' R' v l := by
  obtain ⟨ad, cap, h1, h2, h3⟩ := h
  exact ⟨ad, cap, h1, h2, h3.frame hF hw hR⟩
theorem RowAt.at' {α : Type} {F : Nat → Prop} {w : World} {R : Value → α → Prop} {ad : Option Addr} {l : List α} (h : RowAt F w R ad l) {i : Nat} (hi : i < l.length) :
    ∃ g off, ad = some ⟨g, off, none⟩ ∧ F g ∧ ∃ c, w.cell? ⟨g, off + i, none⟩ = some c ∧ R c l[i] := by
  obtain ⟨g, off, h1, h2, h3⟩ := h (by intro e; subst e; simp at hi)
  exact ⟨g, off, h1, h2, h3 i hi⟩
abbrev IntR (c : Value) (x : Int) : Prop := c = .int .i64 x
abbrev BoolR (c : Value) (x : Bool) : Prop := c = .bool x
abbrev StrR (c : Value) (x : List B) : Prop := c = .string ⟨x.toArray⟩
abbrev IntsIn (F : Nat → Prop) (w : World) : Value → List Int → Prop := Row F w IntR
abbrev BoolsIn (F : Nat → Prop) (w : World) : Value → List Bool → Prop := Row F w BoolR
abbrev StrsIn (F : Nat → Prop) (w : World) : Value → List (List B) → Prop := Row F w StrR
abbrev RowsIn (F : Nat → Prop) (w : World) : Value → List (List Int) → Prop := Row F w (IntsIn F w)
abbrev TextsIn (F : Nat → Prop) (w : World) : Value → List (List (List B)) → Prop := Row F w (StrsIn F w)
theorem IntsIn.frame {F F' : Nat → Prop} {w w' : World} {v : Value} {l : List Int} (h : IntsIn F w v l) (hF : ∀ g, F g → F' g) (hw : ∀ g, F g → g < w.heap.size → w'.heap[g]? = w.heap[g]?) : IntsIn F' w' v l := Row.frame h hF hw fun _ _ _ h => h
theorem BoolsIn.frame {F F' : Nat → Prop} {w w' : World} {v : Value} {l : List Bool} (h : BoolsIn F w v l) (hF : ∀ g, F g → F' g) (hw : ∀ g, F g → g < w.heap.size → w'.heap[g]? = w.heap[g]?) : BoolsIn F' w' v l := Row.frame h hF hw fun _ _ _ h => h
theorem StrsIn.frame {F F' : Nat → Prop} {w w' : World} {v : Value} {l : List (List B)} (h : StrsIn F w v l) (hF : ∀ g, F g → F' g) (hw : ∀ g, F g → g < w.heap.size → w'.heap[g]? = w.heap[g]?) : StrsIn F' w' v l := Row.frame h hF hw fun _ _ _ h => h
theorem RowsIn.frame {F F' : Nat → Prop} {w w' : World} {v : Value} {l : List (List Int)} (h : RowsIn F w v l) (hF : ∀ g, F g → F' g) (hw : ∀ g, F g → g < w.heap.size → w'.heap[g]? = w.heap[g]?) : RowsIn F' w' v l := Row.frame h hF hw fun _ _ _ h => IntsIn.frame h hF hw
theorem TextsIn.frame {F F' : Nat → Prop} {w w' : World} {v : Value} {l : List (List (List B))} (h : TextsIn F w v l) (hF : ∀ g, F g → F' g) (hw : ∀ g, F g → g < w.heap.size → w'.heap[g]? = w.heap[g]?) : TextsIn F' w' v l := Row.frame h hF hw fun _ _ _ h => StrsIn.frame h hF hw
structure DfaIn (F : Nat → Prop) (w : World) (a b c : Value) (d : Dfa) : Prop where
  cls : IntsIn F w a d.cls
  next : RowsIn F w b d.next
  fin : BoolsIn F w c d.fin
theorem DfaIn.frame {F F' : Nat → Prop} {w w' : World} {a b c : Value} {d : Dfa} (h : DfaIn F w a b c d) (hF : ∀ g, F g → F' g) (hw : ∀ g, F g → g < w.heap.size → w'.heap[g]? = w.heap[g]?) : DfaIn F' w' a b c d :=
  ⟨h.cls.frame hF hw, h.next.frame hF hw, h.fin.frame hF hw⟩
/-- the cells of a block known as a whole -/
theorem cell_blk {w : World} {g i : Nat} {cs : Array Value} {T : TypeId} {v : Value} (h : w.heap[g]? = some (.cells cs T (0, 0))) (hv : cs[i]? = some v) : w.cell? ⟨g, i, none⟩ = some v := (cell_of_row _ _ i _ _ _ h).trans hv
theorem dcells {w : World} {D : Nat} {a b c : Value} (h : w.heap[D]? = some (.cells #[a, b, c] 30 (0, 0))) :
    w.cell? ⟨D, 0, none⟩ = some a ∧ w.cell? ⟨D, 1, none⟩ = some b ∧ w.cell? ⟨D, 2, none⟩ = some c := ⟨cell_blk h rfl, cell_blk h rfl, cell_blk h rfl⟩



set_option maxRecDepth 100000 in
set_option maxHeartbeats 1000000 in
theorem of_one (c : B) (w : World) (g : Nat) (hg : w.heap[g]? = some (.cells #[.int .u8 c.toNat] 5 (0, 0))) :
    Calls Tryd.prog 73 #[.slice (some ⟨g, 0, none⟩) 1 1] w fun e w' => e = .returned (orBit Se.none c.toNat).v ∧ Below w.heap.size w w' := by
  have hl := (Array.getElem?_eq_some_iff.1 hg).1
  have c0 : w.cell? ⟨g, 0, none⟩ = some (.int .u8 c.toNat) := cell_of_row _ _ 0 _ _ _ hg
  have hc := c.toNat_lt
  clear hg
  have hcase : c.toNat / 64 = 0 ∨ c.toNat / 64 = 1 ∨ c.toNat / 64 = 2 ∨ c.toNat / 64 = 3 := by omega
  rcases hcase with hq | hq | hq | hq
  all_goals
    have hq' : (c.toNat : Int) / 64 = _ := (by omega : _ = ((c.toNat / 64 : Nat) : Int)).trans (congrArg _ hq)
    have HQ := hid hq
    clear hq
    simp only [Int.cast_ofNat_Int] at hq'
    go_enter Tryd.func73, Tryd.ntmps73
    go_wp2
    refine wp_loop_rounds 2 ?_
    rw [rounds_succ]
    go_wp2
    rw [rounds_succ]
    go_wp2
    exact bodyPost_ret (v := (orBit Se.none c.toNat).v) (by simp [results, Tryd.results73, go_sem, orBit, HQ.out, Se.none]) rfl ⟨rfl, (((Below.refl _ w).alloc (Nat.le_refl _) _).alloc (by simp) _)⟩
theorem of_n {n : Int} (k : Nat) (hn : n = k) (hk : k < 256) (w : World) (g : Nat) (hg : w.heap[g]? = some (.cells #[.int .u8 n] 5 (0, 0))) :
    Calls Tryd.prog 73 #[.slice (some ⟨g, 0, none⟩) 1 1] w fun e w' => e = .returned (orBit Se.none k).v ∧ Below w.heap.size w w' := by
  subst hn
  have e : (UInt8.ofNat k).toNat = k := by simp; omega
  have := of_one (UInt8.ofNat k) w g (by rw [e]; exact hg)
  rw [e] at this
  exact this
theorem own_later {w w1 : World} {base e size n : Nat} {v : Value} {xs : List Value} (h : w.ownsRow base e size v n xs) (hb : Below w.heap.size w w1) : w1.ownsRow base e size v n xs :=
  ownsRow_same h fun k _ hk _ => hb.block k (lt_of_heap hk)
theorem heap_new_drew (w : World) (o : Obj) : ((w.alloc o).drew).heap[w.heap.size]? = some o := heap_alloc_new w o
theorem own_drew {w : World} {base e size n : Nat} {v : Value} {xs : List Value} (h : w.ownsRow base e size v n xs) : w.drew.ownsRow base e size v n xs := h
theorem own_after {w w1 : World} {o : Obj} {base e size n : Nat} {v : Value} {xs : List Value} (h : w.ownsRow base e size v n xs) (hb : Below (w.alloc o).heap.size (w.alloc o) w1) : w1.ownsRow base e size v n xs :=
  own_later (h.alloc o) hb

/-! the parts of a row of classes -/
def flat (ss : List Se) : List Value := ss.flatMap fun s => s.cs.toList
theorem flat_cons (s : Se) (ss : List Se) : flat (s :: ss) = .int .u64 s.a :: .int .u64 s.b :: .int .u64 s.c :: .int .u64 s.d :: flat ss := rfl
theorem flat_snoc (ss : List Se) (s : Se) : flat (ss ++ [s]) = flat ss ++ s.cs.toList := by unfold flat; rw [List.flatMap_append]; simp
theorem flat_len : ∀ (ss : List Se), (flat ss).length = ss.length * 4
  | [] => rfl
  | s :: ss => by rw [flat_cons]; simp [flat_len ss]; omega
theorem flat_get (i : Nat) (hi : i < 4) : ∀ (ss : List Se) (j : Nat) (h : j < ss.length), (flat ss)[j * 4 + i]? = ss[j].cs[i]?
  | [], _, h => by simp at h
  | s :: ss, 0, _ => by
    rw [flat_cons, Nat.zero_mul, Nat.zero_add]
    obtain rfl | rfl | rfl | rfl : i = 0 ∨ i = 1 ∨ i = 2 ∨ i = 3 := by omega
    all_goals rfl
  | s :: ss, j + 1, h => by
    rw [flat_cons, show (j + 1) * 4 + i = (j * 4 + i) + 1 + 1 + 1 + 1 by omega]
    simp only [List.getElem?_cons_succ, List.getElem_cons_succ]
    exact flat_get i hi ss j (by simpa using h)
theorem flat_set (u : Se) : ∀ (ss : List Se) (j : Nat) (_ : j < ss.length), ((((flat ss).set (j * 4) (.int .u64 u.a)).set (j * 4 + 1) (.int .u64 u.b)).set (j * 4 + 2) (.int .u64 u.c)).set (j * 4 + 3) (.int .u64 u.d) = flat (ss.set j u)
  | [], _, h => by simp at h
  | s :: ss, 0, _ => by simp only [Nat.zero_mul, Nat.zero_add]; rfl
  | s :: ss, j + 1, h => by
    have ih := flat_set u ss j (by simpa using h)
    rw [List.set_cons_succ, flat_cons, flat_cons, ← ih]
    rw [show (j + 1) * 4 = j * 4 + 1 + 1 + 1 + 1 by omega]
    simp only [List.set_cons_succ, show ∀ n : Nat, n + 1 + 1 + 1 + 1 + 1 = (n + 1) + 1 + 1 + 1 + 1 from fun _ => rfl, show ∀ n : Nat, n + 1 + 1 + 1 + 1 + 2 = (n + 2) + 1 + 1 + 1 + 1 from fun _ => rfl]
def grow (c : Nat) (ss : List Se) : List Se := if c = ss.length then ss ++ [Se.none] else ss
def putIn (b c : Nat) (ss : List Se) : List Se := (grow c ss).set c (anyS ((grow c ss).getD c Se.none) (orBit Se.none b))
def setsM : Nat → List Int → List Se → Option (List Se)
  | _, [], ss => some ss
  | b, c :: l, ss => if c < 0 ∨ (ss.length : Int) < c then none else setsM (b + 1) l (putIn b c.toNat ss)
def setsOf (l : List Int) : Option (List Se) := if l.length = 256 then setsM 0 l [] else none
theorem grow_len (c : Nat) (ss : List Se) : (grow c ss).length = if c = ss.length then ss.length + 1 else ss.length := by
  unfold grow; split <;> simp
theorem setsM_parts : ∀ (l : List Int) (b : Nat) (ss : List Se), (setsM b l ss).map List.length = parts ss.length l
  | [], _, _ => rfl
  | c :: l, b, ss => by
    unfold setsM parts
    split
    · rfl
    · rename_i hc
      rw [setsM_parts l]
      unfold putIn
      rw [List.length_set, grow_len]
      split
      · rename_i h; rw [if_pos (by omega)]
      · rename_i h; rw [if_neg (by omega)]
theorem setsOf_parts (l : List Int) : (setsOf l).map List.length = partsOf l := by
  unfold setsOf partsOf
  split
  · exact setsM_parts l 0 []
  · rfl
theorem drop_cons' {α : Type} (l : List α) (k : Nat) (h : k < l.length) : l.drop k = l[k] :: l.drop (k + 1) := List.drop_eq_getElem_cons h
theorem infoSet : (Tryd.prog.info? 65).map (fun i => (i.zero, i.size, i.bytes)) = some (some (.agg #[.int .u64 0, .int .u64 0, .int .u64 0, .int .u64 0]), 4, 32) := by kernel_rfl
/-- a part that is read or written in a row of parts -/
theorem part_at {w : World} {base n cap : Nat} {ad : Option Addr} {ss : List Se} (h : w.ownsRow base 65 4 (.slice ad n cap) n (flat ss)) (hn : n = ss.length) {j : Nat} (hj : j < ss.length) :
    ∃ g, ad = some ⟨g, 0, none⟩ ∧ base ≤ g ∧ g < w.heap.size ∧ (w.cell? ⟨g, j * 4, none⟩ = some (.int .u64 ss[j].a) ∧ w.cell? ⟨g, j * 4 + 1, none⟩ = some (.int .u64 ss[j].b) ∧ w.cell? ⟨g, j * 4 + 2, none⟩ = some (.int .u64 ss[j].c) ∧ w.cell? ⟨g, j * 4 + 3, none⟩ = some (.int .u64 ss[j].d)) ∧
      (∀ i, w.frozen? ⟨g, i, none⟩ = false) := by
  subst hn
  rcases h.2 with ⟨e, h0⟩ | ⟨g, cp, cur, e, hb, hg, _⟩
  · omega
  · cases e
    refine ⟨g, rfl, hb, lt_of_heap hg, ⟨?_, ?_, ?_, ?_⟩, fun i => h.frozenAt i⟩
    · rw [h.cellAt _ (by omega)]; exact flat_get 0 (by omega) ss j hj
    · rw [h.cellAt _ (by omega)]; exact flat_get 1 (by omega) ss j hj
    · rw [h.cellAt _ (by omega)]; exact flat_get 2 (by omega) ss j hj
    · rw [h.cellAt _ (by omega)]; exact flat_get 3 (by omega) ss j hj
theorem part_now {w : World} {base g n cap : Nat} {ss : List Se} (h : w.ownsRow base 65 4 (.slice (some ⟨g, 0, none⟩) n cap) n (flat ss)) (hn : n = ss.length) {j : Nat} (hj : j < ss.length) :
    w.cell? ⟨g, j * 4, none⟩ = some (.int .u64 ss[j].a) ∧ w.cell? ⟨g, j * 4 + 1, none⟩ = some (.int .u64 ss[j].b) ∧ w.cell? ⟨g, j * 4 + 2, none⟩ = some (.int .u64 ss[j].c) ∧ w.cell? ⟨g, j * 4 + 3, none⟩ = some (.int .u64 ss[j].d) ∧
      w.frozen? ⟨g, j * 4, none⟩ = false ∧ w.frozen? ⟨g, j * 4 + 1, none⟩ = false ∧ w.frozen? ⟨g, j * 4 + 2, none⟩ = false ∧ w.frozen? ⟨g, j * 4 + 3, none⟩ = false := by
  obtain ⟨g', e, _, _, ⟨c0, c1, c2, c3⟩, hf⟩ := part_at h hn hj
  cases e
  exact ⟨c0, c1, c2, c3, hf _, hf _, hf _, hf _⟩
theorem sets_store {w : World} {base g cap : Nat} {ss : List Se} (h : w.ownsRow base 65 4 (.slice (some ⟨g, 0, none⟩) ss.length cap) ss.length (flat ss)) {j : Nat} (hj : j < ss.length) (u : Se) :
    ((((w.setCell ⟨g, j * 4, none⟩ (.int .u64 u.a)).setCell ⟨g, j * 4 + 1, none⟩ (.int .u64 u.b)).setCell ⟨g, j * 4 + 2, none⟩ (.int .u64 u.c)).setCell ⟨g, j * 4 + 3, none⟩ (.int .u64 u.d)).ownsRow base 65 4 (.slice (some ⟨g, 0, none⟩) ss.length cap) ss.length (flat (ss.set j u)) := by
  rw [← flat_set u ss j hj]
  exact ((((h.stored _ _).1.stored _ _).1.stored _ _).1.stored _ _).1

/-- what part.Sets hands back -/
def SetsPost (w : World) (x : Option (List Se)) (e : Ending) (w' : World) : Prop :=
  Below w.heap.size w w' ∧ (match x with
      | none => e = .returned (.tuple #[.slice none 0 0, .int .i64 1])
      | some ss => ∃ ad cap, e = .returned (.tuple #[.slice ad ss.length cap, .int .i64 0]) ∧ w'.ownsRow w.heap.size 65 4 (.slice ad ss.length cap) ss.length (flat ss))

set_option maxRecDepth 100000 in
set_option maxHeartbeats 2000000 in
theorem sets_any {F : Nat → Prop} {w : World} {v : Value} {l : List Int} (hl : IntsIn F w v l) (hF : ∀ g, F g → g < w.heap.size) :
    Calls Tryd.prog 58 #[v] w (SetsPost w (setsOf l)) := by
  obtain ⟨ad, cp, rfl, hm, hr⟩ := hl
  unfold maxLen at hm
  have HR := hid hr
  clear hr
  by_cases h256 : l.length = 256
  · have HS := hid (show setsM 0 l [] = setsOf l by unfold setsOf; rw [if_pos h256])
    have H256 := hid h256
    have hl' : (l.length : Int) = 256 := by omega
    obtain ⟨i0, hi, hz0, hz1, hz2⟩ := info_parts infoSet
    have HI := hid hi
    have HZ := hid (And.intro hz0 (And.intro hz1 hz2))
    clear hi hz0 hz1 hz2 h256
    have HL' := hid hl'
    have hb256 : ((l.length : Int) != 256) = false := by simp [hl']
    clear hl'
    go_enter Tryd.func58, Tryd.ntmps58
    go_wp2
    go_loopw [4, 12] (fun p i wr => ∃ (k : Nat) (ss : List Se), k ≤ l.length ∧ ss.length ≤ k ∧ i = .int .i64 k ∧ wr.ownsRow w.heap.size 65 4 p ss.length (flat ss) ∧ Hid (setsM k (l.drop k) ss = setsOf l) ∧ Below w.heap.size w wr) (fun _ i _ => l.length - (intOf i).toNat)
    case atStart => exact ⟨0, [], Nat.zero_le _, Nat.zero_le _, rfl, World.ownsRow_nil _ _ _ _, HS, Below.refl _ _⟩
    case round =>
      obtain ⟨k, ss, hk, hsk, rfl, hown, hsm, hbel⟩ := hrel
      obtain ⟨adp, cpp, rfl⟩ := own_shape hown
      have HO := hid hown
      have hk256 : k ≤ 256 := by have := H256.out; omega
      by_cases hlt : k < l.length
      · obtain ⟨g, off, rfl, hFg, x, hx, rfl⟩ := (HR.out.frame (w' := wr) (F' := F) (fun _ h => h) (fun q hq _ => hbel.block q (hF q hq)) (R' := IntR) (fun _ _ _ h => h)).at' hlt
        have hsm1 := hsm.out
        rw [drop_cons' l k hlt] at hsm1
        unfold setsM at hsm1
        by_cases hneg : l[k] < 0
        · rw [if_pos (.inl hneg)] at hsm1
          have HN := hid hsm1.symm
          clear hsm1 hown
          go_wp2
          go_ret2
          rw [HN.out]
          exact ⟨hbel, rfl⟩
        · by_cases hgt : (ss.length : Int) < l[k]
          · rw [if_pos (.inr hgt)] at hsm1
            have HN := hid hsm1.symm
            clear hsm1 hown
            go_wp2
            go_ret2
            rw [HN.out]
            exact ⟨hbel, rfl⟩
          · rw [if_neg (by omega)] at hsm1
            obtain ⟨c, hc⟩ := Int.eq_ofNat_of_zero_le (a := l[k]) (by omega)
            rw [hc] at hx hsm1 hneg hgt
            rw [Int.toNat_natCast] at hsm1
            have HSM := hid hsm1
            have hc1 : c ≤ ss.length := by omega
            clear hsm1 hown hsm hneg hgt hc
            have hk255 : k < 256 := by have := H256.out; omega
            have hkB := hid (show (k : Int) = ((UInt8.ofNat k).toNat : Int) by simp; omega)
            go_upto_if 28 with fail
            go_cut [4] (fun p wx => wx.ownsRow w.heap.size 65 4 p (grow c ss).length (flat (grow c ss)) ∧ Below w.heap.size w wx)
            case first =>
              by_cases hcs : c = ss.length
              · have hcs' : (ss.length : Int) ≤ (c : Int) := by omega
                have hgr := hid (show grow c ss = ss ++ [Se.none] by unfold grow; rw [if_pos hcs])
                have HCS := hid hcs
                clear hcs
                go_wp2_with (at_builtin; refine wpList_append_own _ rfl _ _ 56 rfl w.heap.size 65 i0 _ 4 32 Tryd.underlying56 HI.out HZ.out.1 HZ.out.2.1 HZ.out.2.2 rfl (by decide) _ _ _ rfl (HO.out.alloc _) ⟨wr.heap.size, 0, none⟩ 1 1 Se.none.cs.toList rfl rfl ?c1 ?c2 ?c3 ?c4 ?c5 ?_)
                case c1 => intro j u hu; simpa [Se.none] using hu
                case c2 => simp [Value.oneCell']
                case c3 => unfold maxLen; omega
                case c4 => omega
                case c5 => have := hbel.size; simp; omega
                intro p' w1 hown' hgrow _
                go_wp2
                go_meet
                rw [hgr.out, List.length_append, flat_snoc]
                refine ⟨hown', (hbel.alloc hbel.size _).grown hgrow (by have := hbel.size; simp; omega) (fun q hq => (HO.out.lt q hq).1)⟩
              · have hgr := hid (show grow c ss = ss by unfold grow; rw [if_neg hcs])
                have hcs' : (c : Int) < (ss.length : Int) := by omega
                clear hcs
                go_wp2
                go_meet
                rw [hgr.out]
                exact ⟨HO.out, hbel⟩
            case rest =>
              obtain ⟨hown1, hbel1⟩ := hcut
              obtain ⟨ad1, cp1, rfl⟩ := own_shape hown1
              have hgl : c < (grow c ss).length := by rw [grow_len]; split <;> omega
              obtain ⟨g1, rfl, hbg, hg1, ⟨c0, c1, c2, c3⟩, hfz⟩ := part_at hown1 rfl hgl
              have f0 := hfz (c * 4)
              have f1 := hfz (c * 4 + 1)
              have f2 := hfz (c * 4 + 2)
              have f3 := hfz (c * 4 + 3)
              have HO1 := hid hown1
              have hci : (c : Int) < ((grow c ss).length : Int) := by omega
              have hbs := hbel1.size
              have hD := hid (show (grow c ss)[c] = (grow c ss).getD c Se.none by rw [List.getD_eq_getElem?_getD, List.getElem?_eq_getElem hgl]; rfl)
              have hpl := hid (grow_len c ss)
              have hput := hid (show putIn k c ss = (grow c ss).set c (anyS (grow c ss)[c] (orBit Se.none k)) by rw [hD.out]; rfl)
              generalize (grow c ss) = s1 at *
              clear hown1 hfz
              go_upto_region 11 with fail
              have hkw : IntKind.u8.wrap (k : Int) = (k : Int) := IntWalk.u8_in _ (by omega)
              go_region_with ((first | (go_at_call 73; go_loud (refine (of_n k rfl hk255 _ _ (heap_new_drew wc _)).mono ?_; rintro e w1 ⟨rfl, hb1⟩; have HO2 := hid (own_later (own_drew (HO1.out.alloc _)) hb1); obtain ⟨d0, d1, d2, d3, e0, e1, e2, e3⟩ := part_now HO2.out rfl hgl)) | (go_at_call 59; refine (any_any s1[c] (orBit Se.none k) _).mono ?_; rintro e w2 ⟨rfl, hb2⟩; have HO3 := hid (own_later HO2.out hb2); obtain ⟨k0, k1, k2, k3, l0, l1, l2, l3⟩ := part_now HO3.out rfl hgl)))
              all_goals go_wp2
              all_goals
                have hB2 : Below w.heap.size w w2 := ((hbel1.alloc hbs _).drew.trans (hb1.mono (by simp; omega))).trans (hb2.mono (by have := hb1.size; simp at this; omega))
                go_roundw
                case rel => exact ⟨k + 1, s1.set c (anyS s1[c] (orBit Se.none k)), by omega, by rw [List.length_set]; have := hpl.out; split at this <;> omega, by go_num, by rw [List.length_set]; exact sets_store HO3.out hgl _, hid (by rw [← hput.out]; exact HSM.out), (((hB2.setCell hbg _).setCell hbg _).setCell hbg _).setCell hbg _⟩
                case measure => simp [intOf]; omega
      · obtain rfl : k = l.length := by omega
        have hsm1 := hsm.out
        rw [List.drop_length] at hsm1
        have HN := hid (show setsOf l = some ss from hsm1.symm)
        clear hsm1 hown
        go_wp2
        go_ret2
        rw [HN.out]
        exact ⟨hbel, adp, cpp, rfl, HO.out⟩
  · have hs : setsOf l = none := by unfold setsOf; rw [if_neg h256]
    rw [hs]
    have hb256 : ((l.length : Int) != 256) = true := by simp; omega
    go_enter Tryd.func58, Tryd.ntmps58
    go_wp2
    go_ret2
    exact ⟨Below.refl _ _, rfl⟩


def errOf (b : Bool) : Int := if b then 0 else 1
theorem errOf_true {b : Bool} (h : b = true) : errOf b = 0 := by subst h; rfl
theorem errOf_false {b : Bool} (h : b = false) : errOf b = 1 := by subst h; rfl
theorem err_eq {a b : Int} (h : a = b) : Ending.returned (.int .i64 a) = .returned (.int .i64 b) := by rw [h]
theorem all_not {α : Type} {p : α → Bool} {l : List α} {x : α} (hx : x ∈ l) (h : p x = false) : l.all p = false := by
  rw [List.all_eq_false]; exact ⟨x, hx, by simp [h]⟩
theorem all_snoc {α : Type} {p : α → Bool} {l : List α} {k : Nat} (hk : k < l.length) (h : (l.take k).all p = true) (hx : p l[k] = true) : (l.take (k + 1)).all p = true := by
  rw [take_succ' _ _ hk, List.all_append, h]; simp [hx]
theorem dfaOk_none {d : Dfa} (h : setsOf d.cls = none) : dfaOk d = false := by
  have := setsOf_parts d.cls
  rw [h] at this
  unfold dfaOk
  rw [← this]; rfl
theorem dfaOk_some {d : Dfa} {ss : List Se} (h : setsOf d.cls = some ss) : dfaOk d = (decide (1 ≤ d.next.length) && decide (d.next.length ≤ 1024) && decide (d.fin.length = d.next.length) && d.next.all (rowOk ss.length d.next.length)) := by
  have := setsOf_parts d.cls
  rw [h] at this
  unfold dfaOk
  rw [← this]; rfl

set_option maxRecDepth 100000 in
set_option maxHeartbeats 2000000 in
theorem dfaCheck_any {F : Nat → Prop} {w : World} {a b c : Value} {d : Dfa} (hd : DfaIn F w a b c d) (hF : ∀ g, F g → g < w.heap.size) :
    Calls Tryd.prog 24 #[.agg #[a, b, c]] w fun e w' => e = .returned (.int .i64 (errOf (dfaOk d))) ∧ Below w.heap.size w w' := by
  obtain ⟨hd1, hd2, hd3⟩ := hd
  generalize hW0 : w.alloc (.cells #[a, b, c] 30) = W0
  have hDb : W0.heap[w.heap.size]? = some (.cells #[a, b, c] 30 (0, 0)) := by rw [← hW0]; exact heap_alloc_new _ _
  have old : ∀ g, F g → g < w.heap.size → W0.heap[g]? = w.heap[g]? := fun g _ hg => by rw [← hW0]; exact alloc_old hg
  have hz0 : W0.heap.size = w.heap.size + 1 := by rw [← hW0]; simp
  have hB0 : Below w.heap.size w W0 := by rw [← hW0]; exact (Below.refl _ _).alloc (Nat.le_refl _) _
  have hcl := hd1.frame (F' := F) (fun _ h => h) old
  have hF0 : ∀ g, F g → g < W0.heap.size := fun g hg => by have := hF g hg; omega
  have H1 := hid hd1
  obtain ⟨ad1, cp1, rfl, hm1, hr1⟩ := hd1
  obtain ⟨ad2, cp2, rfl, hm2, hr2⟩ := hd2
  obtain ⟨ad3, cp3, rfl, hm3, hr3⟩ := hd3
  have HDB := hid hDb
  have HW0 := hid hW0
  have HCL := hid hcl
  have HR2 := hid hr2
  clear hDb hW0 hcl hr1 hr2 hr3 old H1
  unfold maxLen at hm1 hm2 hm3
  obtain ⟨q0, q1, q2⟩ := dcells HDB.out
  go_enter Tryd.func24, Tryd.ntmps24
  go_wp2_with fail
  rw [HW0.out]
  refine (sets_any HCL.out hF0).mono ?_
  rintro e w1 ⟨hb1, hp⟩
  obtain ⟨r0, r1, r2⟩ := dcells ((hb1.block w.heap.size (by omega)).trans HDB.out)
  have hB1 : Below w.heap.size w w1 := hB0.trans (hb1.mono (by omega))
  clear q0 q1 q2
  rcases hx : setsOf d.cls with _ | ss
  · have hno := hid (errOf_false (dfaOk_none hx))
    rw [hx] at hp
    obtain rfl := hp
    clear hx
    go_wp2
    go_ret
    exact ⟨err_eq hno.out.symm, hB1⟩
  · have HALL := hid (dfaOk_some hx)
    rw [hx] at hp
    obtain ⟨adp, cpp, rfl, hown⟩ := hp
    have hpl : ss.length ≤ 9223372036854775807 := by
      rcases hown.2 with ⟨_, h⟩ | ⟨g, cap, cur, h, _, _, h1, h2, _⟩
      · omega
      · unfold maxLen at h2; omega
    clear hx hown
    by_cases hn1 : d.next.length < 1
    · have hno := hid (errOf_false (show dfaOk d = false by rw [HALL.out]; simp; omega))
      have hn1' : (d.next.length : Int) < 1 := by omega
      clear hn1
      go_wp2
      go_ret
      exact ⟨err_eq hno.out.symm, hB1⟩
    · by_cases hn2 : 1024 < d.next.length
      · have hno := hid (errOf_false (show dfaOk d = false by rw [HALL.out]; simp; omega))
        have hn1' : ¬ (d.next.length : Int) < 1 := by omega
        have hn2' : (1024 : Int) < d.next.length := by omega
        clear hn1 hn2
        go_wp2
        go_ret
        exact ⟨err_eq hno.out.symm, hB1⟩
      · by_cases hn3 : d.fin.length = d.next.length
        · have hn1' : ¬ (d.next.length : Int) < 1 := by omega
          have hn2' : ¬ (1024 : Int) < d.next.length := by omega
          have hn3' : ((d.fin.length : Int) != (d.next.length : Int)) = false := by simp [hn3]
          have HFIN := hid hn3
          clear hn3
          go_wp2_with fail
          have hok := hid (show dfaOk d = d.next.all (rowOk ss.length d.next.length) by rw [HALL.out, HFIN.out]; simp; omega)
          clear hn3'
          go_loop [39] (fun v => ∃ k : Nat, k ≤ d.next.length ∧ v = .int .i64 k ∧ Hid ((d.next.take k).all (rowOk ss.length d.next.length) = true)) (fun v => d.next.length - (intOf v).toNat)
          case atStart => exact ⟨0, Nat.zero_le _, rfl, hid (by simp)⟩
          case round =>
            obtain ⟨k, hk, rfl, hall⟩ := hrel
            by_cases hlt : k < d.next.length
            · obtain ⟨g, off, rfl, hFg, x, hx, hrow⟩ := (HR2.out.frame (w' := w1) (F' := F) (fun _ h => h) (fun q hq _ => hB1.block q (hF q hq)) (R' := IntsIn F w1) (fun _ _ _ h => IntsIn.frame h (fun _ h => h) (fun q hq _ => hB1.block q (hF q hq)))).at' hlt
              obtain ⟨adr, cpr, rfl, hmr, hrr⟩ := hrow
              unfold maxLen at hmr
              have HRR := hid hrr
              clear hrr
              by_cases hlen : d.next[k].length = ss.length
              · have hlen' : ((d.next[k].length : Int) != (ss.length : Int)) = false := by simp [hlen]
                have HLEN := hid hlen
                clear hlen
                go_wp2_with fail
                clear hlen'
                go_loop [50] (fun v => ∃ j : Nat, j ≤ d.next[k].length ∧ v = .int .i64 j ∧ Hid ((d.next[k].take j).all (fun s => decide (0 ≤ s) && decide (s < d.next.length)) = true)) (fun v => d.next[k].length - (intOf v).toNat)
                case atStart => exact ⟨0, Nat.zero_le _, rfl, hid (by simp)⟩
                case round =>
                  obtain ⟨j, hj, rfl, hin⟩ := hrel
                  by_cases hlj : j < d.next[k].length
                  · obtain ⟨gr, offr, rfl, hFr, x, hxr, rfl⟩ := HRR.out.at' hlj
                    by_cases hs1 : d.next[k][j] < 0
                    · have hno := hid (errOf_false (show dfaOk d = false by rw [hok.out]; exact all_not (List.getElem_mem hlt) (by unfold rowOk; rw [all_not (List.getElem_mem hlj) (by simp; omega)]; simp)))
                      go_wp2
                      go_ret
                      exact ⟨err_eq hno.out.symm, hB1⟩
                    · by_cases hs2 : d.next[k][j] < d.next.length
                      · have hsn := hid (all_snoc hlj hin.out (by simp; omega))
                        go_wp2
                        go_round
                        case rel => exact ⟨j + 1, by omega, by go_num, hsn⟩
                        case measure => simp [intOf]; omega
                      · have hno := hid (errOf_false (show dfaOk d = false by rw [hok.out]; exact all_not (List.getElem_mem hlt) (by unfold rowOk; rw [all_not (List.getElem_mem hlj) (by simp; omega)]; simp)))
                        go_wp2
                        go_ret
                        exact ⟨err_eq hno.out.symm, hB1⟩
                  · obtain rfl : j = d.next[k].length := by omega
                    have hin1 := hin.out
                    rw [List.take_length] at hin1
                    have hsn := hid (all_snoc hlt hall.out (show rowOk ss.length d.next.length d.next[k] = true by unfold rowOk; rw [hin1, HLEN.out]; simp))
                    clear hin1 hin
                    go_wp2
                    go_round
                    case rel => exact ⟨k + 1, by omega, by go_num, hsn⟩
                    case measure => simp [intOf]; omega
              · have hno := hid (errOf_false (show dfaOk d = false by rw [hok.out]; exact all_not (List.getElem_mem hlt) (by unfold rowOk; simp [hlen])))
                have hlen' : ((d.next[k].length : Int) != (ss.length : Int)) = true := by simp; omega
                clear hlen
                go_wp2
                go_ret
                exact ⟨err_eq hno.out.symm, hB1⟩
            · obtain rfl : k = d.next.length := by omega
              have hyes := hid (errOf_true (show dfaOk d = true by rw [hok.out]; have := hall.out; rw [List.take_length] at this; exact this))
              clear hall
              go_wp2
              go_ret
              exact ⟨err_eq hyes.out.symm, hB1⟩
        · have hno := hid (errOf_false (show dfaOk d = false by rw [HALL.out]; simp; omega))
          have hn1' : ¬ (d.next.length : Int) < 1 := by omega
          have hn2' : ¬ (1024 : Int) < d.next.length := by omega
          have hn3' : ((d.fin.length : Int) != (d.next.length : Int)) = true := by simp; omega
          clear hn1 hn2 hn3
          go_wp2
          go_ret
          exact ⟨err_eq hno.out.symm, hB1⟩
end Go.Proofs.YtfjomnhdmkbkiaaDoor.Im
