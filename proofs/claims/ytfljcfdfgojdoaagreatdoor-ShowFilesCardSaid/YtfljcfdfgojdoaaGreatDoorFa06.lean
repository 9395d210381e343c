/-
  The contracts of cat and of atom, out of those of their parts.
  What read hands back, as a plain function, and its results out of memory.
  read where the lexer finds none: the contract, for a text of no more than 65536 bytes.
  What package parse computes out of tokens at maps, at items and at a file, as plain functions; no program in sight.
  How many marks a word bears, counted as math/bits counts them; plain.
  What package show writes, as plain functions; no program in sight.
-/
import Derived.Test.YtfljcfdfgojdoaaGreatDoorFa05
import Derived.Deep.AppendLies
import Derived.Recover
import Derived.StillTailTactics
import Derived.Test.YtfljcfdfgojdoaaGreatDoorFa01
import Derived.Test.YtfljcfdfgojdoaaGreatDoorFa02
namespace Go.Proofs.YtfljcfdfgojdoaaGreatDoor
open Go.RowKit Go.Lib

theorem Kept.grown {bp B : Nat} {a w w' : World} {row : Option Nat} (h : Kept bp a w) (hB : a.heap.size ≤ B) (hr : ∀ g, row = some g → B ≤ g) (hg : w.grownBy w' row) : Kept bp a w' :=
  ⟨hg.os.trans h.os, hg.tape.trans h.tape, hg.output.trans h.output, Nat.le_trans h.size hg.size, fun k hk hne => (hg.block k (Nat.lt_of_lt_of_le hk h.size) (fun e => by have := hr k e.symm; omega)).trans (h.block k hk hne)⟩
theorem Pz.grown {T : List Tok} {bp bt cap a dep B : Nat} {w w' : World} {row : Option Nat} (h : Pz T bp bt cap a dep w) (h1 : bp < B) (h2 : bt < B) (hr : ∀ g, row = some g → B ≤ g) (hg : w.grownBy w' row) : Pz T bp bt cap a dep w' where
  blk := (hg.block bp h.bp_lt (fun e => by have := hr bp e.symm; omega)).trans h.blk
  toks i t ht j v hv := by
    rw [World.cell?_of_block (w := w) (hg.block bt h.inb (fun e => by have := hr bt e.symm; omega))]
    exact h.toks i t ht j v hv
  ne := h.ne
  inb := Nat.lt_of_lt_of_le h.inb hg.size
  lt := h.lt
  fin := h.fin
  few := h.few
  dle := h.dle
end Go.Proofs.YtfljcfdfgojdoaaGreatDoor

namespace Go.Proofs.YtfljcfdfgojdoaaGreatDoor
open Go.RowKit Go.Lib

/-- the tokens that a parser takes: those of the text, and that of its end -/
def endTok (s : ByteArray) : Tok := ⟨0, [], Se.none, 0, s.size⟩
def toksOf (s : ByteArray) (l : List Tok) : List Tok := l ++ [endTok s]
end Go.Proofs.YtfljcfdfgojdoaaGreatDoor

namespace Go.Proofs.YtfljcfdfgojdoaaGreatDoor
open Go.RowKit Go.Lib

theorem tokCells_at : ∀ {T : List Tok} {i : Nat} {t : Tok}, T[i]? = some t → ∀ j v, t.cells.toList[j]? = some v → (tokCells T)[i * 8 + j]? = some v
  | t0 :: T, 0, t, h, j, v, hv => by
    simp at h; subst h
    have hj : j < t0.cells.toList.length := (List.getElem?_eq_some_iff.1 hv).1
    simp only [tokCells, List.flatMap_cons, Nat.zero_mul, Nat.zero_add]
    rw [List.getElem?_append_left hj]; exact hv
  | t0 :: T, i + 1, t, h, j, v, hv => by
    have ih := tokCells_at (T := T) (i := i) (t := t) (by simpa using h) j v hv
    have h8 : t0.cells.toList.length = 8 := rfl
    have e : (i + 1) * 8 + j = t0.cells.toList.length + (i * 8 + j) := by rw [h8]; omega
    rw [e]
    simp only [tokCells, List.flatMap_cons]
    rw [List.getElem?_append_right (Nat.le_add_right _ _), Nat.add_sub_cancel_left]
    exact ih
  | [], i, t, h, _, _, _ => by simp at h
abbrev endC (s : ByteArray) : Array Value := #[.int .i64 0, .string ⟨#[]⟩, .int .u64 0, .int .u64 0, .int .u64 0, .int .u64 0, .int .i64 0, .int .i64 s.size]
theorem Pz.start {s : ByteArray} {l : List Tok} {w5 : World} {base g cap : Nat} (ho : w5.ownsRow base 139 8 (.slice (some ⟨g, 0, none⟩) (l.length + 1) cap) (l.length + 1) (tokCells l ++ (endC s).toList)) (hlen : l.length ≤ 65536) :
    Pz (toksOf s l) w5.heap.size g cap 0 0 (w5.alloc (.cells #[.slice (some ⟨g, 0, none⟩) (l.length + 1) cap, .int .i64 0, .int .i64 0] 141)) := by
  have hT : (toksOf s l).length = l.length + 1 := by simp [toksOf]
  have hg : g < w5.heap.size := by
    rcases ownsRow_exist ho (g := g) rfl with h | h
    · exact h
    · omega
  have hc := ho.cells (g := g) rfl
  have he : tokCells l ++ (endTok s).cells.toList = tokCells (toksOf s l) := (tokCells_snoc l (endTok s)).symm
  rw [show (endC s).toList = (endTok s).cells.toList from rfl, he] at hc
  refine ⟨?_, ?_, by omega, by simp; omega, by omega, ?_, by omega, by omega⟩
  · rw [hT]
    exact heap_alloc_new _ _
  · intro i t ht j v hv
    have h1 := hc _ _ (tokCells_at ht j v hv)
    have hadd : (⟨g, 0, none⟩ : Addr).add (i * 8 + j) = ⟨g, i * 8 + j, none⟩ := by unfold Addr.add; split <;> simp_all
    rw [hadd] at h1
    rw [World.cell?_of_block (w := w5) (alloc_old hg)]
    exact h1
  · intro i t ht hk
    rw [hT]
    have hi : i < (toksOf s l).length := (List.getElem?_eq_some_iff.1 ht).1
    by_cases hil : i = l.length
    · subst hil
      simp [toksOf] at ht
      subst ht
      exact absurd rfl hk
    · omega

theorem Below.row {n g : Nat} {w w8 : World} (h : Below n w w8) (hg : n ≤ g) (cs : Array Value) : Below n w (w8.setRow g cs) :=
  ⟨h.os, h.tape, h.output, by simpa using h.size, fun k hk => (setRow_other cs (by omega)).trans (h.block k hk)⟩
end Go.Proofs.YtfljcfdfgojdoaaGreatDoor

namespace Go.Proofs.YtfljcfdfgojdoaaGreatDoor
open Go.Lib

/-- a map -/
inductive Mp where
  | mk (kind : Int) (re : Re) (out : List B) (parts : List Mp) (min : Int) (max : Int)
def Re.zero : Re := .mk 0 [] Se.none [] 0 0
def Mp.zero : Mp := .mk 0 Re.zero [] [] 0 0
/-- an item -/
structure It where
  kind : Int
  name : List B
  re : Re
  map : Mp
  out : List B
  by_ : List B
  around : Bool
  left : Re
  right : Re
end Go.Proofs.YtfljcfdfgojdoaaGreatDoor

namespace Go.Proofs.YtfljcfdfgojdoaaGreatDoor
theorem land_split (a b c d k : Nat) (hb : b < 2 ^ k) (hd : d < 2 ^ k) : (2 ^ k * a + b) &&& (2 ^ k * c + d) = 2 ^ k * (a &&& c) + (b &&& d) := by
  apply Nat.eq_of_testBit_eq
  intro i
  have hbd : b &&& d < 2 ^ k := Nat.and_lt_two_pow _ hd
  rw [Nat.testBit_and, Nat.testBit_two_pow_mul_add _ hb, Nat.testBit_two_pow_mul_add _ hd, Nat.testBit_two_pow_mul_add _ hbd]
  split <;> simp [Nat.testBit_and]
/-- how many of the first c are marked -/
def manyP (p : Nat → Bool) (c : Nat) : Nat := ((List.range c).filter p).length
theorem manyP_add (p : Nat → Bool) (a b : Nat) : manyP p (a + b) = manyP p a + manyP (fun k => p (a + k)) b := by
  unfold manyP
  rw [List.range_add, List.filter_append, List.length_append, List.filter_map, List.length_map]
  rfl
theorem manyP_ext {p q : Nat → Bool} {c : Nat} (h : ∀ k, k < c → p k = q k) : manyP p c = manyP q c := by
  unfold manyP
  rw [List.filter_congr (fun k hk => h k (List.mem_range.1 hk))]
def pop8 (b : Nat) : Nat := manyP b.testBit 8
theorem pop_bytes (x : Nat) : manyP x.testBit 64 = pop8 (x % 256) + pop8 (x / 256 % 256) + pop8 (x / 65536 % 256) + pop8 (x / 16777216 % 256) + pop8 (x / 4294967296 % 256) + pop8 (x / 1099511627776 % 256) + pop8 (x / 281474976710656 % 256) + pop8 (x / 72057594037927936 % 256) := by
  have e : ∀ i, manyP (fun k => x.testBit (8 * i + k)) 8 = pop8 (x / 2 ^ (8 * i) % 256) := fun i => manyP_ext fun k hk => by
    rw [show (256 : Nat) = 2 ^ 8 from rfl, Nat.testBit_mod_two_pow, Nat.testBit_div_two_pow]
    simp [hk, Nat.add_comm]
  have e0 : manyP x.testBit 8 = pop8 (x % 256) := by
    have := e 0
    simpa using this
  rw [show (64 : Nat) = 8 + (8 + (8 + (8 + (8 + (8 + (8 + 8)))))) from rfl, manyP_add, manyP_add, manyP_add, manyP_add, manyP_add, manyP_add, manyP_add, e0]
  have r : ∀ i j : Nat, j = 8 * i → manyP (fun k => x.testBit (j + k)) 8 = pop8 (x / 2 ^ (8 * i) % 256) := fun i j h => by rw [h]; exact e i
  have f1 := e 1; have f2 := e 2; have f3 := e 3; have f4 := e 4; have f5 := e 5; have f6 := e 6; have f7 := e 7
  simp only [← Nat.add_assoc] at *
  simp only [Nat.reduceAdd, Nat.reduceMul, Nat.reducePow] at *
  rw [f1, f2, f3, f4, f5, f6, f7]
def cat8 (b0 b1 b2 b3 b4 b5 b6 b7 : Nat) : Nat := 256 * (256 * (256 * (256 * (256 * (256 * (256 * b7 + b6) + b5) + b4) + b3) + b2) + b1) + b0
theorem land_cat8 {b0 b1 b2 b3 b4 b5 b6 b7 c0 c1 c2 c3 c4 c5 c6 c7 : Nat} (h0 : b0 < 256) (h1 : b1 < 256) (h2 : b2 < 256) (h3 : b3 < 256) (h4 : b4 < 256) (h5 : b5 < 256) (h6 : b6 < 256)
    (g0 : c0 < 256) (g1 : c1 < 256) (g2 : c2 < 256) (g3 : c3 < 256) (g4 : c4 < 256) (g5 : c5 < 256) (g6 : c6 < 256) :
    cat8 b0 b1 b2 b3 b4 b5 b6 b7 &&& cat8 c0 c1 c2 c3 c4 c5 c6 c7 = cat8 (b0 &&& c0) (b1 &&& c1) (b2 &&& c2) (b3 &&& c3) (b4 &&& c4) (b5 &&& c5) (b6 &&& c6) (b7 &&& c7) := by
  unfold cat8
  have e : (256 : Nat) = 2 ^ 8 := rfl
  rw [land_split _ _ _ _ 8 h0 g0, land_split _ _ _ _ 8 h1 g1, land_split _ _ _ _ 8 h2 g2, land_split _ _ _ _ 8 h3 g3, land_split _ _ _ _ 8 h4 g4, land_split _ _ _ _ 8 h5 g5, land_split _ _ _ _ 8 h6 g6]
def s1 (b : Nat) : Nat := ((b / 2) &&& 85) + (b &&& 85)
def s2 (b : Nat) : Nat := ((b / 4) &&& 51) + (b &&& 51)
set_option maxRecDepth 100000 in
theorem s1_shift : ∀ b : Fin 256, ∀ t : Fin 2, ((b.1 / 2 + 128 * t.1) &&& 85) = ((b.1 / 2) &&& 85) := by decide
set_option maxRecDepth 100000 in
theorem s2_shift : ∀ b : Fin 256, ∀ t : Fin 4, ((b.1 / 4 + 64 * t.1) &&& 51) = ((b.1 / 4) &&& 51) := by decide
set_option maxRecDepth 100000 in
theorem s12 : ∀ b : Fin 256, s1 b.1 < 256 ∧ s2 (s1 b.1) / 16 ≤ 4 ∧ s2 (s1 b.1) % 16 ≤ 4 ∧ (s2 (s1 b.1) / 16 + s2 (s1 b.1)) % 16 = pop8 b.1 ∧ pop8 b.1 ≤ 8 := by decide
theorem step1 {b0 b1 b2 b3 b4 b5 b6 b7 : Nat} (h0 : b0 < 256) (h1 : b1 < 256) (h2 : b2 < 256) (h3 : b3 < 256) (h4 : b4 < 256) (h5 : b5 < 256) (h6 : b6 < 256) (_h7 : b7 < 256) :
    ((cat8 b0 b1 b2 b3 b4 b5 b6 b7 / 2) &&& 6148914691236517205) + (cat8 b0 b1 b2 b3 b4 b5 b6 b7 &&& 6148914691236517205) = cat8 (s1 b0) (s1 b1) (s1 b2) (s1 b3) (s1 b4) (s1 b5) (s1 b6) (s1 b7) := by
  have hm : (6148914691236517205 : Nat) = cat8 85 85 85 85 85 85 85 85 := by decide
  have hd : cat8 b0 b1 b2 b3 b4 b5 b6 b7 / 2 = cat8 (b0 / 2 + 128 * (b1 % 2)) (b1 / 2 + 128 * (b2 % 2)) (b2 / 2 + 128 * (b3 % 2)) (b3 / 2 + 128 * (b4 % 2)) (b4 / 2 + 128 * (b5 % 2)) (b5 / 2 + 128 * (b6 % 2)) (b6 / 2 + 128 * (b7 % 2)) (b7 / 2) := by
    unfold cat8; omega
  have sh : ∀ b t : Nat, b < 256 → ((b / 2 + 128 * (t % 2)) &&& 85) = ((b / 2) &&& 85) := fun b t h => s1_shift ⟨b, h⟩ ⟨t % 2, by omega⟩
  rw [hm, hd, land_cat8 (by omega) (by omega) (by omega) (by omega) (by omega) (by omega) (by omega) (by decide) (by decide) (by decide) (by decide) (by decide) (by decide) (by decide),
    land_cat8 h0 h1 h2 h3 h4 h5 h6 (by decide) (by decide) (by decide) (by decide) (by decide) (by decide) (by decide), sh _ _ h0, sh _ _ h1, sh _ _ h2, sh _ _ h3, sh _ _ h4, sh _ _ h5, sh _ _ h6]
  unfold cat8 s1; omega
theorem step2 {b0 b1 b2 b3 b4 b5 b6 b7 : Nat} (h0 : b0 < 256) (h1 : b1 < 256) (h2 : b2 < 256) (h3 : b3 < 256) (h4 : b4 < 256) (h5 : b5 < 256) (h6 : b6 < 256) (_h7 : b7 < 256) :
    ((cat8 b0 b1 b2 b3 b4 b5 b6 b7 / 4) &&& 3689348814741910323) + (cat8 b0 b1 b2 b3 b4 b5 b6 b7 &&& 3689348814741910323) = cat8 (s2 b0) (s2 b1) (s2 b2) (s2 b3) (s2 b4) (s2 b5) (s2 b6) (s2 b7) := by
  have hm : (3689348814741910323 : Nat) = cat8 51 51 51 51 51 51 51 51 := by decide
  have hd : cat8 b0 b1 b2 b3 b4 b5 b6 b7 / 4 = cat8 (b0 / 4 + 64 * (b1 % 4)) (b1 / 4 + 64 * (b2 % 4)) (b2 / 4 + 64 * (b3 % 4)) (b3 / 4 + 64 * (b4 % 4)) (b4 / 4 + 64 * (b5 % 4)) (b5 / 4 + 64 * (b6 % 4)) (b6 / 4 + 64 * (b7 % 4)) (b7 / 4) := by
    unfold cat8; omega
  have sh : ∀ b t : Nat, b < 256 → ((b / 4 + 64 * (t % 4)) &&& 51) = ((b / 4) &&& 51) := fun b t h => s2_shift ⟨b, h⟩ ⟨t % 4, by omega⟩
  rw [hm, hd, land_cat8 (by omega) (by omega) (by omega) (by omega) (by omega) (by omega) (by omega) (by decide) (by decide) (by decide) (by decide) (by decide) (by decide) (by decide),
    land_cat8 h0 h1 h2 h3 h4 h5 h6 (by decide) (by decide) (by decide) (by decide) (by decide) (by decide) (by decide), sh _ _ h0, sh _ _ h1, sh _ _ h2, sh _ _ h3, sh _ _ h4, sh _ _ h5, sh _ _ h6]
  unfold cat8 s2; omega
theorem step3 {b0 b1 b2 b3 b4 b5 b6 b7 : Nat} (h0 : b0 / 16 ≤ 4 ∧ b0 % 16 ≤ 4) (h1 : b1 / 16 ≤ 4 ∧ b1 % 16 ≤ 4) (h2 : b2 / 16 ≤ 4 ∧ b2 % 16 ≤ 4) (h3 : b3 / 16 ≤ 4 ∧ b3 % 16 ≤ 4) (h4 : b4 / 16 ≤ 4 ∧ b4 % 16 ≤ 4) (h5 : b5 / 16 ≤ 4 ∧ b5 % 16 ≤ 4) (h6 : b6 / 16 ≤ 4 ∧ b6 % 16 ≤ 4) (h7 : b7 / 16 ≤ 4 ∧ b7 % 16 ≤ 4) :
    ((cat8 b0 b1 b2 b3 b4 b5 b6 b7 / 16 + cat8 b0 b1 b2 b3 b4 b5 b6 b7) &&& 1085102592571150095) = cat8 ((b0 / 16 + b0) % 16) ((b1 / 16 + b1) % 16) ((b2 / 16 + b2) % 16) ((b3 / 16 + b3) % 16) ((b4 / 16 + b4) % 16) ((b5 / 16 + b5) % 16) ((b6 / 16 + b6) % 16) ((b7 / 16 + b7) % 16) := by
  have hm : (1085102592571150095 : Nat) = cat8 15 15 15 15 15 15 15 15 := by decide
  have hd : cat8 b0 b1 b2 b3 b4 b5 b6 b7 / 16 + cat8 b0 b1 b2 b3 b4 b5 b6 b7 = cat8 (b0 / 16 + b0 + 16 * (b1 % 16)) (b1 / 16 + b1 + 16 * (b2 % 16)) (b2 / 16 + b2 + 16 * (b3 % 16)) (b3 / 16 + b3 + 16 * (b4 % 16)) (b4 / 16 + b4 + 16 * (b5 % 16)) (b5 / 16 + b5 + 16 * (b6 % 16)) (b6 / 16 + b6 + 16 * (b7 % 16)) (b7 / 16 + b7) := by
    unfold cat8; omega
  have sh : ∀ b t : Nat, ((b + 16 * t) &&& 15) = b % 16 := fun b t => by rw [show (15 : Nat) = 2 ^ 4 - 1 from rfl, Nat.and_two_pow_sub_one_eq_mod]; omega
  have sh' : ∀ b : Nat, (b &&& 15) = b % 16 := fun b => by rw [show (15 : Nat) = 2 ^ 4 - 1 from rfl, Nat.and_two_pow_sub_one_eq_mod]
  rw [hm, hd, land_cat8 (by omega) (by omega) (by omega) (by omega) (by omega) (by omega) (by omega) (by decide) (by decide) (by decide) (by decide) (by decide) (by decide) (by decide), sh, sh, sh, sh, sh, sh, sh, sh']
theorem div_cat {a b k : Nat} (hb : b < k) : (k * a + b) / k = a := by
  rw [Nat.mul_add_div (by omega), Nat.div_eq_of_lt hb, Nat.add_zero]
theorem step4 {b0 b1 b2 b3 b4 b5 b6 b7 : Nat} (h0 : b0 ≤ 8) (h1 : b1 ≤ 8) (h2 : b2 ≤ 8) (h3 : b3 ≤ 8) (h4 : b4 ≤ 8) (h5 : b5 ≤ 8) (h6 : b6 ≤ 8) (h7 : b7 ≤ 8) {x y z t : Nat} (hx : x = cat8 b0 b1 b2 b3 b4 b5 b6 b7) (hy : y = (x + x / 256) % 18446744073709551616) (hz : z = (y + y / 65536) % 18446744073709551616) (ht : t = (z + z / 4294967296) % 18446744073709551616) :
    t % 128 = b0 + b1 + b2 + b3 + b4 + b5 + b6 + b7 := by
  have h0' : x / 256 = 256 * (256 * (256 * (256 * (256 * (256 * b7 + b6) + b5) + b4) + b3) + b2) + b1 := by rw [hx]; unfold cat8; exact div_cat (by clear hx hy hz ht; omega)
  have h1' : y = cat8 (b0 + b1) (b1 + b2) (b2 + b3) (b3 + b4) (b4 + b5) (b5 + b6) (b6 + b7) b7 := by
    rw [hy, h0', hx, Nat.mod_eq_of_lt (by unfold cat8; omega)]; unfold cat8; omega
  have h2' : y / 65536 = 256 * (256 * (256 * (256 * (256 * b7 + (b6 + b7)) + (b5 + b6)) + (b4 + b5)) + (b3 + b4)) + (b2 + b3) := by
    rw [h1']; unfold cat8
    rw [show (256 * (256 * (256 * (256 * (256 * (256 * (256 * b7 + (b6 + b7)) + (b5 + b6)) + (b4 + b5)) + (b3 + b4)) + (b2 + b3)) + (b1 + b2)) + (b0 + b1)) = 65536 * (256 * (256 * (256 * (256 * (256 * b7 + (b6 + b7)) + (b5 + b6)) + (b4 + b5)) + (b3 + b4)) + (b2 + b3)) + (256 * (b1 + b2) + (b0 + b1)) by clear hx hy hz ht; omega]
    exact div_cat (by clear hx hy hz ht; omega)
  have h3' : z = cat8 (b0 + b1 + b2 + b3) (b1 + b2 + b3 + b4) (b2 + b3 + b4 + b5) (b3 + b4 + b5 + b6) (b4 + b5 + b6 + b7) (b5 + b6 + b7) (b6 + b7) b7 := by
    rw [hz, h2', h1', Nat.mod_eq_of_lt (by unfold cat8; omega)]; unfold cat8; omega
  have h4' : z / 4294967296 = 256 * (256 * (256 * b7 + (b6 + b7)) + (b5 + b6 + b7)) + (b4 + b5 + b6 + b7) := by
    rw [h3']; unfold cat8
    rw [show (256 * (256 * (256 * (256 * (256 * (256 * (256 * b7 + (b6 + b7)) + (b5 + b6 + b7)) + (b4 + b5 + b6 + b7)) + (b3 + b4 + b5 + b6)) + (b2 + b3 + b4 + b5)) + (b1 + b2 + b3 + b4)) + (b0 + b1 + b2 + b3)) = 4294967296 * (256 * (256 * (256 * b7 + (b6 + b7)) + (b5 + b6 + b7)) + (b4 + b5 + b6 + b7)) + (256 * (256 * (256 * (b3 + b4 + b5 + b6) + (b2 + b3 + b4 + b5)) + (b1 + b2 + b3 + b4)) + (b0 + b1 + b2 + b3)) by clear hx hy hz ht; omega]
    exact div_cat (by clear hx hy hz ht; omega)
  have h5' : z % 128 = b0 + b1 + b2 + b3 := by
    rw [h3']; unfold cat8
    generalize (256 * (256 * (256 * (256 * (256 * (256 * b7 + (b6 + b7)) + (b5 + b6 + b7)) + (b4 + b5 + b6 + b7)) + (b3 + b4 + b5 + b6)) + (b2 + b3 + b4 + b5)) + (b1 + b2 + b3 + b4)) = q
    omega
  have h6' : z / 4294967296 % 128 = b4 + b5 + b6 + b7 := by
    rw [h4']
    generalize (256 * (256 * b7 + (b6 + b7)) + (b5 + b6 + b7)) = q
    omega
  generalize z / 4294967296 = q at *
  clear h0' h1' h2' h3' h4' hx hy hz
  omega
theorem cat8_of (x : Nat) (hx : x < 18446744073709551616) : x = cat8 (x % 256) (x / 256 % 256) (x / 65536 % 256) (x / 16777216 % 256) (x / 4294967296 % 256) (x / 1099511627776 % 256) (x / 281474976710656 % 256) (x / 72057594037927936 % 256) := by
  unfold cat8; omega
theorem cat8_lt {b0 b1 b2 b3 b4 b5 b6 b7 : Nat} (h0 : b0 < 256) (h1 : b1 < 256) (h2 : b2 < 256) (h3 : b3 < 256) (h4 : b4 < 256) (h5 : b5 < 256) (h6 : b6 < 256) (h7 : b7 < 256) : cat8 b0 b1 b2 b3 b4 b5 b6 b7 < 18446744073709551616 := by
  unfold cat8; omega
theorem s1_lt {b : Nat} (h : b < 256) : s1 b < 256 := (s12 ⟨b, h⟩).1
theorem s2_a {b : Nat} (h : b < 256) : s2 (s1 b) / 16 ≤ 4 ∧ s2 (s1 b) % 16 ≤ 4 := ⟨(s12 ⟨b, h⟩).2.1, (s12 ⟨b, h⟩).2.2.1⟩
theorem s3_a {b : Nat} (h : b < 256) : (s2 (s1 b) / 16 + s2 (s1 b)) % 16 = pop8 b := (s12 ⟨b, h⟩).2.2.2.1
theorem p8_le {b : Nat} (h : b < 256) : pop8 b ≤ 8 := (s12 ⟨b, h⟩).2.2.2.2
/-- the steps of a count of marks, without overflow -/
theorem pop_law {x a b c y z t : Nat} (hx : x < 18446744073709551616) (ha : a = ((x / 2) &&& 6148914691236517205) + (x &&& 6148914691236517205)) (hb : b = ((a / 4) &&& 3689348814741910323) + (a &&& 3689348814741910323))
    (hc : c = (b / 16 + b) &&& 1085102592571150095) (hy : y = (c + c / 256) % 18446744073709551616) (hz : z = (y + y / 65536) % 18446744073709551616) (ht : t = (z + z / 4294967296) % 18446744073709551616) :
    a < 18446744073709551616 ∧ b < 18446744073709551616 ∧ b / 16 + b < 18446744073709551616 ∧ c < 18446744073709551616 ∧ t % 128 = manyP x.testBit 64 := by
  have e := cat8_of x hx
  have l : ∀ n : Nat, n % 256 < 256 := fun n => Nat.mod_lt _ (by decide)
  rw [pop_bytes]
  have l0 := l x; have l1 := l (x / 256); have l2 := l (x / 65536); have l3 := l (x / 16777216); have l4 := l (x / 4294967296); have l5 := l (x / 1099511627776); have l6 := l (x / 281474976710656); have l7 := l (x / 72057594037927936)
  revert e l0 l1 l2 l3 l4 l5 l6 l7
  generalize x % 256 = b0
  generalize x / 256 % 256 = b1
  generalize x / 65536 % 256 = b2
  generalize x / 16777216 % 256 = b3
  generalize x / 4294967296 % 256 = b4
  generalize x / 1099511627776 % 256 = b5
  generalize x / 281474976710656 % 256 = b6
  generalize x / 72057594037927936 % 256 = b7
  intro e l0 l1 l2 l3 l4 l5 l6 l7
  rw [e, step1 l0 l1 l2 l3 l4 l5 l6 l7] at ha
  rw [ha, step2 (s1_lt l0) (s1_lt l1) (s1_lt l2) (s1_lt l3) (s1_lt l4) (s1_lt l5) (s1_lt l6) (s1_lt l7)] at hb
  have q0 := s2_a l0; have q1 := s2_a l1; have q2 := s2_a l2; have q3 := s2_a l3; have q4 := s2_a l4; have q5 := s2_a l5; have q6 := s2_a l6; have q7 := s2_a l7
  rw [hb, step3 q0 q1 q2 q3 q4 q5 q6 q7, s3_a l0, s3_a l1, s3_a l2, s3_a l3, s3_a l4, s3_a l5, s3_a l6, s3_a l7] at hc
  have p0 := p8_le l0; have p1 := p8_le l1; have p2 := p8_le l2; have p3 := p8_le l3; have p4 := p8_le l4; have p5 := p8_le l5; have p6 := p8_le l6; have p7 := p8_le l7
  refine ⟨?_, ?_, ?_, ?_, step4 p0 p1 p2 p3 p4 p5 p6 p7 hc hy hz ht⟩
  · rw [ha]; exact cat8_lt (s1_lt l0) (s1_lt l1) (s1_lt l2) (s1_lt l3) (s1_lt l4) (s1_lt l5) (s1_lt l6) (s1_lt l7)
  · rw [hb]; exact cat8_lt (by omega) (by omega) (by omega) (by omega) (by omega) (by omega) (by omega) (by omega)
  · rw [hb]; unfold cat8
    generalize s2 (s1 b0) = c0 at *
    generalize s2 (s1 b1) = c1 at *
    generalize s2 (s1 b2) = c2 at *
    generalize s2 (s1 b3) = c3 at *
    generalize s2 (s1 b4) = c4 at *
    generalize s2 (s1 b5) = c5 at *
    generalize s2 (s1 b6) = c6 at *
    generalize s2 (s1 b7) = c7 at *
    clear hc hy hz ht ha e hb hx
    omega
  · rw [hc]; exact cat8_lt (by omega) (by omega) (by omega) (by omega) (by omega) (by omega) (by omega) (by omega)
end Go.Proofs.YtfljcfdfgojdoaaGreatDoor

namespace Go.Proofs.YtfljcfdfgojdoaaGreatDoor
open Go.Lib

def hexD (n : Nat) : B := sixteen.getD n 48
/-- a byte as it stands within a text or a set -/
def escB (c : B) : List B :=
  if c = 10 then [92, 110] else if c = 9 then [92, 116] else if c = 13 then [92, 114]
  else if 0 ≤ indexByte special c then [92, c] else if plainB c = true then [c]
  else [92, 120, hexD (c.toNat / 16), hexD (c.toNat % 16)]
/-- a text between its signs -/
def textW (l : List B) : List B := 34 :: (l.flatMap escB ++ [34])
/-- the first of the row of marked ones that ends at b -/
def startP (p : Nat → Bool) : Nat → Nat
  | 0 => 0
  | b + 1 => if p b = true then startP p b else b + 1
/-- is b the last of a row? -/
def lastP (p : Nat → Bool) (b : Nat) : Bool := p b && !(decide (b < 255) && p (b + 1))
/-- the rows that end ahead of c -/
def rowsTo (p : Nat → Bool) (c : Nat) : List (Nat × Nat) := ((List.range c).filter (lastP p)).map fun b => (startP p b, b)
def rowW (r : Nat × Nat) : List B := escB (UInt8.ofNat r.1) ++ (if r.1 < r.2 then 45 :: escB (UInt8.ofNat r.2) else [])
def setP (p : Nat → Bool) : List B :=
  if 128 < manyP p 256 then [91, 94] ++ ((rowsTo (fun b => !p b) 256).flatMap rowW ++ [93]) else [91] ++ ((rowsTo p 256).flatMap rowW ++ [93])
/-- at most two digits -/
def decW (n : Int) : List B := if 9 < n then [UInt8.ofNat (48 + (n / 10).toNat), UInt8.ofNat (48 + (n % 10).toNat)] else [UInt8.ofNat (48 + n.toNat)]
def oftenW (lo hi : Int) : List B :=
  if lo = 0 ∧ hi = -1 then [42] else if lo = 1 ∧ hi = -1 then [43] else if lo = 0 ∧ hi = 1 then [63]
  else if lo = hi then 123 :: (decW lo ++ [125]) else 123 :: (decW lo ++ 44 :: (decW hi ++ [125]))
def levK (k : Int) : Nat := if k = 5 then 0 else if k = 6 then 1 else if k = 4 then 2 else if k = 7 then 3 else if k = 8 then 4 else 5
def lev : Re → Nat | .mk k _ _ _ _ _ => levK k
/-- at which level the parts are asked for -/
def needK (k : Int) : Nat := if k = 5 then 1 else if k = 6 then 2 else if k = 4 then 3 else if k = 7 then 3 else if k = 8 then 5 else 0
def sepK (k : Int) : List B := if k = 5 then [32, 124, 32] else if k = 6 then [32, 38, 32] else if k = 4 then [32] else []
section
variable (setW : Se → List B)
def leafW (k : Int) (x : List B) (s : Se) : List B := if k = 1 then textW x else if k = 2 then setW s else if k = 3 then x else []
mutual
/-- an expression, written without a bracket of its own -/
def reW : Re → List B
  | .mk k x s l lo hi => if k = 7 then 33 :: partsW [] 3 l else if k = 8 then partsW [] 5 l ++ oftenW lo hi
    else if k = 4 ∨ k = 5 ∨ k = 6 then partsW (sepK k) (needK k) l else leafW setW k x s
def partsW (sep : List B) (asked : Nat) : List Re → List B
  | [] => []
  | r :: l => (if lev r < asked then 40 :: (reW r ++ [41]) else reW r) ++ tailW sep asked l
def tailW (sep : List B) (asked : Nat) : List Re → List B
  | [] => []
  | r :: l => sep ++ ((if lev r < asked then 40 :: (reW r ++ [41]) else reW r) ++ tailW sep asked l)
end
def askW (r : Re) (asked : Nat) : List B := if lev r < asked then 40 :: (reW setW r ++ [41]) else reW setW r
end
mutual
/-- how many brackets and signs that say not stand one in the other -/
def reD : Re → Nat
  | .mk k _ _ l _ _ => partsD (needK k) l + (if k = 7 then 1 else 0)
def partsD (asked : Nat) : List Re → Nat
  | [] => 0
  | r :: l => max (reD r + (if lev r < asked then 1 else 0)) (partsD asked l)
end
def askD (r : Re) (asked : Nat) : Nat := reD r + (if lev r < asked then 1 else 0)
def mlevK (k : Int) : Nat := if k = 4 then 0 else if k = 3 then 1 else if k = 5 then 2 else 3
def mlev : Mp → Nat | .mk k _ _ _ _ _ => mlevK k
section
variable (setW : Se → List B)
def leafOf : Re → List B | .mk k x s _ _ _ => leafW setW k x s
mutual
/-- a map, written without a bracket of its own -/
def mpW : Mp → List B
  | .mk k r o l lo hi => if k = 5 then mpartsW [] 3 l ++ oftenW lo hi else if k = 4 then mpartsW [32, 124, 32] 1 l else if k = 3 then mpartsW [32] 2 l
    else leafOf setW r ++ (if k = 2 then 58 :: textW o else [])
def mpartsW (sep : List B) (asked : Nat) : List Mp → List B
  | [] => []
  | m :: l => (if mlev m < asked then 40 :: (mpW m ++ [41]) else mpW m) ++ mtailW sep asked l
def mtailW (sep : List B) (asked : Nat) : List Mp → List B
  | [] => []
  | m :: l => sep ++ ((if mlev m < asked then 40 :: (mpW m ++ [41]) else mpW m) ++ mtailW sep asked l)
end
def maskW (m : Mp) (asked : Nat) : List B := if mlev m < asked then 40 :: (mpW setW m ++ [41]) else mpW setW m
end
def mneedK (k : Int) : Nat := if k = 4 then 1 else if k = 3 then 2 else if k = 5 then 3 else 0
mutual
def mpD : Mp → Nat
  | .mk k _ _ l _ _ => mpartsD (mneedK k) l
def mpartsD (asked : Nat) : List Mp → Nat
  | [] => 0
  | m :: l => max (mpD m + (if mlev m < asked then 1 else 0)) (mpartsD asked l)
end
def maskD (m : Mp) (asked : Nat) : Nat := mpD m + (if mlev m < asked then 1 else 0)
/-- an item, as a line -/
def itemW (setW : Se → List B) (x : It) : List B :=
  if x.kind = 1 then [100, 101, 102, 32] ++ x.name ++ [32, 61, 32] ++ reW setW x.re ++ [59, 10]
  else if x.kind = 4 then [116, 111, 107, 101, 110, 32] ++ x.name ++ [32, 61, 32] ++ reW setW x.re ++ [59, 10]
  else if x.kind = 2 then [109, 97, 112, 32] ++ x.name ++ [32, 61, 32] ++ mpW setW x.map ++ [59, 10]
  else [114, 117, 108, 101, 32] ++ reW setW x.re ++ [32, 45, 62, 32] ++ (if x.by_ = [] then textW x.out else x.by_)
    ++ (if x.around = true then [32, 47, 32] ++ reW setW x.left ++ [32, 95, 32] ++ reW setW x.right else []) ++ [59, 10]
def itemD (x : It) : Nat := max (reD x.re) (max (reD x.left) (max (reD x.right) (mpD x.map)))
end Go.Proofs.YtfljcfdfgojdoaaGreatDoor
