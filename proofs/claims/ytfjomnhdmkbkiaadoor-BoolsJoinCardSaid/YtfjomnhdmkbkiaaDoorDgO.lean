/-
  Automatons that came in, read off a row's datum; what the listed table holds.
-/
import Derived.Test.YtfjomnhdmkbkiaaDoorDfN
import Derived.Test.YtfjomnhdmkbkiaaDoorDfB
import Derived.Deep.Slices
import Derived.OpenShut
import Derived.Carry
import Derived.ProofKit
import Derived.LaidMore
import Derived.LaidLaws
import Derived.LaidHandle
import Derived.MakeChecks
import Derived.FnData
namespace Go.Proofs.YtfjomnhdmkbkiaaDoor.Im
open Go.RowKit Go.Lib

/-- rows of aggregates of k cells -/
def RowK {α : Type} (k : Nat) (F : Nat → Prop) (w : World) (R : List Value → α → Prop) (v : Value) (l : List α) : Prop :=
  ∃ ad cap, v = .slice ad l.length cap ∧ l.length ≤ maxLen ∧ (l ≠ [] → ∃ g off, ad = some ⟨g, off, none⟩ ∧ F g ∧ ∀ i (h : i < l.length), ∃ cs : List Value, cs.length = k ∧ (∀ j c, cs[j]? = some c → w.cell? ⟨g, off + i * k + j, none⟩ = some c) ∧ R cs l[i])
theorem exists_list {α : Type} {P : Nat → α → Prop} : ∀ (n : Nat), (∀ i, i < n → ∃ a, P i a) → ∃ l : List α, l.length = n ∧ ∀ i (h : i < l.length), P i l[i]
  | 0, _ => ⟨[], rfl, fun i h => by simp at h⟩
  | n + 1, h => by
    obtain ⟨l, h1, h2⟩ := exists_list n (fun i hi => h i (by omega))
    obtain ⟨a, ha⟩ := h n (by omega)
    refine ⟨l ++ [a], by simp [h1], fun i hi => ?_⟩
    by_cases hl : i < l.length
    · rw [List.getElem_append_left hl]; exact h2 i hl
    · have : i = n := by simp at hi; omega
      subst this
      rw [List.getElem_append_right (by omega)]
      simpa using ha
theorem Row.mem {α : Type} {F : Nat → Prop} {w : World} {R : Value → α → Prop} {v : Value} {l : List α} (h : Row F w R v l) {x : α} (hx : x ∈ l) : ∃ c, R c x := by
  obtain ⟨_, _, _, _, h3⟩ := h
  obtain ⟨g, off, _, _, h6⟩ := h3 (fun e => by rw [e] at hx; simp at hx)
  obtain ⟨i, hi, rfl⟩ := List.getElem_of_mem hx
  obtain ⟨c, _, h8⟩ := h6 i hi
  exact ⟨c, h8⟩
theorem RowK.mem {α : Type} {k : Nat} {F : Nat → Prop} {w : World} {R : List Value → α → Prop} {v : Value} {l : List α} (h : RowK k F w R v l) {x : α} (hx : x ∈ l) : ∃ c, R c x := by
  obtain ⟨_, _, _, _, h3⟩ := h
  obtain ⟨g, off, _, _, h6⟩ := h3 (fun e => by rw [e] at hx; simp at hx)
  obtain ⟨i, hi, rfl⟩ := List.getElem_of_mem hx
  obtain ⟨c, _, _, h8⟩ := h6 i hi
  exact ⟨c, h8⟩
theorem len3 {cs : List Value} (h : cs.length = 3) : ∃ c0 c1 c2, cs = [c0, c1, c2] := by
  match cs, h with
  | [c0, c1, c2], _ => exact ⟨c0, c1, c2, rfl⟩
theorem len4 {cs : List Value} (h : cs.length = 4) : ∃ c0 c1 c2 c3, cs = [c0, c1, c2, c3] := by
  match cs, h with
  | [c0, c1, c2, c3], _ => exact ⟨c0, c1, c2, c3, rfl⟩
theorem len6 {cs : List Value} (h : cs.length = 6) : ∃ c0 c1 c2 c3 c4 c5, cs = [c0, c1, c2, c3, c4, c5] := by
  match cs, h with
  | [c0, c1, c2, c3, c4, c5], _ => exact ⟨c0, c1, c2, c3, c4, c5, rfl⟩
theorem RowK.wide {α : Type} {k : Nat} {F : Nat → Prop} {w : World} {ls : α → List Value} {P : α → Prop} {v : Value} {l : List α} (hk : ∀ a, (ls a).length = k) (h : RowK k F w (fun cs a => cs = ls a ∧ P a) v l) : WideIn F w k ls v l ∧ ∀ a ∈ l, P a := by
  refine ⟨?_, fun a ha => (h.mem ha).elim fun c h => h.2⟩
  obtain ⟨ad, cap, h1, h2, h3⟩ := h
  refine ⟨ad, cap, h1, h2, fun hl => ?_⟩
  obtain ⟨g, off, e1, e2, e3⟩ := h3 hl
  refine ⟨g, off, e1, e2, fun i hi j hj => ?_⟩
  obtain ⟨cs, _, h5, rfl, _⟩ := e3 i hi
  have hjl : j < (ls l[i]).length := by rw [hk]; exact hj
  exact ⟨(ls l[i])[j], h5 j _ (List.getElem?_eq_getElem hjl), List.getElem?_eq_getElem hjl⟩
section
variable {H : Type} {enc : TypeId × Value → H} {w : World} {spare : Nat → Bool} {held : Bool}
abbrev Lt (w : World) (g : Nat) : Prop := g < w.heap.size
theorem rowk_of_trod {α : Type} {k : Nat} (hk : 0 < k) {R : List Value → α → Prop} {T E : TypeId} {fuel : Nat} {cs : List Value} {x : DataW H × List MemPlace} (ht : Tryd.prog.underlying T = some (.slice E)) (hc : Tryd.prog.cellsOf E = k)
    (el : ∀ (n : Nat) (cs : List Value) (x : DataW H × List MemPlace), DataW.trod enc Tryd.prog w 0 spare held n E cs = some x → ∃ a, R cs a)
    (h : DataW.trod enc Tryd.prog w 0 spare held fuel T cs = some x) : ∃ v l, cs = [v] ∧ RowK k (Lt w) w R v l ∧ ∃ ad cap, v = .slice ad l.length cap ∧ l.length ≤ cap ∧ cap ≤ maxLen := by
  rcases Go.Deep.open_slice ht h with ⟨rfl, _⟩ | ⟨a, len, cap, m, n, D, Pl, rfl, _, hl, hm, hmm, _, hx⟩
  · exact ⟨_, [], rfl, ⟨none, 0, rfl, Nat.zero_le _, fun h => absurd rfl h⟩, none, 0, rfl, Nat.le_refl _, by simp⟩
  · have hlm : len ≤ m := by rw [hmm]; split <;> omega
    rw [hc] at hx
    obtain ⟨l, h1, h2⟩ := exists_list (P := fun i y => ∃ cs', w.cells? 0 (a.add (i * k)) k = some cs' ∧ R cs' y) len (fun i hi => by
      obtain ⟨cs', e1, e2⟩ := hx i (by omega)
      obtain ⟨y, hy⟩ := el n cs' _ e2
      exact ⟨y, cs', e1, hy⟩)
    subst h1
    refine ⟨_, l, rfl, ⟨_, _, rfl, Nat.le_trans hl hm, fun hne => ?_⟩, _, _, rfl, hl, hm⟩
    obtain ⟨g, off, spot⟩ := a
    have hcell0 : ∃ c, w.cell? ⟨g, off, spot⟩ = some c := by
      obtain ⟨cs', e1, _⟩ := h2 0 (List.length_pos_iff.2 hne)
      obtain ⟨_, e3, e4⟩ := World.cells?_some e1
      have := e4 0 hk
      rw [Nat.zero_mul] at this
      exact ⟨cs'[0], by simpa [Addr.add, List.getElem?_eq_getElem (show 0 < cs'.length by omega)] using this⟩
    obtain ⟨c0, hc0⟩ := hcell0
    obtain rfl : spot = none := World.cell?_spot hc0
    refine ⟨g, off, rfl, World.block_lt_of_cell? w _ hc0, fun i hi => ?_⟩
    obtain ⟨cs', e1, e2⟩ := h2 i hi
    obtain ⟨_, e3, e4⟩ := World.cells?_some e1
    refine ⟨cs', e3, fun j c hj => ?_, e2⟩
    have hjk : j < k := by have := (List.getElem?_eq_some_iff.1 hj).1; omega
    have := e4 j hjk
    rw [Addr.add_lit, Addr.add_lit, hj] at this
    exact this
theorem row_of_trod {α : Type} {R : Value → α → Prop} {T E : TypeId} {fuel : Nat} {cs : List Value} {x : DataW H × List MemPlace} (ht : Tryd.prog.underlying T = some (.slice E)) (hc : Tryd.prog.cellsOf E = 1)
    (el : ∀ (n : Nat) (cs : List Value) (x : DataW H × List MemPlace), DataW.trod enc Tryd.prog w 0 spare held n E cs = some x → ∃ c a, cs = [c] ∧ R c a)
    (h : DataW.trod enc Tryd.prog w 0 spare held fuel T cs = some x) : ∃ v l, cs = [v] ∧ Row (Lt w) w R v l ∧ ∃ ad cap, v = .slice ad l.length cap ∧ l.length ≤ cap ∧ cap ≤ maxLen := by
  obtain ⟨v, l, h1, ⟨ad, cap, h2, h3, h4⟩, h5⟩ := rowk_of_trod (k := 1) (R := fun cs a => ∃ c, cs = [c] ∧ R c a) Nat.one_pos ht hc (fun n cs x h => by
    obtain ⟨c, a, e1, e2⟩ := el n cs x h
    exact ⟨a, c, e1, e2⟩) h
  refine ⟨v, l, h1, ⟨ad, cap, h2, h3, fun hl => ?_⟩, h5⟩
  obtain ⟨g, off, e1, e2, e3⟩ := h4 hl
  refine ⟨g, off, e1, e2, fun i hi => ?_⟩
  obtain ⟨cs', _, e4, c, rfl, e5⟩ := e3 i hi
  exact ⟨c, by simpa using e4 0 c rfl, e5⟩
theorem c3 : Tryd.prog.cellsOf 3 = 1 := by kernel_rfl
theorem cB : Tryd.prog.cellsOf 4 = 1 := by kernel_rfl
theorem cI : Tryd.prog.cellsOf 22 = 1 := by kernel_rfl
theorem cII : Tryd.prog.cellsOf 27 = 1 := by kernel_rfl
theorem cBB : Tryd.prog.cellsOf 28 = 1 := by kernel_rfl
theorem cD : Tryd.prog.cellsOf 30 = 3 := by kernel_rfl
theorem cU : Tryd.prog.cellsOf 63 = 1 := by kernel_rfl
theorem cSe : Tryd.prog.cellsOf 65 = 4 := by kernel_rfl
theorem cE : Tryd.prog.cellsOf 67 = 6 := by kernel_rfl
theorem cEE : Tryd.prog.cellsOf 23 = 1 := by kernel_rfl
theorem cN : Tryd.prog.cellsOf 25 = 4 := by kernel_rfl
variable {fuel : Nat} {cs : List Value} {x : DataW H × List MemPlace}
theorem ints_of_trod (h : DataW.trod enc Tryd.prog w 0 spare held fuel 22 cs = some x) : ∃ v l, cs = [v] ∧ IntsIn (Lt w) w v l := by
  obtain ⟨v, l, h1, h2, _⟩ := row_of_trod (R := IntR) Tryd.underlying22 c3 (fun n cs x h => by
    obtain ⟨z, e, _⟩ := DataW.trod_int Tryd.underlying3 h
    exact ⟨_, z, e, rfl⟩) h
  exact ⟨v, l, h1, h2⟩
theorem bools_of_trod (h : DataW.trod enc Tryd.prog w 0 spare held fuel 28 cs = some x) : ∃ v l, cs = [v] ∧ BoolsIn (Lt w) w v l := by
  obtain ⟨v, l, h1, h2, _⟩ := row_of_trod (R := BoolR) Tryd.underlying28 cB (fun n cs x h => by
    obtain ⟨z, e, _⟩ := DataW.trod_bool Tryd.underlying4 h
    exact ⟨_, z, e, rfl⟩) h
  exact ⟨v, l, h1, h2⟩
theorem rows_of_trod (h : DataW.trod enc Tryd.prog w 0 spare held fuel 27 cs = some x) : ∃ v l, cs = [v] ∧ RowsIn (Lt w) w v l := by
  obtain ⟨v, l, h1, h2, _⟩ := row_of_trod (R := IntsIn (Lt w) w) Tryd.underlying27 cI (fun n cs x h => ints_of_trod h) h
  exact ⟨v, l, h1, h2⟩
theorem trod_field {t : TypeId} {fs : Array Field} (ht : Tryd.prog.underlying t = some (.struct fs)) (h : DataW.trod enc Tryd.prog w 0 spare held fuel t cs = some x) :
    cs.length = Tryd.prog.cellsOf t ∧ ∃ n, ∀ (i : Nat) (f : Field), fs[i]? = some f → ∃ y, DataW.trod enc Tryd.prog w 0 spare held n f.type ((cs.drop f.offset).take (Tryd.prog.cellsOf f.type)) = some y := by
  obtain ⟨xs, n, _, _, h1, h2, h3⟩ := DataW.trod_struct ht h
  refine ⟨h1, n, fun i f hf => ?_⟩
  have hi := (Array.getElem?_eq_some_iff.1 hf).1
  exact ⟨xs[i], by rw [h3 i f hf, List.getElem?_eq_getElem]⟩
theorem fld {n : Nat} {fs : Array Field} (hf : ∀ (i : Nat) (f : Field), fs[i]? = some f → ∃ y, DataW.trod enc Tryd.prog w 0 spare held n f.type ((cs.drop f.offset).take (Tryd.prog.cellsOf f.type)) = some y) (i : Nat) {f : Field} (h : fs[i]? = some f) {t off k : Nat} (ht : f.type = t) (ho : f.offset = off) (hk : Tryd.prog.cellsOf t = k) :
    ∃ y, DataW.trod enc Tryd.prog w 0 spare held n t ((cs.drop off).take k) = some y := by
  subst ht
  subst ho
  subst hk
  exact hf i f h
set_option maxRecDepth 100000 in
theorem dfa_of_trod (h : DataW.trod enc Tryd.prog w 0 spare held fuel 30 cs = some x) : ∃ a b c d, cs = [a, b, c] ∧ DfaIn (Lt w) w a b c d := by
  obtain ⟨hl, n, hf⟩ := trod_field Tryd.underlying30 h
  rw [cD] at hl
  obtain ⟨a, b, c, rfl⟩ := len3 hl
  obtain ⟨_, h0⟩ := fld hf 0 rfl rfl rfl cI
  obtain ⟨_, h1⟩ := fld hf 1 rfl rfl rfl cII
  obtain ⟨_, h2⟩ := fld hf 2 rfl rfl rfl cBB
  obtain ⟨_, l0, e0, r0⟩ := ints_of_trod h0
  obtain ⟨_, l1, e1, r1⟩ := rows_of_trod h1
  obtain ⟨_, l2, e2, r2⟩ := bools_of_trod h2
  cases e0
  cases e1
  cases e2
  exact ⟨_, _, _, ⟨l0, l1, l2⟩, rfl, r0, r1, r2⟩
theorem u64_of_trod (h : DataW.trod enc Tryd.prog w 0 spare held fuel 63 cs = some x) : ∃ n, cs = [.int .u64 n] ∧ wOk n := by
  obtain ⟨z, e, _, hz⟩ := DataW.trod_int Tryd.underlying63 h
  refine ⟨z, e, ?_⟩
  have h9 := hz
  simp [Lit.wf, IntKind.min, IntKind.max, IntKind.signed, IntKind.bits] at h9
  unfold wOk
  omega
set_option maxRecDepth 100000 in
theorem set_of_trod (h : DataW.trod enc Tryd.prog w 0 spare held fuel 65 cs = some x) : ∃ s : Se, cs = s.ls ∧ s.ok := by
  obtain ⟨xs, m, _, _, hl, hn, hel⟩ := DataW.trod_array Tryd.underlying65 h
  rw [cSe] at hl
  obtain ⟨c0, c1, c2, c3, rfl⟩ := len4 hl
  simp only [cU] at hel
  have key : ∀ i, i < 4 → ∃ y, DataW.trod enc Tryd.prog w 0 spare held m 63 (([c0, c1, c2, c3].drop (i * 1)).take 1) = some y := fun i hi => ⟨_, (hel i hi).trans (List.getElem?_eq_getElem (by omega))⟩
  obtain ⟨_, h0⟩ := key 0 (by decide)
  obtain ⟨_, h1⟩ := key 1 (by decide)
  obtain ⟨_, h2⟩ := key 2 (by decide)
  obtain ⟨_, h3⟩ := key 3 (by decide)
  obtain ⟨n0, e0, k0⟩ := u64_of_trod h0
  obtain ⟨n1, e1, k1⟩ := u64_of_trod h1
  obtain ⟨n2, e2, k2⟩ := u64_of_trod h2
  obtain ⟨n3, e3, k3⟩ := u64_of_trod h3
  cases e0
  cases e1
  cases e2
  cases e3
  exact ⟨⟨n0, n1, n2, n3⟩, rfl, ⟨k0, k1, k2, k3⟩⟩
set_option maxRecDepth 100000 in
theorem edge_of_trod (h : DataW.trod enc Tryd.prog w 0 spare held fuel 67 cs = some x) : ∃ e : Edge, cs = e.ls ∧ e.st.ok := by
  obtain ⟨hl, n, hf⟩ := trod_field Tryd.underlying67 h
  rw [cE] at hl
  obtain ⟨c0, c1, c2, c3', c4, c5, rfl⟩ := len6 hl
  obtain ⟨_, h0⟩ := fld hf 0 rfl rfl rfl c3
  obtain ⟨_, h1⟩ := fld hf 1 rfl rfl rfl c3
  obtain ⟨_, h2⟩ := fld hf 2 rfl rfl rfl cSe
  obtain ⟨z0, e0, _⟩ := DataW.trod_int Tryd.underlying3 h0
  obtain ⟨z1, e1, _⟩ := DataW.trod_int Tryd.underlying3 h1
  obtain ⟨s, e2, hs⟩ := set_of_trod h2
  cases e0
  cases e1
  cases e2
  exact ⟨⟨z0, z1, s⟩, rfl, hs⟩
theorem edges_of_trod (h : DataW.trod enc Tryd.prog w 0 spare held fuel 23 cs = some x) : ∃ v l, cs = [v] ∧ EdgesIn (Lt w) w v l ∧ ∀ e ∈ l, e.st.ok := by
  obtain ⟨v, l, h1, h2, _⟩ := rowk_of_trod (k := 6) (R := fun cs e => cs = Edge.ls e ∧ e.st.ok) (by decide) Tryd.underlying23 cE (fun n cs x h => edge_of_trod h) h
  obtain ⟨h3, h4⟩ := RowK.wide (ls := Edge.ls) (fun _ => rfl) h2
  exact ⟨v, l, h1, h3, h4⟩
set_option maxRecDepth 100000 in
theorem nfa_of_trod (h : DataW.trod enc Tryd.prog w 0 spare held fuel 25 cs = some x) : ∃ s a b c n, cs = [s, a, b, c] ∧ NfaIn (Lt w) w s a b c n ∧ ∀ e ∈ n.edges, e.st.ok := by
  obtain ⟨hl, m, hf⟩ := trod_field Tryd.underlying25 h
  rw [cN] at hl
  obtain ⟨s, a, b, c, rfl⟩ := len4 hl
  obtain ⟨_, h0⟩ := fld hf 0 rfl rfl rfl c3
  obtain ⟨_, h1⟩ := fld hf 1 rfl rfl rfl cI
  obtain ⟨_, h2⟩ := fld hf 2 rfl rfl rfl cI
  obtain ⟨_, h3⟩ := fld hf 3 rfl rfl rfl cEE
  obtain ⟨z, e0, _⟩ := DataW.trod_int Tryd.underlying3 h0
  obtain ⟨_, l1, e1, r1⟩ := ints_of_trod h1
  obtain ⟨_, l2, e2, r2⟩ := ints_of_trod h2
  obtain ⟨_, l3, e3, r3, k3⟩ := edges_of_trod h3
  cases e0
  cases e1
  cases e2
  cases e3
  exact ⟨_, _, _, _, ⟨z, l1, l2, l3⟩, rfl, ⟨rfl, r1, r2, r3⟩, k3⟩
set_option maxRecDepth 100000 in
/-- an automaton of one way that is a parameter -/
theorem open_dfa {b0 : Nat} {v : Value} {d : DataW H} {ps : List MemPlace} (hval : Value.okWide Tryd.prog w .any b0 30 v) (hd : DataW.Trod enc Tryd.prog w 0 spare held 30 v d ps) :
    ∃ a b c y, v = .agg #[a, b, c] ∧ DfaIn (Lt w) w a b c y := by
  unfold Value.okWide at hval
  simp only [Tryd.underlying30] at hval
  obtain ⟨cs, rfl, _⟩ := hval
  obtain ⟨fuel, hf⟩ := hd
  obtain ⟨a, b, c, y, h1, h2⟩ := dfa_of_trod hf
  have e : cs.toList = [a, b, c] := h1
  obtain rfl : cs = #[a, b, c] := by rw [← Array.toArray_toList (xs := cs), e]
  exact ⟨a, b, c, y, rfl, h2⟩
set_option maxRecDepth 100000 in
/-- an automaton of many ways that is a parameter -/
theorem open_nfa {b0 : Nat} {v : Value} {d : DataW H} {ps : List MemPlace} (hval : Value.okWide Tryd.prog w .any b0 25 v) (hd : DataW.Trod enc Tryd.prog w 0 spare held 25 v d ps) :
    ∃ s a b c n, v = .agg #[s, a, b, c] ∧ NfaIn (Lt w) w s a b c n ∧ ∀ e ∈ n.edges, e.st.ok := by
  unfold Value.okWide at hval
  simp only [Tryd.underlying25] at hval
  obtain ⟨cs, rfl, _⟩ := hval
  obtain ⟨fuel, hf⟩ := hd
  obtain ⟨s, a, b, c, y, h1, h2⟩ := nfa_of_trod hf
  have e : cs.toList = [s, a, b, c] := h1
  obtain rfl : cs = #[s, a, b, c] := by rw [← Array.toArray_toList (xs := cs), e]
  exact ⟨s, a, b, c, y, rfl, h2⟩
end
/-- what the listed table's datum says of its cells -/
theorem tab_cells {H : Type} {enc : TypeId × Value → H} {w : World} {spare : Nat → Bool} {held : Bool} {fuel : Nat} {cs : List Value} {ps : List MemPlace} (l : List Nat) (hl : l.length = 64)
    (h : DataW.trod enc Tryd.prog w 0 spare held fuel 132 cs = some (.agg (l.map fun (n : Nat) => .lit (.int .u8 (n : Int))), ps)) : ∀ j, j < l.length → cs[j]? = some (.int .u8 (l.getD j 0)) := by
  intro j hj
  obtain ⟨xs, m, _, hx, hlen, hn, hel⟩ := DataW.trod_array Tryd.underlying132 h
  have c8 : Tryd.prog.cellsOf 5 = 1 := by kernel_rfl
  have c64 : Tryd.prog.cellsOf 132 = 64 := by kernel_rfl
  have h0 := hel j (by omega)
  simp only [c8] at h0
  rw [Nat.mul_one, List.getElem?_eq_getElem (by omega)] at h0
  obtain ⟨k, e1, e2, _⟩ := DataW.trod_int Tryd.underlying5 h0
  simp only [Prod.mk.injEq, DataW.agg.injEq] at hx
  have h3 : (xs.map (·.1))[j]? = (l.map fun (n : Nat) => (DataW.lit (.int .u8 (n : Int)) : DataW H))[j]? := by rw [hx.1]
  rw [List.getElem?_map, List.getElem?_map, List.getElem?_eq_getElem (by omega), List.getElem?_eq_getElem hj] at h3
  simp only [Option.map_some, e2, Option.some.injEq, DataW.lit.injEq, Lit.int.injEq, true_and] at h3
  have hjc : j < cs.length := by omega
  rw [List.drop_eq_getElem_cons hjc] at e1
  simp only [List.take_succ_cons, List.take_zero, List.cons.injEq, and_true] at e1
  rw [List.getElem?_eq_getElem hjc, e1, h3, List.getD_eq_getElem?_getD, List.getElem?_eq_getElem hj]
  rfl
end Go.Proofs.YtfjomnhdmkbkiaaDoor.Im
